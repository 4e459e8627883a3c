/-
  Several texts laid into one (merge.py): Key1, Key2, KeysWalk, Open2, KeysProof.
-/
import Derived.Test.YtlgpipdeckdmjaaGreatVf15
import Derived.Test.YtlgpipdeckdmjaaGreatVf19
import Derived.Test.YtlgpipdeckdmjaaGreatVf21
import Derived.OpenShut
import Derived.Test.YtlgpipdeckdmjaaGreatVf24
import Derived.Test.YtlgpipdeckdmjaaGreatRows
import Derived.WalkKit
import Derived.ProofKit
import Derived.ShutString
import Derived.ChangeOld
import Derived.Below
/-
  low; Secret.Public out of range; Of.
-/
set_option linter.unusedVariables false
set_option linter.unusedSimpArgs false
namespace Go.Proofs.YtlgpipdeckdmjaaGreat.Rm
open Go.RowKit Base Reg Types Slice Sha
open Go.Proofs.YtlgpipdeckdmjaaGreat.One
open Go.Proofs.YtlgpipdeckdmjaaGreat.Str
open Go.Proofs.YtlgpipdeckdmjaaGreat.Mer
open Go.Proofs.YtlgpipdeckdmjaaGreat.Sgn
theorem low (w : World) (n : Nat) (hn : n < 256) : Calls Tryz.prog 8 #[.int .u8 (n : Int)] w fun e w' => e = .returned (.int .i64 ((1 + n % 3 : Nat) : Int)) ∧ w = w' := by
  have h0 : (0 : Int) ≤ (n : Int) := by omega
  have h1 : (n : Int) ≤ 255 := by omega
  have e3 : ((1 + n % 3 : Nat) : Int) = 1 + (n : Int) % 3 := by push_cast; rfl
  rw [e3]
  clear e3
  go_enter Tryz.func8, Tryz.ntmps8
  go_wp2
  go_ret
  exact ⟨rfl, rfl⟩
theorem secret_public_out (w : World) (seed : List Nat) (h : Int) (hs : seed.length = 32) (ho : ¬ (1 ≤ h ∧ h ≤ 8)) :
    Calls Tryz.prog 12 #[.agg (secV seed h).toArray] w fun e w' => e = .returned (.tuple #[.agg (pubV 0 (zs 16)).toArray, .int .i64 2]) ∧ Below w.heap.size w w' := by
  have c1 := Lib.hid (fun W => secret_check_out W seed h hs ho)
  obtain ⟨Z, hZ⟩ : ∃ Z, Z = zs 16 := ⟨_, rfl⟩
  have lZ : Z.length = 16 := by rw [hZ, zs_length]
  have b0 := bl0_pub
  have a0 := al_pub
  rw [← hZ] at b0 a0 ⊢
  obtain ⟨W0, hW0⟩ : ∃ W0, W0 = (w.alloc (.cells (secV seed h).toArray 27)).alloc (.cells (pubV 0 Z).toArray 39) := ⟨_, rfl⟩
  have b1 : blk W0 (w.heap.size + 1) (pubV 0 Z) 39 := by rw [hW0]; exact blk_at _ _ _ (by simp only [alloc_size])
  have bl : Below w.heap.size w W0 := by rw [hW0]; exact ((Below.refl w.heap.size w).alloc (Nat.le_refl _) _).alloc (by simp only [alloc_size]; omega) _
  have S0 := Lib.hid (And.intro b1 bl)
  have HW := Lib.hid hW0
  clear b1 bl hW0 hZ ho
  go_enter Tryz.func12, Tryz.ntmps12
  go_wp2_with fail
  rw [← HW.out]
  refine (c1.out _).mono ?_
  rintro e w1 ⟨rfl, hb1⟩
  have S1 := Lib.hid (And.intro (blk_keep S0.out.1 hb1) (bel_trans S0.out.2 hb1 S0.out.2.size))
  have k1 := bk_of S1.out.1
  clear hb1
  go_wp2_with fail
  refine ret2_pub rfl rfl rfl (blk_setRow S1.out.1 (pubV 0 Z)) (by rw [pubV_length, lZ]) rfl ⟨rfl, bel_setRow S1.out.2 (by omega) _⟩
theorem rd_bl_au (x : Array (Nat × Value)) : Instr.build 54 x = blA 54 x := rfl
theorem bl_au_0 (w : World) : (blA 54 #[]).run Tryz.prog w = .ok (agg .u8 (zs 16)) w := by kernel_rfl
attribute [local go_sem ↓ high] rd_bl_au
attribute [local go_sem] bl_au_0
theorem of_out (w : World) (r : List Nat) (h : Int) (hr : r.length = 16) (ho : ¬ (1 ≤ h ∧ h ≤ 8)) :
    Calls Tryz.prog 22 #[.agg (pubV h r).toArray] w fun e w' => e = .returned (.tuple #[agg .u8 (zs 16), .int .i64 2]) ∧ Below w.heap.size w w' := by
  have c1 := Lib.hid (fun W => public_check_out W r h ho)
  obtain ⟨W0, hW0⟩ : ∃ W0, W0 = (w.alloc (.cells (pubV h r).toArray 39)).alloc (.cells (cl .u8 (zs 16)).toArray 54) := ⟨_, rfl⟩
  have b1 : blk W0 (w.heap.size + 1) (cl .u8 (zs 16)) 54 := by rw [hW0]; exact blk_at _ _ _ (by simp only [alloc_size])
  have bl : Below w.heap.size w W0 := by rw [hW0]; exact ((Below.refl w.heap.size w).alloc (Nat.le_refl _) _).alloc (by simp only [alloc_size]; omega) _
  have S0 := Lib.hid (And.intro b1 bl)
  have HW := Lib.hid hW0
  clear b1 bl hW0 ho
  go_enter Tryz.func22, Tryz.ntmps22
  go_wp2_with fail
  rw [← HW.out]
  refine (c1.out _).mono ?_
  rintro e w1 ⟨rfl, hb1⟩
  have S1 := Lib.hid (And.intro (blk_keep S0.out.1 hb1) (bel_trans S0.out.2 hb1 S0.out.2.size))
  have k1 := bk_of S1.out.1
  have lz := zs_length 16
  clear hb1
  go_wp2_with fail
  refine ret2_author rfl rfl rfl (blk_setRow S1.out.1 (cl .u8 (zs 16))) lz rfl ⟨rfl, bel_setRow S1.out.2 (by omega) _⟩
theorem of_in (w : World) (r : List Nat) (h : Nat) (hr : r.length = 16) (h1 : 1 ≤ h) (h8 : h ≤ 8) :
    Calls Tryz.prog 22 #[.agg (pubV (h : Int) r).toArray] w fun e w' => e = .returned (.tuple #[agg .u8 (hf (pubB h r)), .int .i64 0]) ∧ Below w.heap.size w w' := by
  have c1 := Lib.hid (fun W => public_check W r (h : Int) (by omega) (by omega))
  have c2 := Lib.hid (fun W => pub_bytes W r h hr (by omega))
  have lp : (pubB h r).length = 17 := by simp [pubB, hr]
  obtain ⟨P, hP⟩ : ∃ P, P = pubB h r := ⟨_, rfl⟩
  rw [← hP] at c2 lp ⊢
  obtain ⟨W0, hW0⟩ : ∃ W0, W0 = (w.alloc (.cells (pubV (h : Int) r).toArray 39)).alloc (.cells (cl .u8 (zs 16)).toArray 54) := ⟨_, rfl⟩
  have b0 : blk W0 w.heap.size (pubV (h : Int) r) 39 := by rw [hW0]; exact blk_alloc (blk_new _ _ _) _
  have b1 : blk W0 (w.heap.size + 1) (cl .u8 (zs 16)) 54 := by rw [hW0]; exact blk_at _ _ _ (by simp only [alloc_size])
  have bl : Below w.heap.size w W0 := by rw [hW0]; exact ((Below.refl w.heap.size w).alloc (Nat.le_refl _) _).alloc (by simp only [alloc_size]; omega) _
  have S0 := Lib.hid (And.intro b0 (And.intro b1 bl))
  have HW := Lib.hid hW0
  clear b0 b1 bl hW0 hP
  go_enter Tryz.func22, Tryz.ntmps22
  go_wp2_with fail
  rw [← HW.out]
  refine (c1.out _).mono ?_
  rintro e w1 ⟨rfl, hb1⟩
  have S1 := Lib.hid (And.intro (blk_keep S0.out.1 hb1) (And.intro (blk_keep S0.out.2.1 hb1) (bel_trans S0.out.2.2 hb1 S0.out.2.2.size)))
  have k1 := bk_of S1.out.1
  clear hb1
  go_wp2_with fail
  refine (c2.out _).mono ?_
  rintro e w2 ⟨v, rfl, ho, hb2⟩
  have S2 := Lib.hid (And.intro (blk_keep S1.out.2.1 hb2) (bel_trans S1.out.2.2 hb2 S1.out.2.2.size))
  have HO := Lib.hid (SlC.of_own ho)
  clear hb2 ho k1
  go_wp2_with fail
  refine (sumHalf _ P v HO.out (by omega)).mono ?_
  rintro e w3 ⟨rfl, hb3⟩
  have S3 := Lib.hid (And.intro (blk_keep S2.out.1 hb3) (bel_trans S2.out.2 hb3 S2.out.2.size))
  have k3 := bk_of S3.out.1
  have lh := hf_length P
  clear hb3
  go_wp2_with fail
  refine ret2_author rfl rfl rfl (blk_setRow S3.out.1 (cl .u8 (hf P))) lh rfl ⟨rfl, bel_setRow S3.out.2 (by omega) _⟩
end Go.Proofs.YtlgpipdeckdmjaaGreat.Rm
/-
  SignerKeys: the walk.
-/
set_option linter.unusedVariables false
set_option linter.unusedSimpArgs false
namespace Go.Proofs.YtlgpipdeckdmjaaGreat.Rm
open Go.RowKit Base Reg Types Slice Sha
open Go.Proofs.YtlgpipdeckdmjaaGreat.One
open Go.Proofs.YtlgpipdeckdmjaaGreat.Str
open Go.Proofs.YtlgpipdeckdmjaaGreat.Mer
open Go.Proofs.YtlgpipdeckdmjaaGreat.Sgn
open Go.Proofs.YtlgpipdeckdmjaaGreat.Known8 (known)
theorem bl_pub_h (h : Int) (w : World) : (blA 39 #[(0, .int .i64 h)]).run Tryz.prog w = .ok (.agg (pubV h (zs 16)).toArray) w := by kernel_rfl
theorem bl_sec_h (h : Int) (w : World) : (blA 27 #[(1, .int .i64 h)]).run Tryz.prog w = .ok (.agg (secV (zs 32) h).toArray) w := by kernel_rfl
theorem rd_eq_pub (x y : Value) : binOp .eql 39 x y = eqA 39 x y := rfl
theorem eq_pub0 (w : World) : (eqA 39 (.agg (pubV 0 (zs 16)).toArray) (.agg (pubV 0 (zs 16)).toArray)).run Tryz.prog w = .ok (.bool true) w := by kernel_rfl
def AtK (w : World) (a b : Nat) (h : Nat) (seed K U : List Nat) (W : World) : Prop :=
  blk W w.heap.size (cl .u8 seed) 22 ∧ blk W a (pubV (h : Int) K) 39 ∧ blk W b (cl .u8 U) 54 ∧ Below w.heap.size w W
theorem AtK_keep {w : World} {a b h : Nat} {seed K U : List Nat} {W W' : World} (hA : AtK w a b h seed K U W) (hb : Below W.heap.size W W') : AtK w a b h seed K U W' := ⟨blk_keep hA.1 hb, blk_keep hA.2.1 hb, blk_keep hA.2.2.1 hb, bel_trans hA.2.2.2 hb hA.2.2.2.size⟩
attribute [local go_sem ↓ high] rd_bl_au rd_eq_pub
attribute [local go_sem] bl_au_0 bl_pub_h bl_sec_h eq_pub0
set_option maxRecDepth 20000 in
set_option maxHeartbeats 4000000 in
theorem keys_walk (w : World) (seed : List Nat) (m : Nat) (other : Int) (hs : seed.length = 32) (hm : m < 256) :
    Calls Tryz.prog 5 #[agg .u8 seed, .int .u8 (m : Int), .int .i64 other] w fun e w' => e = .returned (.bool true) ∧ Below w.heap.size w w' := by
  obtain ⟨h, hh⟩ : ∃ h, h = 1 + m % 3 := ⟨_, rfl⟩
  have h123 : h = 1 ∨ h = 2 ∨ h = 3 := by omega
  have cl0 := Lib.hid (fun W => low W m hm)
  rw [← hh] at cl0
  have lK := keyRoot_length seed h
  have c1 := Lib.hid (fun W => secret_public W seed h hs h123)
  have c2 := Lib.hid (fun W => of_in W (keyRoot seed h) h lK (by omega) (by omega))
  have c3 := Lib.hid (fun W => root8 W seed h hs h123)
  have c4 := Lib.hid (fun W => author8 W (keyRoot seed h) h lK (by omega))
  obtain ⟨K, hK⟩ : ∃ K, K = keyRoot seed h := ⟨_, rfl⟩
  rw [← hK] at lK c1 c2 c3 c4
  have lU := hf_length (pubB h K)
  obtain ⟨U, hU⟩ : ∃ U, U = hf (pubB h K) := ⟨_, rfl⟩
  rw [← hU] at lU c2 c4
  clear hK hU hh h123
  have HB0 := Lib.hid (And.intro (blk_new w (cl .u8 seed) 22) ((Below.refl w.heap.size w).alloc (Nat.le_refl _) (.cells (cl .u8 seed).toArray 22)))
  go_enter Tryz.func5, Tryz.ntmps5
  go_wp2_with fail
  refine (known _).mono ?_
  rintro e w1 ⟨rfl, hb1⟩
  have S1 := Lib.hid (And.intro (blk_keep HB0.out.1 hb1) (bel_trans HB0.out.2 hb1 HB0.out.2.size))
  clear hb1
  go_wp2_with fail
  refine (cl0.out _).mono ?_
  rintro e w1' ⟨rfl, rfl⟩
  have k1 := bk_of S1.out.1
  go_wp2_with fail
  refine (c1.out _).mono ?_
  rintro e w2 ⟨rfl, hb2⟩
  have S2 := Lib.hid (show blk (w2.alloc (.cells (pubV (h : Int) K).toArray 39)) w.heap.size (cl .u8 seed) 22 ∧ blk (w2.alloc (.cells (pubV (h : Int) K).toArray 39)) w2.heap.size (pubV (h : Int) K) 39 ∧ Below w.heap.size w (w2.alloc (.cells (pubV (h : Int) K).toArray 39)) from ⟨blk_alloc (blk_keep S1.out.1 hb2) _, blk_new _ _ _, by have := bel_trans S1.out.2 hb2 S1.out.2.size; exact this.alloc this.size _⟩)
  clear hb2 k1
  go_wp2_with fail
  refine (c2.out _).mono ?_
  rintro e w3 ⟨rfl, hb3⟩
  have S3 := Lib.hid (show AtK w w2.heap.size w3.heap.size h seed K U (w3.alloc (.cells (cl .u8 U).toArray 54)) from ⟨blk_alloc (blk_keep S2.out.1 hb3) _, blk_alloc (blk_keep S2.out.2.1 hb3) _, blk_new _ _ _, by have := bel_trans S2.out.2.2 hb3 S2.out.2.2.size; exact this.alloc this.size _⟩)
  clear hb3
  obtain ⟨ι, G, hG, hin⟩ := class_of (AtK w w2.heap.size w3.heap.size h seed K U)
  have h0 := hin (w3.alloc (.cells (cl .u8 U).toArray 54)).drew (AtK_keep S3.out (Below.refl _ _).drew)
  have hne : Nonempty ι := ⟨h0.choose⟩
  have q0 : ∀ i, bk (G i) w.heap.size = some (cl .u8 seed).toArray := fun i => bk_of (hG i).1
  have q1 : ∀ i, (G i).cell? ⟨w2.heap.size, 0, none⟩ = some (.int .i64 (h : Int)) := fun i => pub_cell0 (hG i).2.1
  have q2 : ∀ i, (ldA 23 (.pointer (some ⟨w2.heap.size, 1, none⟩))).run Tryz.prog (G i) = .ok (agg .u8 K) (G i) := fun i => ld_root lK (hG i).2.1
  have q3 : ∀ i, bk (G i) w3.heap.size = some (cl .u8 U).toArray := fun i => bk_of (hG i).2.2.1
  have HG := Lib.hid hG
  have HI := Lib.hid hin
  have HH := Lib.hid h0
  clear hG hin h0
  go_wp2_with fail
  refine wp_region_all G (by kernel_rfl) (by kernel_rfl) HH.out ?_
  repeat (go_big_quiet_step (first
    | (go_at_call 23; exact quiet_below HG.out HI.out (fun _ _ h hb => AtK_keep h hb) (c3.out _))
    | (go_at_call 24; exact quiet_below HG.out HI.out (fun _ _ h hb => AtK_keep h hb) (c4.out _))))
  refine wpQuiet_nil ?_
  intro i
  have hS := HG.out i
  obtain ⟨W, hW⟩ : ∃ W, W = G i := ⟨_, rfl⟩
  rw [← hW] at hS ⊢
  have S4 := Lib.hid hS
  have k4 := bk_of hS.1
  have k5 := ld_root lK hS.2.1
  clear q0 q1 q2 q3 HG HI HH hS hW
  by_cases ho : 1 ≤ other ∧ other ≤ 8
  · obtain ⟨o1, o8⟩ := ho
    clear k4 k5
    go_wp2_with fail
    refine (public_check W (zs 16) other o1 o8).mono ?_
    rintro e w5 ⟨rfl, hb5⟩
    have S5 := Lib.hid (bel_trans S4.out.2.2.2 hb5 S4.out.2.2.2.size)
    clear hb5
    go_wp2_with fail
    refine (secret_check w5 (zs 32) other (zs_length 32) o1 o8).mono ?_
    rintro e w6 ⟨rfl, hb6⟩
    have S6 := Lib.hid (bel_trans S5.out hb6 S5.out.size)
    clear hb6
    go_wp2_with fail
    go_ret
    exact ⟨rfl, S6.out⟩
  · have c5 := Lib.hid (fun W => secret_public_out W seed other hs ho)
    have c6 := Lib.hid (fun W => of_out W K other lK ho)
    have c7 := Lib.hid (fun W => public_check_out W (zs 16) other ho)
    have c8 := Lib.hid (fun W => secret_check_out W (zs 32) other (zs_length 32) ho)
    have z16 := zs_length 16
    have hcase : other < 1 ∨ 8 < other := by omega
    clear ho
    rcases hcase with h1 | h1
    all_goals
      go_wp2_with fail
      refine (c5.out _).mono ?_
      rintro e w5 ⟨rfl, hb5⟩
      have S5 := Lib.hid (show AtK w w2.heap.size w3.heap.size h seed K U (w5.alloc (.cells (pubV 0 (zs 16)).toArray 39)) ∧ blk (w5.alloc (.cells (pubV 0 (zs 16)).toArray 39)) w5.heap.size (pubV 0 (zs 16)) 39 from ⟨AtK_keep (AtK_keep S4.out hb5) ((Below.refl _ _).alloc (Nat.le_refl _) _), blk_new _ _ _⟩)
      have k6 := ld_root lK S5.out.1.2.1
      clear hb5 k4 k5
      go_wp2_with fail
      refine (c6.out _).mono ?_
      rintro e w6 ⟨rfl, hb6⟩
      have S6 := Lib.hid (show blk (w6.alloc (.cells (cl .u8 (zs 16)).toArray 54)) w5.heap.size (pubV 0 (zs 16)) 39 ∧ blk (w6.alloc (.cells (cl .u8 (zs 16)).toArray 54)) w6.heap.size (cl .u8 (zs 16)) 54 ∧ Below w.heap.size w (w6.alloc (.cells (cl .u8 (zs 16)).toArray 54)) from ⟨blk_alloc (blk_keep S5.out.2 hb6) _, blk_new _ _ _, by have := bel_trans S5.out.1.2.2.2 hb6 S5.out.1.2.2.2.size; exact this.alloc this.size _⟩)
      clear hb6 k6
      go_wp2_with fail
      refine (c7.out _).mono ?_
      rintro e w7 ⟨rfl, hb7⟩
      have S7 := Lib.hid (And.intro (blk_keep S6.out.1 hb7) (And.intro (blk_keep S6.out.2.1 hb7) (bel_trans S6.out.2.2 hb7 S6.out.2.2.size)))
      clear hb7
      go_wp2_with fail
      refine (c8.out _).mono ?_
      rintro e w8 ⟨rfl, hb8⟩
      have S8 := Lib.hid (And.intro (blk_keep S7.out.1 hb8) (And.intro (blk_keep S7.out.2.1 hb8) (bel_trans S7.out.2.2 hb8 S7.out.2.2.size)))
      have k7 := bk_of S8.out.1
      have k8 := bk_of S8.out.2.1
      clear hb8
      go_wp2_with fail
      go_ret
      exact ⟨rfl, S8.out.2.2⟩
end Go.Proofs.YtlgpipdeckdmjaaGreat.Rm
/-
  SignerKeys: the walk, whatever comes in.
-/
set_option linter.unusedVariables false
namespace Go.Proofs.YtlgpipdeckdmjaaGreat.KeysWalk
open Go.RowKit Base Reg Types Slice Sha
open Go.Proofs.YtlgpipdeckdmjaaGreat.One Go.Proofs.YtlgpipdeckdmjaaGreat.Str Go.Proofs.YtlgpipdeckdmjaaGreat.Mer Go.Proofs.YtlgpipdeckdmjaaGreat.Rm
theorem u8_range {n : Int} (h : (Lit.int .u8 n).wf = true) : ∃ m : Nat, n = (m : Int) ∧ m < 256 := by
  have h2 := bounds_u8 h
  exact ⟨n.toNat, by omega, by omega⟩
theorem walk (w : World) (seed : List Nat) (n : Int) (other : Int) (hs : seed.length = 32) (bs : ∀ j, seed.getD j 0 < 256) (wn : (Lit.int .u8 n).wf = true) (wo : (Lit.int .i64 other).wf = true) :
    Calls Tryz.prog 5 #[agg .u8 seed, .int .u8 n, .int .i64 other] w fun e w' => e = .returned (.bool true) ∧ Below w.heap.size w w' := by
  obtain ⟨m, rfl, hm⟩ := u8_range wn
  exact keys_walk w seed m other hs hm
end Go.Proofs.YtlgpipdeckdmjaaGreat.KeysWalk
/-
  Arrays of numbers of 16 bits that come in by value. No program.
-/
set_option linter.unusedVariables false
set_option linter.unusedSimpArgs false
namespace Go.Proofs.YtlgpipdeckdmjaaGreat.Opened
open Go.ChangeShapes Go.WideShapes Go.ChangeAt Go.RowKit Base
theorem open_u16 {H : Type} {enc : TypeId × Value → H} {P : Program} {w : World} {base : Nat} {spare : Nat → Bool} {held : Bool} {t e : TypeId} {n : Nat} {v : Value} {r : Reach} {d : DataW H} {ps : List MemPlace} (ht : P.underlying t = some (.array n e)) (he : P.underlying e = some (.int .u16)) (hce : P.cellsOf e = 1) (hct : P.cellsOf t = n)
    {b0 : Nat} (hval : Value.okWide P w r b0 t v) (hd : DataW.Trod enc P w base spare held t v d ps) : ∃ l : List Nat, v = agg .u16 l ∧ l.length = n ∧ ∀ j, l.getD j 0 < 65536 := by
  obtain ⟨zs, rfl, hl, hw⟩ := open_arr ht he hce hct hval hd
  refine ⟨zs.map Int.toNat, ?_, by simpa using hl, fun j => ?_⟩
  · rw [cl_of zs .u16 (fun z hz => (wf_u16 (hw z hz)).1)]
  · rw [List.getD_eq_getElem?_getD, List.getElem?_map]
    cases hj : zs[j]? with
    | none => simp
    | some z =>
      have := wf_u16 (hw z (List.mem_of_getElem? hj))
      simp only [Option.map_some, Option.getD_some]
      omega
end Go.Proofs.YtlgpipdeckdmjaaGreat.Opened
/-
  SignerKeys: the row's step over the walk.
-/
set_option linter.unusedVariables false
namespace Go.Proofs.YtlgpipdeckdmjaaGreat
namespace KeysProof
open Go.ChangeShapes Go.WideShapes Go.ChangeAt Go.RowKit
theorem own : ownKnob Tryz.prog.godebug = none := by kernel_rfl
theorem laidOut : laidOutB Tryz.prog = true := by kernel_rfl
set_option maxRecDepth 100000 in
theorem lifted (os : Os) (started : os.Started) (H : Type) (enc : TypeId × Value → H) :
    ReturnsInHanded {} Tryz.checked os 5 .any (Rows.signerKeysSpec.pre6 enc Tryz.prog Tryz.f5 Rows.signerKeysRow.domain false) (Rows.signerKeysSpec.post enc Tryz.prog Tryz.f5 false true false false) := by
  refine returnsInHanded_of_change (C := Tryz.checked) own started (by kernel_rfl) Tryz.func5
    (ChangeSpec.witness6 (enc := enc) (C := Tryz.checked) false ⟨#[], #[.agg (Base.cl .u8 (Base.zs 32)).toArray, .int .u8 0, .int .i64 0], []⟩ 8 (by kernel_rfl) (by kernel_rfl) (by kernel_rfl) (by kernel_rfl)) ?_
  intro W base args ds gs before hval0 hW hcnd _
  have hval : ∀ (j : Nat) t v, Tryz.f5.params[j]? = some t → args[j]? = some v → Value.okWide Tryz.prog W .any base t v := hval0
  have hW' := hW
  obtain ⟨p, q, hA0, hV, rfl, hfz, hnd⟩ := hW
  have hA : DataW.TrodAll enc Tryz.prog W 0 (fun _ => true) true Tryz.f5.params.toList args.toList ds p := hA0
  rw [Tryz.params5] at hA hval
  obtain ⟨v0, vs0, d0, ds0, p0, q0, hargs, rfl, rfl, h0, r0⟩ := trodAll_cons hA
  obtain ⟨v1, vs1, d1, ds1, p1, q1, rfl, rfl, rfl, h1, r1⟩ := trodAll_cons r0
  obtain ⟨v2, vs2, d2, ds2, p2, q2, rfl, rfl, rfl, h2, r2⟩ := trodAll_cons r1
  obtain ⟨rfl, rfl, rfl⟩ := trodAll_nil r2
  obtain rfl : args = #[v0, v1, v2] := by cases args; simp_all
  obtain ⟨rfl, rfl⟩ := trodVars_none hV
  have k0 := h0
  have lt0 : ∀ x ∈ p0, x.block < W.heap.size := by obtain ⟨m, hm⟩ := k0; exact DataW.trod_lt m _ _ _ hm
  obtain ⟨l0, rfl, hl0, hb0⟩ := Opened.open_bytes Tryz.underlying22 Tryz.underlying5 (by kernel_rfl) (by kernel_rfl) (hval 0 22 v0 rfl rfl) h0
  obtain ⟨a1, rfl, rfl, rfl, w1⟩ := open_int Tryz.underlying5 (hval 1 5 v1 rfl rfl) h1
  obtain ⟨a2, rfl, rfl, rfl, w2⟩ := open_int Tryz.underlying3 (hval 2 3 v2 rfl rfl) h2
  clear hA0 hval0
  refine (KeysWalk.walk W l0 a1 a2 hl0 hb0 w1 w2).mono fun e W' ⟨he, bel⟩ => ?_
  subst he
  exact ⟨_, rfl, _, _, _, [], _, [], hW', trodAll_mk1 (shut_bool Tryz.underlying4 _), (trodAll_cons_mk (Below.trod laidOut (by kernel_rfl) (of_decide_eq_true (by kernel_rfl)) k0 bel lt0) (trodAll_cons_mk (shut_int Tryz.underlying5 w1) (trodAll_cons_mk (shut_int Tryz.underlying3 w2) trodAll_mk0))), rfl, bel.frame _, fun h => by cases h⟩

theorem over : Rows.signerKeysRow.holds Tryz.pinned (OpenSpec.ofChange Rows.signerKeysSpec) :=
  OpenClaim.holds_of_wide 5 Tryz.f5 rfl rfl rfl rfl rfl rfl rfl ⟨rfl, rfl, rfl, rfl, rfl⟩ rfl rfl rfl rfl rfl (by kernel_rfl) Tryz.func5 (by kernel_rfl)
    (of_decide_eq_true (by kernel_rfl)) (by unfold Func.isWrapper; first | (rw [if_pos (by decide +kernel)]; kernel_rfl) | (rw [if_neg (by decide +kernel)]; exact ⟨rfl, rfl⟩))
    (fun os started H enc _ => lifted os started H enc)
end KeysProof
theorem keysProved : Rows.SignerKeysSaid := KeysProof.over
end Go.Proofs.YtlgpipdeckdmjaaGreat
