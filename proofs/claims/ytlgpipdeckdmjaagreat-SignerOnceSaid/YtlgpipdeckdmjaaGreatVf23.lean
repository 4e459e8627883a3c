/-
  Several texts laid into one (merge.py): Ver3.
-/
import Derived.Test.YtlgpipdeckdmjaaGreatVf19
import Derived.Test.YtlgpipdeckdmjaaGreatVf14
import Derived.Test.YtlgpipdeckdmjaaGreatVf22
/-
  SignerVerify: the walk. Printed by gen_ver.py.
-/
set_option linter.unusedVariables false
set_option linter.unusedSimpArgs false
namespace Go.Proofs.YtlgpipdeckdmjaaGreat.Rm
open Go.RowKit Base Reg Types Slice Sha
open Go.Proofs.YtlgpipdeckdmjaaGreat.One
open Go.Proofs.YtlgpipdeckdmjaaGreat.Str
open Go.Proofs.YtlgpipdeckdmjaaGreat.Mer
open Go.Proofs.YtlgpipdeckdmjaaGreat.Sgn
open Go.Proofs.YtlgpipdeckdmjaaGreat.Known8 (known)
open Go.Proofs.YtlgpipdeckdmjaaGreat.Nil (own back same few)
open Go.Proofs.YtlgpipdeckdmjaaGreat.Signed (rd_bl16 bl16_0)
def AtV (w : World) (a b e : Nat) (h l : Int) (root d ch R : List Nat) (x y : Value) (ps : List (List Nat)) (W : World) : Prop :=
  blk W w.heap.size (cl .u8 root) 23 ∧ blk W (w.heap.size + 1) (cl .u8 d) 23 ∧ blk W (w.heap.size + 1 + 1) (sigV l ch x) 36 ∧ blk W a (pubV h root) 39 ∧ blk W b (sigV l ch y) 31 ∧ SlN W y ps ∧ blk W e (cl .u8 R) 23 ∧ SlN W x ps ∧ Below w.heap.size w W
theorem AtV_keep {w : World} {a b e : Nat} {h l : Int} {root d ch R : List Nat} {x y : Value} {ps : List (List Nat)} {W W' : World} (hA : AtV w a b e h l root d ch R x y ps W) (hb : Below W.heap.size W W') : AtV w a b e h l root d ch R x y ps W' :=
  ⟨blk_keep hA.1 hb, blk_keep hA.2.1 hb, blk_keep hA.2.2.1 hb, blk_keep hA.2.2.2.1 hb, blk_keep hA.2.2.2.2.1 hb, hA.2.2.2.2.2.1.keep hb, blk_keep hA.2.2.2.2.2.2.1 hb, hA.2.2.2.2.2.2.2.1.keep hb, bel_trans hA.2.2.2.2.2.2.2.2 hb hA.2.2.2.2.2.2.2.2.size⟩
attribute [local go_sem ↓ high] rd_bl16
attribute [local go_sem] bl16_0
theorem ver_few (w : World) (h l : Int) (root ch d : List Nat) (A : Option Addr) (n c : Nat) (hr : root.length = 16) (hc : ch.length = 560) (hd : d.length = 16) (hn : ¬ n ≤ 20) :
    Calls Tryz.prog 4 #[.int .i64 h, agg .u8 root, agg .u8 d, .agg (sigV l ch (.slice A n c)).toArray] w fun e w' => e = .returned (.bool true) ∧ Below w.heap.size w w' := by
  have hq : decide (n ≤ 20) = false := by simp; omega
  have cf := Lib.hid (fun W => few W l ch A n c hc)
  rw [hq] at cf
  obtain ⟨W0, hW0⟩ : ∃ W0, W0 = ((w.alloc (.cells (cl .u8 root).toArray 23)).alloc (.cells (cl .u8 d).toArray 23)).alloc (.cells (sigV l ch (.slice A n c)).toArray 36) := ⟨_, rfl⟩
  have b2 : blk W0 (w.heap.size + 1 + 1) (sigV l ch (.slice A n c)) 36 := by rw [hW0]; exact blk_at _ _ _ (by simp only [alloc_size])
  have bl : Below w.heap.size w W0 := by rw [hW0]; exact (((Below.refl w.heap.size w).alloc (Nat.le_refl _) _).alloc (by simp only [alloc_size]; omega) _).alloc (by simp only [alloc_size]; omega) _
  have S0 := Lib.hid (And.intro b2 bl)
  have HW := Lib.hid hW0
  clear b2 bl hW0 hq hn
  go_enter Tryz.func4, Tryz.ntmps4
  go_wp2_with fail
  rw [← HW.out]
  refine (known _).mono ?_
  rintro e w1 ⟨rfl, hb1⟩
  have S1 := Lib.hid (And.intro (blk_keep S0.out.1 hb1) (bel_trans S0.out.2 hb1 S0.out.2.size))
  have k1 := bk_of S1.out.1
  clear hb1
  go_wp2_with fail
  refine (cf.out _).mono ?_
  rintro e w2 ⟨rfl, hb2⟩
  have S2 := Lib.hid (bel_trans S1.out.2 hb2 S1.out.2.size)
  clear hb2 k1
  go_wp2_with fail
  refine (known _).mono ?_
  rintro e w3 ⟨rfl, hb3⟩
  have S3 := Lib.hid (bel_trans S2.out hb3 S2.out.size)
  clear hb3
  go_wp2_with fail
  go_ret
  exact ⟨rfl, S3.out⟩
set_option maxRecDepth 20000 in
set_option maxHeartbeats 4000000 in
theorem ver_bad (w : World) (h l : Int) (root ch d : List Nat) (p : Value) (ps : List (List Nat)) (hr : root.length = 16) (hc : ch.length = 560) (hd : d.length = 16) (bd : By d) (hp : SlN w p ps) (hN : N16 ps) (h20 : ps.length ≤ 20) (hg : ¬ GOk l ps.length) :
    Calls Tryz.prog 4 #[.int .i64 h, agg .u8 root, agg .u8 d, .agg (sigV l ch p).toArray] w fun e w' => e = .returned (.bool true) ∧ Below w.heap.size w w' := by
  obtain ⟨A, c, rfl, -⟩ := id hp
  obtain ⟨n, hn⟩ : ∃ n, n = ps.length := ⟨_, rfl⟩
  have hn20 : n ≤ 20 := by omega
  have hq : decide (n ≤ 20) = true := by simp; omega
  have cf := Lib.hid (fun W => few W l ch A n c hc)
  rw [hq] at cf
  have HP := Lib.hid (show SlN w (.slice A n c) ps by rw [hn]; exact hp)
  rw [← hn]
  have co := Lib.hid (fun W (hW : Below w.heap.size w W) => own W l ch (.slice A n c) ps hc (HP.out.keep hW) (by omega))
  have HN := Lib.hid hN
  have hgn : ¬ GOk l n := by rw [hn]; exact hg
  have cr : Hid (∀ W A1 c1, Calls Tryz.prog 17 #[agg .u8 d, .agg (sigV l ch (.slice A1 n c1)).toArray] W fun e w' => e = .returned (.tuple #[agg .u8 (zs 16), .int .i64 2]) ∧ Below W.heap.size W w') := Lib.hid fun W A1 c1 => root_out W l ch d A1 n c1 hc hd hgn
  have ck := Lib.hid (fun W => check8_out W l ch A n c hc hgn)
  have cs : Hid (∀ W A1 c1, Calls Tryz.prog 19 #[.agg (sigV l ch (.slice A1 n c1)).toArray] W fun e w' => e = .returned (.int .i64 2) ∧ Below W.heap.size W w') := Lib.hid fun W A1 c1 => sig_check_out W l ch A1 n c1 hc hgn
  have lR := zs_length 16
  obtain ⟨E, hE⟩ : ∃ E, E = vrf h l root ch d ps := ⟨_, rfl⟩
  have cv : Hid (∀ W y, SlN W y ps → Calls Tryz.prog 14 #[.agg (pubV h root).toArray, agg .u8 d, .agg (sigV l ch y).toArray] W fun e w' => e = .returned (.int .i64 E) ∧ Below W.heap.size W w') := Lib.hid fun W y hy => by rw [hE]; exact verify_any W h l root ch d y ps hr hc hd bd hy hN
  have cx : Hid (∀ W x, SlN W x ps → Calls Tryz.prog 20 #[.int .i64 h, agg .u8 root, agg .u8 d, .agg (sigV l ch x).toArray] W fun e w' => e = .returned (.int .i64 E) ∧ Below W.heap.size W w') := Lib.hid fun W x hx => by rw [hE]; exact ver8_any W h l root ch d x ps hr hc hd bd hx hN
  have HM := Lib.hid hn
  clear hn hE hp hN bd hq hg hgn
  obtain ⟨W0, hW0⟩ : ∃ W0, W0 = ((w.alloc (.cells (cl .u8 root).toArray 23)).alloc (.cells (cl .u8 d).toArray 23)).alloc (.cells (sigV l ch (.slice A n c)).toArray 36) := ⟨_, rfl⟩
  have b0 : blk W0 w.heap.size (cl .u8 root) 23 := by rw [hW0]; exact blk_alloc (blk_alloc (blk_new _ _ _) _) _
  have b1 : blk W0 (w.heap.size + 1) (cl .u8 d) 23 := by rw [hW0]; exact blk_alloc (blk_at _ _ _ (by simp only [alloc_size])) _
  have b2 : blk W0 (w.heap.size + 1 + 1) (sigV l ch (.slice A n c)) 36 := by rw [hW0]; exact blk_at _ _ _ (by simp only [alloc_size])
  have bl : Below w.heap.size w W0 := by rw [hW0]; exact (((Below.refl w.heap.size w).alloc (Nat.le_refl _) _).alloc (by simp only [alloc_size]; omega) _).alloc (by simp only [alloc_size]; omega) _
  have S0 := Lib.hid (And.intro b0 (And.intro b1 (And.intro b2 bl)))
  have HW := Lib.hid hW0
  clear b0 b1 b2 bl hW0
  go_enter Tryz.func4, Tryz.ntmps4
  go_wp2_with fail
  rw [← HW.out]
  refine (known _).mono ?_
  rintro e w1 ⟨rfl, hb1⟩
  have S1 := Lib.hid (And.intro (blk_keep S0.out.1 hb1) (And.intro (blk_keep S0.out.2.1 hb1) (And.intro (blk_keep S0.out.2.2.1 hb1) (bel_trans S0.out.2.2.2 hb1 S0.out.2.2.2.size))))
  have k1 := bk_of S1.out.2.2.1
  clear hb1
  go_wp2_with fail
  refine (cf.out _).mono ?_
  rintro e w2 ⟨rfl, hb2⟩
  have S2 := Lib.hid (And.intro (blk_keep S1.out.1 hb2) (And.intro (blk_keep S1.out.2.1 hb2) (And.intro (blk_keep S1.out.2.2.1 hb2) (bel_trans S1.out.2.2.2 hb2 S1.out.2.2.2.size))))
  have k2 := bk_of S2.out.1
  have k3 := bk_of S2.out.2.2.1
  have lt2 := blk_lt S2.out.2.2.1
  have P2 : Hid (blk (w2.alloc (.cells (pubV h root).toArray 39)) w2.heap.size (pubV h root) 39 ∧ Below w.heap.size w (w2.alloc (.cells (pubV h root).toArray 39))) := Lib.hid ⟨blk_new _ _ _, S2.out.2.2.2.alloc S2.out.2.2.2.size _⟩
  clear hb2 k1
  go_wp2_with fail
  refine (co.out _ P2.out.2).mono ?_
  rintro e w3 ⟨y, rfl, ho3, hb3⟩
  have hy3 := SlC.of_own ho3
  obtain ⟨A1, c1, rfl, -⟩ := id hy3
  have S3 := Lib.hid (show blk w3 w.heap.size (cl .u8 root) 23 ∧ blk w3 (w.heap.size + 1) (cl .u8 d) 23 ∧ blk w3 (w.heap.size + 1 + 1) (sigV l ch (.slice A n c)) 36 ∧ blk w3 w2.heap.size (pubV h root) 39 ∧ SlN w3 (.slice A1 ps.length c1) ps ∧ Below w.heap.size w w3 from ⟨blk_keep (blk_alloc S2.out.1 _) hb3, blk_keep (blk_alloc S2.out.2.1 _) hb3, blk_keep (blk_alloc S2.out.2.2.1 _) hb3, blk_keep P2.out.1 hb3, hy3, bel_trans P2.out.2 hb3 P2.out.2.size⟩)
  clear ho3 hb3 hy3 k2 k3
  rw [← HM.out] at S3 ⊢
  have k3 := bk_of S3.out.2.1
  have lt3 := blk_lt S3.out.2.1
  go_wp2_with fail
  have P3 : Hid (blk (w3.alloc (.cells (sigV l ch (.slice A1 n c1)).toArray 31)) w3.heap.size (sigV l ch (.slice A1 n c1)) 31 ∧ Below w.heap.size w (w3.alloc (.cells (sigV l ch (.slice A1 n c1)).toArray 31)) ∧ SlN (w3.alloc (.cells (sigV l ch (.slice A1 n c1)).toArray 31)) (.slice A1 n c1) ps) := Lib.hid ⟨blk_new _ _ _, S3.out.2.2.2.2.2.alloc S3.out.2.2.2.2.2.size _, S3.out.2.2.2.2.1.keep ((Below.refl _ _).alloc (Nat.le_refl _) _)⟩
  refine (cr.out _ _ _).mono ?_
  rintro e w4 ⟨rfl, hb4⟩
  have V4 := Lib.hid (show AtV w w2.heap.size w3.heap.size w4.heap.size h l root d ch (zs 16) (.slice A n c) (.slice A1 n c1) ps (w4.alloc (.cells (cl .u8 (zs 16)).toArray 23)) from ⟨blk_alloc (blk_keep (blk_alloc S3.out.1 _) hb4) _, blk_alloc (blk_keep (blk_alloc S3.out.2.1 _) hb4) _, blk_alloc (blk_keep (blk_alloc S3.out.2.2.1 _) hb4) _, blk_alloc (blk_keep (blk_alloc S3.out.2.2.2.1 _) hb4) _, blk_alloc (blk_keep P3.out.1 hb4) _, (P3.out.2.2.keep hb4).keep ((Below.refl _ _).alloc (Nat.le_refl _) _), blk_new _ _ _, by
    have := (bel_trans P3.out.2.1 hb4 P3.out.2.1.size)
    exact HP.out.keep (this.alloc this.size _), by
    have := (bel_trans P3.out.2.1 hb4 P3.out.2.1.size)
    exact this.alloc this.size _⟩)
  have k4 := bk_of V4.out.2.2.1
  clear hb4 k3 lt2 lt3
  go_wp2_with fail
  refine (ck.out _).mono ?_
  rintro e w5 ⟨rfl, hb5⟩
  have V5 := Lib.hid (AtV_keep V4.out hb5)
  clear hb5 k4
  obtain ⟨ι, G, hG, hin⟩ := class_of (AtV w w2.heap.size w3.heap.size w4.heap.size h l root d ch (zs 16) (.slice A n c) (.slice A1 n c1) ps)
  have h0 := hin w5.drew (AtV_keep V5.out (Below.refl _ _).drew)
  have hne : Nonempty ι := ⟨h0.choose⟩
  have q0 : ∀ i, bk (G i) w.heap.size = some (cl .u8 root).toArray := fun i => bk_of (hG i).1
  have q1 : ∀ i, bk (G i) (w.heap.size + 1) = some (cl .u8 d).toArray := fun i => bk_of (hG i).2.1
  have q2 : ∀ i, bk (G i) (w.heap.size + 1 + 1) = some (sigV l ch (.slice A n c)).toArray := fun i => bk_of (hG i).2.2.1
  have q3 : ∀ i, bk (G i) w2.heap.size = some (pubV h root).toArray := fun i => bk_of (hG i).2.2.2.1
  have q4 : ∀ i, bk (G i) w3.heap.size = some (sigV l ch (.slice A1 n c1)).toArray := fun i => bk_of (hG i).2.2.2.2.1
  have HG := Lib.hid hG
  have HI := Lib.hid hin
  have HH := Lib.hid h0
  clear hG hin h0
  go_wp2_with fail
  refine wp_region_all G (by kernel_rfl) (by kernel_rfl) HH.out ?_
  repeat (go_big_quiet_step (first
    | (go_at_call 19; exact quiet_below HG.out HI.out (fun _ _ h hb => AtV_keep h hb) (cs.out _ _ _))
    | (go_at_call 14; exact quiet_below HG.out HI.out (fun _ _ h hb => AtV_keep h hb) (cv.out _ _ (HG.out _).2.2.2.2.2.1))
    | (go_at_call 20; exact quiet_below HG.out HI.out (fun _ _ h hb => AtV_keep h hb) (cx.out _ _ (HG.out _).2.2.2.2.2.2.2.1))))
  refine wpQuiet_nil ?_
  intro i
  have k9 := bk_of (HG.out i).2.2.2.2.2.2.1
  go_wp2_with fail
  go_ret
  exact ⟨rfl, (HG.out i).2.2.2.2.2.2.2.2⟩
def AtW (w : World) (a b e f : Nat) (h : Int) (n : Nat) (l : Int) (root d ch R : List Nat) (x y : Value) (ps : List (List Nat)) (W : World) : Prop := AtV w a b e h l root d ch R x y ps W ∧ blk W f (pubV (n : Int) R) 39
theorem AtW_keep {w : World} {a b e f : Nat} {h : Int} {n : Nat} {l : Int} {root d ch R : List Nat} {x y : Value} {ps : List (List Nat)} {W W' : World} (hA : AtW w a b e f h n l root d ch R x y ps W) (hb : Below W.heap.size W W') : AtW w a b e f h n l root d ch R x y ps W' := ⟨AtV_keep hA.1 hb, blk_keep hA.2 hb⟩
def VrP (leaf n c c1 : Nat) (A A1 : Option Addr) (R d ch : List Nat) (ps : List (List Nat)) (i : Nat) (v : Value) (W : World) : Prop := match i with
  | 0 => v = agg .u8 R
  | 1 => v = agg .u8 d
  | 2 => v = .agg (sigV (leaf : Int) ch (.slice A n c)).toArray
  | 3 => v = agg .u8 R
  | 4 => v = .bool true
  | 5 => v = .bool true
  | 6 => v = .agg (pubV (n : Int) R).toArray
  | 7 => v = agg .u8 d
  | 8 => v = .agg (sigV (leaf : Int) ch (.slice A1 n c1)).toArray
  | 9 => v = .int .i64 0
  | 10 => v = .bool true
  | 11 => v = .bool true
  | 12 => v = .bool true
  | 13 => v = .agg (sigV (leaf : Int) ch (.slice A1 n c1)).toArray
  | 14 => ∃ p, v = .agg (sigV (leaf : Int) ch p).toArray ∧ SlN W p ps
  | 15 => v = .agg (sigV (leaf : Int) ch (.slice A n c)).toArray
  | 16 => v = .bool true
  | 17 => v = .bool true
  | _ => True
theorem VrP_mono (leaf n c c1 : Nat) (A A1 : Option Addr) (R d ch : List Nat) (ps : List (List Nat)) (i : Nat) (v : Value) (W W' : World) (hb : Below W.heap.size W W') (h : VrP leaf n c c1 A A1 R d ch ps i v W) : VrP leaf n c c1 A A1 R d ch ps i v W' := by
  unfold VrP at h ⊢
  split at h
  · exact h
  · exact h
  · exact h
  · exact h
  · exact h
  · exact h
  · exact h
  · exact h
  · exact h
  · exact h
  · exact h
  · exact h
  · exact h
  · exact h
  · obtain ⟨p, h1, h2⟩ := h
    exact ⟨p, h1, h2.keep hb⟩
  · exact h
  · exact h
  · exact h
  · exact h
set_option maxRecDepth 20000 in
set_option maxHeartbeats 4000000 in
theorem ver_good (w : World) (h : Int) (leaf : Nat) (root ch d : List Nat) (p : Value) (ps : List (List Nat)) (hr : root.length = 16) (hc : ch.length = 560) (hd : d.length = 16) (bd : By d) (hp : SlN w p ps) (hN : N16 ps) (hn1 : 1 ≤ ps.length) (hn8 : ps.length ≤ 8) (hl : leaf < 2 ^ ps.length) :
    Calls Tryz.prog 4 #[.int .i64 h, agg .u8 root, agg .u8 d, .agg (sigV (leaf : Int) ch p).toArray] w fun e w' => e = .returned (.bool true) ∧ Below w.heap.size w w' := by
  obtain ⟨A, c, rfl, -⟩ := id hp
  obtain ⟨n, hn⟩ : ∃ n, n = ps.length := ⟨_, rfl⟩
  have hn20 : n ≤ 20 := by omega
  have hq : decide (n ≤ 20) = true := by simp; omega
  have cf := Lib.hid (fun W => few W (leaf : Int) ch A n c hc)
  rw [hq] at cf
  have HP := Lib.hid (show SlN w (.slice A n c) ps by rw [hn]; exact hp)
  rw [← hn]
  have co := Lib.hid (fun W (hW : Below w.heap.size w W) => own W (leaf : Int) ch (.slice A n c) ps hc (HP.out.keep hW) (by omega))
  have HN := Lib.hid hN
  obtain ⟨R, hR⟩ : ∃ R, R = reach ch d leaf ps := ⟨_, rfl⟩
  have lR : R.length = 16 := by rw [hR]; exact reach_length _ _ _ _
  have hl' : (leaf : Int) < 2 ^ ps.length := by exact_mod_cast hl
  have cr : Hid (∀ W y, SlN W y ps → Calls Tryz.prog 17 #[agg .u8 d, .agg (sigV (leaf : Int) ch y).toArray] W fun e w' => e = .returned (.tuple #[agg .u8 R, .int .i64 0]) ∧ Below W.heap.size W w') := Lib.hid fun W y hy => by rw [hR]; exact root_in W leaf ch d y ps hc hd bd hy hN hn1 hn8 hl
  have ck := Lib.hid (fun W => check8 W (leaf : Int) ch A n c hc (by omega) (by omega) (by omega) (by rw [hn]; exact hl'))
  have cs : Hid (∀ W A1 c1, Calls Tryz.prog 19 #[.agg (sigV (leaf : Int) ch (.slice A1 n c1)).toArray] W fun e w' => e = .returned (.int .i64 0) ∧ Below W.heap.size W w') := Lib.hid fun W A1 c1 => sig_check W leaf ch A1 n c1 hc (by omega) (by omega) (by omega) (by rw [hn]; exact hl')
  have c8 : Hid (∀ W x, SlN W x ps → Calls Tryz.prog 21 #[agg .u8 d, .agg (sigV (leaf : Int) ch x).toArray] W fun e w' => e = .returned (agg .u8 R) ∧ Below W.heap.size W w') := Lib.hid fun W x hx => by rw [hR]; exact reach8 W leaf ch d x ps hc hd bd hx hN hn1 hn8 hl
  have cb : Hid (∀ W y, SlN W y ps → Calls Tryz.prog 11 #[.agg (sigV (leaf : Int) ch y).toArray] W fun e w' => ∃ p, e = .returned (.agg (sigV (leaf : Int) ch p).toArray) ∧ OwnN 23 w' W.heap.size p ps ∧ Below W.heap.size W w') := Lib.hid fun W y hy => back W (leaf : Int) ch y ps hc hy (by omega)
  have cq : Hid (∀ W v1 v2, SlN W v1 ps → SlN W v2 ps → Calls Tryz.prog 10 #[.agg (sigV (leaf : Int) ch v1).toArray, .agg (sigV (leaf : Int) ch v2).toArray] W fun e w' => e = .returned (.bool (decide ((leaf : Int) = (leaf : Int) ∧ ch = ch ∧ ps = ps))) ∧ Below W.heap.size W w') := Lib.hid fun W v1 v2 h1 h2 => same W leaf leaf ch ch v1 v2 ps ps hc hc h1 h2 hN hN (by omega)
  have cw : Hid (∀ W y, SlN W y ps → Calls Tryz.prog 14 #[.agg (pubV (n : Int) R).toArray, agg .u8 d, .agg (sigV (leaf : Int) ch y).toArray] W fun e w' => e = .returned (.int .i64 0) ∧ Below W.heap.size W w') := Lib.hid fun W y hy => by
    have h := verify_in W n leaf R ch d y ps lR (by omega) (by omega) hc hd bd hy hN hn1 hn8 hl
    rw [if_pos ⟨hn.symm, hR.symm⟩] at h
    exact h
  obtain ⟨E, hE⟩ : ∃ E, E = vrf h (leaf : Int) root ch d ps := ⟨_, rfl⟩
  have cv : Hid (∀ W y, SlN W y ps → Calls Tryz.prog 14 #[.agg (pubV h root).toArray, agg .u8 d, .agg (sigV (leaf : Int) ch y).toArray] W fun e w' => e = .returned (.int .i64 E) ∧ Below W.heap.size W w') := Lib.hid fun W y hy => by rw [hE]; exact verify_any W h (leaf : Int) root ch d y ps hr hc hd bd hy hN
  have cx : Hid (∀ W x, SlN W x ps → Calls Tryz.prog 20 #[.int .i64 h, agg .u8 root, agg .u8 d, .agg (sigV (leaf : Int) ch x).toArray] W fun e w' => e = .returned (.int .i64 E) ∧ Below W.heap.size W w') := Lib.hid fun W x hx => by rw [hE]; exact ver8_any W h (leaf : Int) root ch d x ps hr hc hd bd hx hN
  have HM := Lib.hid hn
  clear hn hE hp hN bd hq hR hl hl'
  obtain ⟨W0, hW0⟩ : ∃ W0, W0 = ((w.alloc (.cells (cl .u8 root).toArray 23)).alloc (.cells (cl .u8 d).toArray 23)).alloc (.cells (sigV (leaf : Int) ch (.slice A n c)).toArray 36) := ⟨_, rfl⟩
  have b0 : blk W0 w.heap.size (cl .u8 root) 23 := by rw [hW0]; exact blk_alloc (blk_alloc (blk_new _ _ _) _) _
  have b1 : blk W0 (w.heap.size + 1) (cl .u8 d) 23 := by rw [hW0]; exact blk_alloc (blk_at _ _ _ (by simp only [alloc_size])) _
  have b2 : blk W0 (w.heap.size + 1 + 1) (sigV (leaf : Int) ch (.slice A n c)) 36 := by rw [hW0]; exact blk_at _ _ _ (by simp only [alloc_size])
  have bl : Below w.heap.size w W0 := by rw [hW0]; exact (((Below.refl w.heap.size w).alloc (Nat.le_refl _) _).alloc (by simp only [alloc_size]; omega) _).alloc (by simp only [alloc_size]; omega) _
  have S0 := Lib.hid (And.intro b0 (And.intro b1 (And.intro b2 bl)))
  have HW := Lib.hid hW0
  clear b0 b1 b2 bl hW0
  go_enter Tryz.func4, Tryz.ntmps4
  go_wp2_with fail
  rw [← HW.out]
  refine (known _).mono ?_
  rintro e w1 ⟨rfl, hb1⟩
  have S1 := Lib.hid (And.intro (blk_keep S0.out.1 hb1) (And.intro (blk_keep S0.out.2.1 hb1) (And.intro (blk_keep S0.out.2.2.1 hb1) (bel_trans S0.out.2.2.2 hb1 S0.out.2.2.2.size))))
  have k1 := bk_of S1.out.2.2.1
  clear hb1
  go_wp2_with fail
  refine (cf.out _).mono ?_
  rintro e w2 ⟨rfl, hb2⟩
  have S2 := Lib.hid (And.intro (blk_keep S1.out.1 hb2) (And.intro (blk_keep S1.out.2.1 hb2) (And.intro (blk_keep S1.out.2.2.1 hb2) (bel_trans S1.out.2.2.2 hb2 S1.out.2.2.2.size))))
  have k2 := bk_of S2.out.1
  have k3 := bk_of S2.out.2.2.1
  have lt2 := blk_lt S2.out.2.2.1
  have P2 : Hid (blk (w2.alloc (.cells (pubV h root).toArray 39)) w2.heap.size (pubV h root) 39 ∧ Below w.heap.size w (w2.alloc (.cells (pubV h root).toArray 39))) := Lib.hid ⟨blk_new _ _ _, S2.out.2.2.2.alloc S2.out.2.2.2.size _⟩
  clear hb2 k1
  go_wp2_with fail
  refine (co.out _ P2.out.2).mono ?_
  rintro e w3 ⟨y, rfl, ho3, hb3⟩
  have hy3 := SlC.of_own ho3
  obtain ⟨A1, c1, rfl, -⟩ := id hy3
  have S3 := Lib.hid (show blk w3 w.heap.size (cl .u8 root) 23 ∧ blk w3 (w.heap.size + 1) (cl .u8 d) 23 ∧ blk w3 (w.heap.size + 1 + 1) (sigV (leaf : Int) ch (.slice A n c)) 36 ∧ blk w3 w2.heap.size (pubV h root) 39 ∧ SlN w3 (.slice A1 ps.length c1) ps ∧ Below w.heap.size w w3 from ⟨blk_keep (blk_alloc S2.out.1 _) hb3, blk_keep (blk_alloc S2.out.2.1 _) hb3, blk_keep (blk_alloc S2.out.2.2.1 _) hb3, blk_keep P2.out.1 hb3, hy3, bel_trans P2.out.2 hb3 P2.out.2.size⟩)
  clear ho3 hb3 hy3 k2 k3
  rw [← HM.out] at S3 ⊢
  have k3 := bk_of S3.out.2.1
  have lt3 := blk_lt S3.out.2.1
  go_wp2_with fail
  have P3 : Hid (blk (w3.alloc (.cells (sigV (leaf : Int) ch (.slice A1 n c1)).toArray 31)) w3.heap.size (sigV (leaf : Int) ch (.slice A1 n c1)) 31 ∧ Below w.heap.size w (w3.alloc (.cells (sigV (leaf : Int) ch (.slice A1 n c1)).toArray 31)) ∧ SlN (w3.alloc (.cells (sigV (leaf : Int) ch (.slice A1 n c1)).toArray 31)) (.slice A1 n c1) ps) := Lib.hid ⟨blk_new _ _ _, S3.out.2.2.2.2.2.alloc S3.out.2.2.2.2.2.size _, S3.out.2.2.2.2.1.keep ((Below.refl _ _).alloc (Nat.le_refl _) _)⟩
  refine (cr.out _ _ P3.out.2.2).mono ?_
  rintro e w4 ⟨rfl, hb4⟩
  have V4 := Lib.hid (show AtV w w2.heap.size w3.heap.size w4.heap.size h (leaf : Int) root d ch R (.slice A n c) (.slice A1 n c1) ps (w4.alloc (.cells (cl .u8 R).toArray 23)) from ⟨blk_alloc (blk_keep (blk_alloc S3.out.1 _) hb4) _, blk_alloc (blk_keep (blk_alloc S3.out.2.1 _) hb4) _, blk_alloc (blk_keep (blk_alloc S3.out.2.2.1 _) hb4) _, blk_alloc (blk_keep (blk_alloc S3.out.2.2.2.1 _) hb4) _, blk_alloc (blk_keep P3.out.1 hb4) _, (P3.out.2.2.keep hb4).keep ((Below.refl _ _).alloc (Nat.le_refl _) _), blk_new _ _ _, by
    have := (bel_trans P3.out.2.1 hb4 P3.out.2.1.size)
    exact HP.out.keep (this.alloc this.size _), by
    have := (bel_trans P3.out.2.1 hb4 P3.out.2.1.size)
    exact this.alloc this.size _⟩)
  have k4 := bk_of V4.out.2.2.1
  clear hb4 k3 lt2 lt3
  go_wp2_with fail
  refine (ck.out _).mono ?_
  rintro e w5 ⟨rfl, hb5⟩
  have V5 := Lib.hid (AtV_keep V4.out hb5)
  clear hb5 k4
  obtain ⟨ι, G, hG, hin⟩ := class_of (AtV w w2.heap.size w3.heap.size w4.heap.size h (leaf : Int) root d ch R (.slice A n c) (.slice A1 n c1) ps)
  have h0 := hin w5.drew (AtV_keep V5.out (Below.refl _ _).drew)
  have hne : Nonempty ι := ⟨h0.choose⟩
  have q0 : ∀ i, bk (G i) w.heap.size = some (cl .u8 root).toArray := fun i => bk_of (hG i).1
  have q1 : ∀ i, bk (G i) (w.heap.size + 1) = some (cl .u8 d).toArray := fun i => bk_of (hG i).2.1
  have q2 : ∀ i, bk (G i) (w.heap.size + 1 + 1) = some (sigV (leaf : Int) ch (.slice A n c)).toArray := fun i => bk_of (hG i).2.2.1
  have q3 : ∀ i, bk (G i) w2.heap.size = some (pubV h root).toArray := fun i => bk_of (hG i).2.2.2.1
  have q4 : ∀ i, bk (G i) w3.heap.size = some (sigV (leaf : Int) ch (.slice A1 n c1)).toArray := fun i => bk_of (hG i).2.2.2.2.1
  have HG := Lib.hid hG
  have HI := Lib.hid hin
  have HH := Lib.hid h0
  clear hG hin h0
  go_wp2_with fail
  refine wp_region_all G (by kernel_rfl) (by kernel_rfl) HH.out ?_
  repeat (go_big_quiet_step (first
    | (go_at_call 19; exact quiet_below HG.out HI.out (fun _ _ h hb => AtV_keep h hb) (cs.out _ _ _))
    | (go_at_call 14; exact quiet_below HG.out HI.out (fun _ _ h hb => AtV_keep h hb) (cv.out _ _ (HG.out _).2.2.2.2.2.1))
    | (go_at_call 20; exact quiet_below HG.out HI.out (fun _ _ h hb => AtV_keep h hb) (cx.out _ _ (HG.out _).2.2.2.2.2.2.2.1))))
  refine wpQuiet_nil ?_
  intro i
  have S6 := Lib.hid (show AtW w w2.heap.size w3.heap.size w4.heap.size (G i).heap.size h n (leaf : Int) root d ch R (.slice A n c) (.slice A1 n c1) ps ((G i).alloc (.cells (pubV (n : Int) R).toArray 39)) from ⟨AtV_keep (HG.out i) ((Below.refl _ _).alloc (Nat.le_refl _) _), blk_new _ _ _⟩)
  have lt9 := blk_lt (HG.out i).2.2.2.2.2.2.1
  have k9 := bk_of (HG.out i).2.2.2.2.2.2.1
  have k8 := sig_path hc (HG.out i).2.2.1
  go_wp2_with fail
  obtain ⟨w6, hw6⟩ : ∃ w6, w6 = G i := ⟨_, rfl⟩
  rw [← hw6] at S6 ⊢
  clear HG HI HH q0 q1 q2 q3 q4 k9 k8 lt9 hw6
  refine Ord.wp_region_tab2 18 [67, 68, 69, 70, 71, 72, 73, 74, 75, 76, 77, 78, 79, 80, 81, 82, 83, 84] (Value.int IntKind.i64 h :: agg IntKind.u8 root :: agg IntKind.u8 d :: Value.agg (sigV (↑leaf) ch (Value.slice A n c)).toArray :: undef :: Value.pointer (some { block := w.heap.size, off := 0 }) :: Value.pointer (some { block := w.heap.size + 1, off := 0 }) :: Value.pointer (some { block := w.heap.size + 1 + 1, off := 0 }) :: Value.bool false :: Value.pointer (some { block := w2.heap.size, off := 0 }) :: Value.pointer (some { block := w3.heap.size, off := 0 }) :: Value.pointer (some { block := w4.heap.size, off := 0 }) :: Value.int IntKind.i64 0 :: Value.int IntKind.i64 0 :: Value.pointer (some { block := w6.heap.size, off := 0 }) :: Value.bool true :: Value.bool false :: Value.bool false :: Value.agg (sigV (↑leaf) ch (Value.slice A n c)).toArray :: Value.bool true :: Value.bool false :: Value.bool false :: undef :: Value.int IntKind.i64 h :: Value.agg (cl IntKind.u8 root).toArray :: Value.agg (pubV h root).toArray :: Value.agg (sigV (↑leaf) ch (Value.slice A n c)).toArray :: Value.agg (sigV (↑leaf) ch (Value.slice A1 n c1)).toArray :: Value.tuple #[agg IntKind.u8 R, Value.int IntKind.i64 0] :: Value.agg (cl IntKind.u8 d).toArray :: Value.agg (sigV (↑leaf) ch (Value.slice A1 n c1)).toArray :: Value.tuple #[agg IntKind.u8 R, Value.int IntKind.i64 0] :: agg IntKind.u8 R :: Value.int IntKind.i64 0 :: Value.agg (sigV (↑leaf) ch (Value.slice A n c)).toArray :: Value.int IntKind.i64 0 :: Value.agg (sigV (↑leaf) ch (Value.slice A1 n c1)).toArray :: Value.int IntKind.i64 0 :: Value.int IntKind.i64 0 :: Value.bool false :: Value.bool false :: Value.int IntKind.i64 0 :: Value.int IntKind.i64 0 :: Value.bool false :: Value.bool false :: Value.bool false :: Value.agg (pubV h root).toArray :: Value.agg (cl IntKind.u8 d).toArray :: Value.agg (sigV (↑leaf) ch (Value.slice A1 n c1)).toArray :: Value.int IntKind.i64 E :: Value.int IntKind.i64 h :: Value.agg (cl IntKind.u8 root).toArray :: Value.agg (cl IntKind.u8 d).toArray :: Value.agg (sigV (↑leaf) ch (Value.slice A n c)).toArray :: Value.int IntKind.i64 E :: Value.bool false :: Value.bool false :: Value.int IntKind.i64 0 :: Value.bool false :: undef :: undef :: undef :: Value.pointer (some { block := w.heap.size + 1 + 1, off := 561 }) :: Value.slice A n c :: Value.int IntKind.i64 ↑n :: Value.agg (cl IntKind.u8 R).toArray :: Value.agg (pubV (↑n) R).toArray :: undef :: undef :: undef :: undef :: undef :: undef :: undef :: undef :: undef :: undef :: undef :: undef :: undef :: undef :: undef :: undef :: undef :: undef :: []) (fun W => AtW w w2.heap.size w3.heap.size w4.heap.size w6.heap.size h n (leaf : Int) root d ch R (.slice A n c) (.slice A1 n c1) ps W) (VrP leaf n c c1 A A1 R d ch ps) (by kernel_rfl) (by kernel_rfl) (by rfl) ⟨AtV_keep S6.out.1 (Below.refl _ _).drew, blk_drew S6.out.2⟩ (fun i v W W' _ hb h => VrP_mono leaf n c c1 A A1 R d ch ps i v W W' hb h) ?_ ?_
  · intro i o hi ho a W K hS hF hG hK
    have k1 := bk_of hS.1.1
    have k2 := bk_of hS.1.2.1
    have k3 := bk_of hS.1.2.2.1
    have k4 := bk_of hS.1.2.2.2.2.1
    have k5 := bk_of hS.1.2.2.2.2.2.2.1
    have k6 := bk_of hS.2
    match i, hi with
    | 0, _ =>
      cases ho
      have s11 : a.tmps.getD 11 undef = Value.pointer (some { block := w4.heap.size, off := 0 }) := hF.slots 11 (by simp) (by decide)
      go_wp2_with fail
      exact hK _ _ hS (Below.refl _ _) (by first | rfl | (show _ = _; simp))
    | 1, _ =>
      cases ho
      have s6 : a.tmps.getD 6 undef = Value.pointer (some { block := w.heap.size + 1, off := 0 }) := hF.slots 6 (by simp) (by decide)
      go_wp2_with fail
      exact hK _ _ hS (Below.refl _ _) (by first | rfl | (show _ = _; simp))
    | 2, _ =>
      cases ho
      have s7 : a.tmps.getD 7 undef = Value.pointer (some { block := w.heap.size + 1 + 1, off := 0 }) := hF.slots 7 (by simp) (by decide)
      go_wp2_with fail
      exact hK _ _ hS (Below.refl _ _) (by first | rfl | (show _ = _; simp))
    | 3, _ =>
      cases ho
      have s68 : a.tmps.getD 68 undef = agg .u8 d := hG { on := 1, ground := .data } (by simp) rfl
      have s69 : a.tmps.getD 69 undef = .agg (sigV (leaf : Int) ch (.slice A n c)).toArray := hG { on := 2, ground := .data } (by simp) rfl
      go_wp2_with fail
      refine (c8.out W _ hS.1.2.2.2.2.2.2.2.1).mono ?_
      rintro e W2 ⟨rfl, hb2⟩
      go_wp2_with fail
      exact hK _ _ (AtW_keep hS hb2) hb2 rfl
    | 4, _ =>
      cases ho
      have s67 : a.tmps.getD 67 undef = agg .u8 R := hG { on := 0, ground := .data } (by simp) rfl
      have s70 : a.tmps.getD 70 undef = agg .u8 R := hG { on := 3, ground := .data } (by simp) rfl
      go_wp2_with fail
      exact hK _ _ hS (Below.refl _ _) (by first | rfl | (show _ = _; simp))
    | 5, _ =>
      cases ho
      have s71 : a.tmps.getD 71 undef = .bool true := hG { on := 4, ground := .data } (by simp) rfl
      go_wp2_with fail
      exact hK _ _ hS (Below.refl _ _) (by first | rfl | (show _ = _; simp))
    | 6, _ =>
      cases ho
      have s14 : a.tmps.getD 14 undef = Value.pointer (some { block := w6.heap.size, off := 0 }) := hF.slots 14 (by simp) (by decide)
      have s72 : a.tmps.getD 72 undef = .bool true := hG { on := 5, ground := .guard } (by simp) rfl
      have g72 := hF.get (by simp) s72
      go_wp2_with fail
      exact hK _ _ hS (Below.refl _ _) (by first | rfl | (show _ = _; simp))
    | 7, _ =>
      cases ho
      have s6 : a.tmps.getD 6 undef = Value.pointer (some { block := w.heap.size + 1, off := 0 }) := hF.slots 6 (by simp) (by decide)
      have s72 : a.tmps.getD 72 undef = .bool true := hG { on := 5, ground := .guard } (by simp) rfl
      have g72 := hF.get (by simp) s72
      go_wp2_with fail
      exact hK _ _ hS (Below.refl _ _) (by first | rfl | (show _ = _; simp))
    | 8, _ =>
      cases ho
      have s10 : a.tmps.getD 10 undef = Value.pointer (some { block := w3.heap.size, off := 0 }) := hF.slots 10 (by simp) (by decide)
      have s72 : a.tmps.getD 72 undef = .bool true := hG { on := 5, ground := .guard } (by simp) rfl
      have g72 := hF.get (by simp) s72
      go_wp2_with fail
      exact hK _ _ hS (Below.refl _ _) (by first | rfl | (show _ = _; simp))
    | 9, _ =>
      cases ho
      have s73 : a.tmps.getD 73 undef = .agg (pubV (n : Int) R).toArray := hG { on := 6, ground := .data } (by simp) rfl
      have s74 : a.tmps.getD 74 undef = agg .u8 d := hG { on := 7, ground := .data } (by simp) rfl
      have s75 : a.tmps.getD 75 undef = .agg (sigV (leaf : Int) ch (.slice A1 n c1)).toArray := hG { on := 8, ground := .data } (by simp) rfl
      have s72 : a.tmps.getD 72 undef = .bool true := hG { on := 5, ground := .guard } (by simp) rfl
      have g72 := hF.get (by simp) s72
      go_wp2_with fail
      refine (cw.out W _ hS.1.2.2.2.2.2.1).mono ?_
      rintro e W2 ⟨rfl, hb2⟩
      go_wp2_with fail
      exact hK _ _ (AtW_keep hS hb2) hb2 rfl
    | 10, _ =>
      cases ho
      have s76 : a.tmps.getD 76 undef = .int .i64 0 := hG { on := 9, ground := .data } (by simp) rfl
      have s72 : a.tmps.getD 72 undef = .bool true := hG { on := 5, ground := .guard } (by simp) rfl
      have g72 := hF.get (by simp) s72
      go_wp2_with fail
      exact hK _ _ hS (Below.refl _ _) (by first | rfl | (show _ = _; simp))
    | 11, _ =>
      cases ho
      have s72 : a.tmps.getD 72 undef = .bool true := hG { on := 5, ground := .data } (by simp) rfl
      have s77 : a.tmps.getD 77 undef = .bool true := hG { on := 10, ground := .data } (by simp) rfl
      go_wp2_with fail
      exact hK _ _ hS (Below.refl _ _) (by first | rfl | (show _ = _; simp))
    | 12, _ =>
      cases ho
      have s78 : a.tmps.getD 78 undef = .bool true := hG { on := 11, ground := .data } (by simp) rfl
      go_wp2_with fail
      exact hK _ _ hS (Below.refl _ _) (by first | rfl | (show _ = _; simp))
    | 13, _ =>
      cases ho
      have s10 : a.tmps.getD 10 undef = Value.pointer (some { block := w3.heap.size, off := 0 }) := hF.slots 10 (by simp) (by decide)
      have s79 : a.tmps.getD 79 undef = .bool true := hG { on := 12, ground := .guard } (by simp) rfl
      have g79 := hF.get (by simp) s79
      go_wp2_with fail
      exact hK _ _ hS (Below.refl _ _) (by first | rfl | (show _ = _; simp))
    | 14, _ =>
      cases ho
      have s80 : a.tmps.getD 80 undef = .agg (sigV (leaf : Int) ch (.slice A1 n c1)).toArray := hG { on := 13, ground := .data } (by simp) rfl
      have s79 : a.tmps.getD 79 undef = .bool true := hG { on := 12, ground := .guard } (by simp) rfl
      have g79 := hF.get (by simp) s79
      go_wp2_with fail
      refine (cb.out W _ hS.1.2.2.2.2.2.1).mono ?_
      rintro e W2 ⟨p, rfl, ho2, hb2⟩
      go_wp2_with fail
      exact hK _ _ (AtW_keep hS hb2) hb2 ⟨p, rfl, SlC.of_own ho2⟩
    | 15, _ =>
      cases ho
      have s7 : a.tmps.getD 7 undef = Value.pointer (some { block := w.heap.size + 1 + 1, off := 0 }) := hF.slots 7 (by simp) (by decide)
      have s79 : a.tmps.getD 79 undef = .bool true := hG { on := 12, ground := .guard } (by simp) rfl
      have g79 := hF.get (by simp) s79
      go_wp2_with fail
      exact hK _ _ hS (Below.refl _ _) (by first | rfl | (show _ = _; simp))
    | 16, _ =>
      cases ho
      obtain ⟨p81, s81, hp81⟩ : VrP leaf n c c1 A A1 R d ch ps 14 (a.tmps.getD 81 undef) W := hG { on := 14, ground := .data } (by simp) rfl
      have s82 : a.tmps.getD 82 undef = .agg (sigV (leaf : Int) ch (.slice A n c)).toArray := hG { on := 15, ground := .data } (by simp) rfl
      have s79 : a.tmps.getD 79 undef = .bool true := hG { on := 12, ground := .guard } (by simp) rfl
      have g79 := hF.get (by simp) s79
      go_wp2_with fail
      refine (cq.out W _ _ hp81 hS.1.2.2.2.2.2.2.2.1).mono ?_
      rintro e W2 ⟨rfl, hb2⟩
      go_wp2_with fail
      exact hK _ _ (AtW_keep hS hb2) hb2 (by show _ = _; simp)
    | 17, _ =>
      cases ho
      have s79 : a.tmps.getD 79 undef = .bool true := hG { on := 12, ground := .data } (by simp) rfl
      have s83 : a.tmps.getD 83 undef = .bool true := hG { on := 16, ground := .data } (by simp) rfl
      go_wp2_with fail
      exact hK _ _ hS (Below.refl _ _) (by first | rfl | (show _ = _; simp))
    | i + 18, hi => exact absurd hi (by omega)
  · intro a W hS hF hG
    have t67 : a.tmps.getD 67 undef = agg .u8 R := hG 0 (by omega)
    have t68 : a.tmps.getD 68 undef = agg .u8 d := hG 1 (by omega)
    have t69 : a.tmps.getD 69 undef = .agg (sigV (leaf : Int) ch (.slice A n c)).toArray := hG 2 (by omega)
    have t70 : a.tmps.getD 70 undef = agg .u8 R := hG 3 (by omega)
    have t71 : a.tmps.getD 71 undef = .bool true := hG 4 (by omega)
    have t72 : a.tmps.getD 72 undef = .bool true := hG 5 (by omega)
    have t73 : a.tmps.getD 73 undef = .agg (pubV (n : Int) R).toArray := hG 6 (by omega)
    have t74 : a.tmps.getD 74 undef = agg .u8 d := hG 7 (by omega)
    have t75 : a.tmps.getD 75 undef = .agg (sigV (leaf : Int) ch (.slice A1 n c1)).toArray := hG 8 (by omega)
    have t76 : a.tmps.getD 76 undef = .int .i64 0 := hG 9 (by omega)
    have t77 : a.tmps.getD 77 undef = .bool true := hG 10 (by omega)
    have t78 : a.tmps.getD 78 undef = .bool true := hG 11 (by omega)
    have t79 : a.tmps.getD 79 undef = .bool true := hG 12 (by omega)
    have t80 : a.tmps.getD 80 undef = .agg (sigV (leaf : Int) ch (.slice A1 n c1)).toArray := hG 13 (by omega)
    obtain ⟨p81, t81, hp81⟩ : VrP leaf n c c1 A A1 R d ch ps 14 (a.tmps.getD 81 undef) W := hG 14 (by omega)
    have t82 : a.tmps.getD 82 undef = .agg (sigV (leaf : Int) ch (.slice A n c)).toArray := hG 15 (by omega)
    have t83 : a.tmps.getD 83 undef = .bool true := hG 16 (by omega)
    have t84 : a.tmps.getD 84 undef = .bool true := hG 17 (by omega)
    have fr := Ord.frame_of (L := (Value.int IntKind.i64 h :: agg IntKind.u8 root :: agg IntKind.u8 d :: Value.agg (sigV (↑leaf) ch (Value.slice A n c)).toArray :: undef :: Value.pointer (some { block := w.heap.size, off := 0 }) :: Value.pointer (some { block := w.heap.size + 1, off := 0 }) :: Value.pointer (some { block := w.heap.size + 1 + 1, off := 0 }) :: Value.bool false :: Value.pointer (some { block := w2.heap.size, off := 0 }) :: Value.pointer (some { block := w3.heap.size, off := 0 }) :: Value.pointer (some { block := w4.heap.size, off := 0 }) :: Value.int IntKind.i64 0 :: Value.int IntKind.i64 0 :: Value.pointer (some { block := w6.heap.size, off := 0 }) :: Value.bool true :: Value.bool false :: Value.bool false :: Value.agg (sigV (↑leaf) ch (Value.slice A n c)).toArray :: Value.bool true :: Value.bool false :: Value.bool false :: undef :: Value.int IntKind.i64 h :: Value.agg (cl IntKind.u8 root).toArray :: Value.agg (pubV h root).toArray :: Value.agg (sigV (↑leaf) ch (Value.slice A n c)).toArray :: Value.agg (sigV (↑leaf) ch (Value.slice A1 n c1)).toArray :: Value.tuple #[agg IntKind.u8 R, Value.int IntKind.i64 0] :: Value.agg (cl IntKind.u8 d).toArray :: Value.agg (sigV (↑leaf) ch (Value.slice A1 n c1)).toArray :: Value.tuple #[agg IntKind.u8 R, Value.int IntKind.i64 0] :: agg IntKind.u8 R :: Value.int IntKind.i64 0 :: Value.agg (sigV (↑leaf) ch (Value.slice A n c)).toArray :: Value.int IntKind.i64 0 :: Value.agg (sigV (↑leaf) ch (Value.slice A1 n c1)).toArray :: Value.int IntKind.i64 0 :: Value.int IntKind.i64 0 :: Value.bool false :: Value.bool false :: Value.int IntKind.i64 0 :: Value.int IntKind.i64 0 :: Value.bool false :: Value.bool false :: Value.bool false :: Value.agg (pubV h root).toArray :: Value.agg (cl IntKind.u8 d).toArray :: Value.agg (sigV (↑leaf) ch (Value.slice A1 n c1)).toArray :: Value.int IntKind.i64 E :: Value.int IntKind.i64 h :: Value.agg (cl IntKind.u8 root).toArray :: Value.agg (cl IntKind.u8 d).toArray :: Value.agg (sigV (↑leaf) ch (Value.slice A n c)).toArray :: Value.int IntKind.i64 E :: Value.bool false :: Value.bool false :: Value.int IntKind.i64 0 :: Value.bool false :: undef :: undef :: undef :: Value.pointer (some { block := w.heap.size + 1 + 1, off := 561 }) :: Value.slice A n c :: Value.int IntKind.i64 ↑n :: Value.agg (cl IntKind.u8 R).toArray :: Value.agg (pubV (↑n) R).toArray :: agg .u8 R :: agg .u8 d :: .agg (sigV (leaf : Int) ch (.slice A n c)).toArray :: agg .u8 R :: .bool true :: .bool true :: .agg (pubV (n : Int) R).toArray :: agg .u8 d :: .agg (sigV (leaf : Int) ch (.slice A1 n c1)).toArray :: .int .i64 0 :: .bool true :: .bool true :: .bool true :: .agg (sigV (leaf : Int) ch (.slice A1 n c1)).toArray :: .agg (sigV (leaf : Int) ch p81).toArray :: .agg (sigV (leaf : Int) ch (.slice A n c)).toArray :: .bool true :: .bool true :: [])) hF.defers hF.size (fun k hk => match k, hk with
      | 0, _ => hF.slots 0 (by simp) (by decide)
      | 1, _ => hF.slots 1 (by simp) (by decide)
      | 2, _ => hF.slots 2 (by simp) (by decide)
      | 3, _ => hF.slots 3 (by simp) (by decide)
      | 4, _ => hF.slots 4 (by simp) (by decide)
      | 5, _ => hF.slots 5 (by simp) (by decide)
      | 6, _ => hF.slots 6 (by simp) (by decide)
      | 7, _ => hF.slots 7 (by simp) (by decide)
      | 8, _ => hF.slots 8 (by simp) (by decide)
      | 9, _ => hF.slots 9 (by simp) (by decide)
      | 10, _ => hF.slots 10 (by simp) (by decide)
      | 11, _ => hF.slots 11 (by simp) (by decide)
      | 12, _ => hF.slots 12 (by simp) (by decide)
      | 13, _ => hF.slots 13 (by simp) (by decide)
      | 14, _ => hF.slots 14 (by simp) (by decide)
      | 15, _ => hF.slots 15 (by simp) (by decide)
      | 16, _ => hF.slots 16 (by simp) (by decide)
      | 17, _ => hF.slots 17 (by simp) (by decide)
      | 18, _ => hF.slots 18 (by simp) (by decide)
      | 19, _ => hF.slots 19 (by simp) (by decide)
      | 20, _ => hF.slots 20 (by simp) (by decide)
      | 21, _ => hF.slots 21 (by simp) (by decide)
      | 22, _ => hF.slots 22 (by simp) (by decide)
      | 23, _ => hF.slots 23 (by simp) (by decide)
      | 24, _ => hF.slots 24 (by simp) (by decide)
      | 25, _ => hF.slots 25 (by simp) (by decide)
      | 26, _ => hF.slots 26 (by simp) (by decide)
      | 27, _ => hF.slots 27 (by simp) (by decide)
      | 28, _ => hF.slots 28 (by simp) (by decide)
      | 29, _ => hF.slots 29 (by simp) (by decide)
      | 30, _ => hF.slots 30 (by simp) (by decide)
      | 31, _ => hF.slots 31 (by simp) (by decide)
      | 32, _ => hF.slots 32 (by simp) (by decide)
      | 33, _ => hF.slots 33 (by simp) (by decide)
      | 34, _ => hF.slots 34 (by simp) (by decide)
      | 35, _ => hF.slots 35 (by simp) (by decide)
      | 36, _ => hF.slots 36 (by simp) (by decide)
      | 37, _ => hF.slots 37 (by simp) (by decide)
      | 38, _ => hF.slots 38 (by simp) (by decide)
      | 39, _ => hF.slots 39 (by simp) (by decide)
      | 40, _ => hF.slots 40 (by simp) (by decide)
      | 41, _ => hF.slots 41 (by simp) (by decide)
      | 42, _ => hF.slots 42 (by simp) (by decide)
      | 43, _ => hF.slots 43 (by simp) (by decide)
      | 44, _ => hF.slots 44 (by simp) (by decide)
      | 45, _ => hF.slots 45 (by simp) (by decide)
      | 46, _ => hF.slots 46 (by simp) (by decide)
      | 47, _ => hF.slots 47 (by simp) (by decide)
      | 48, _ => hF.slots 48 (by simp) (by decide)
      | 49, _ => hF.slots 49 (by simp) (by decide)
      | 50, _ => hF.slots 50 (by simp) (by decide)
      | 51, _ => hF.slots 51 (by simp) (by decide)
      | 52, _ => hF.slots 52 (by simp) (by decide)
      | 53, _ => hF.slots 53 (by simp) (by decide)
      | 54, _ => hF.slots 54 (by simp) (by decide)
      | 55, _ => hF.slots 55 (by simp) (by decide)
      | 56, _ => hF.slots 56 (by simp) (by decide)
      | 57, _ => hF.slots 57 (by simp) (by decide)
      | 58, _ => hF.slots 58 (by simp) (by decide)
      | 59, _ => hF.slots 59 (by simp) (by decide)
      | 60, _ => hF.slots 60 (by simp) (by decide)
      | 61, _ => hF.slots 61 (by simp) (by decide)
      | 62, _ => hF.slots 62 (by simp) (by decide)
      | 63, _ => hF.slots 63 (by simp) (by decide)
      | 64, _ => hF.slots 64 (by simp) (by decide)
      | 65, _ => hF.slots 65 (by simp) (by decide)
      | 66, _ => hF.slots 66 (by simp) (by decide)
      | 67, _ => t67
      | 68, _ => t68
      | 69, _ => t69
      | 70, _ => t70
      | 71, _ => t71
      | 72, _ => t72
      | 73, _ => t73
      | 74, _ => t74
      | 75, _ => t75
      | 76, _ => t76
      | 77, _ => t77
      | 78, _ => t78
      | 79, _ => t79
      | 80, _ => t80
      | 81, _ => t81
      | 82, _ => t82
      | 83, _ => t83
      | 84, _ => t84
      | k + 85, hk => absurd hk (by simp))
    subst fr
    clear hF hG t67 t68 t69 t70 t71 t72 t73 t74 t75 t76 t77 t78 t79 t80 t81 t82 t83 t84
    simp only [List.drop_succ_cons, List.drop_zero]
    go_wp2_with fail
    go_ret
    exact ⟨rfl, hS.1.2.2.2.2.2.2.2.2⟩
end Go.Proofs.YtlgpipdeckdmjaaGreat.Rm
