/-
  Several texts laid into one (merge.py): Onc4, OnceWalk, OnceProof.
-/
import Derived.Test.YtlgpipdeckdmjaaGreatOf01
import Derived.Test.YtlgpipdeckdmjaaGreatVf21
import Derived.Test.YtlgpipdeckdmjaaGreatOf02
import Derived.Test.YtlgpipdeckdmjaaGreatKf01
import Derived.Test.YtlgpipdeckdmjaaGreatRows
import Derived.WalkKit
import Derived.ProofKit
import Derived.OpenShut
import Derived.ShutString
import Derived.ChangeOld
import Derived.Below
/-
  SignerOnce: too many operations; a first leaf that is out of range.
-/
set_option linter.unusedVariables false
set_option linter.unusedSimpArgs false
namespace Go.Proofs.YtlgpipdeckdmjaaGreat.Rm
open Go.RowKit Base Reg Types Slice Sha
open Go.Proofs.YtlgpipdeckdmjaaGreat.One
open Go.Proofs.YtlgpipdeckdmjaaGreat.Str
open Go.Proofs.YtlgpipdeckdmjaaGreat.Mer
open Go.Proofs.YtlgpipdeckdmjaaGreat.Sgn
open Go.Proofs.YtlgpipdeckdmjaaGreat.Opened (Ops)
open Go.Proofs.YtlgpipdeckdmjaaGreat.Known8 (known)
set_option maxRecDepth 100000 in
theorem once_many (w : World) (seed : List Nat) (m n : Nat) (next : Int) (v : Value) (X : Nat → Nat × Int × List Nat) (hs : seed.length = 32) (hv : Ops w v n X) (h12 : ¬ n ≤ 12) :
    Calls Tryz.prog 6 #[agg .u8 seed, .int .u8 (m : Int), .int .i64 next, v] w fun e w' => e = .returned (.bool true) ∧ Below w.heap.size w w' := by
  obtain ⟨A, c, rfl, hnc, hcm, hops⟩ := hv
  have h63 : c ≤ 9223372036854775807 := by unfold maxLen at hcm; omega
  have d0 : decide ((12 : Int) < (n : Int)) = true := decide_eq_true (by omega)
  have HB0 := Lib.hid ((Below.refl w.heap.size w).alloc (Nat.le_refl _) (.cells (cl .u8 seed).toArray 22))
  clear hops hcm h12
  go_enter Tryz.func6, Tryz.ntmps6
  go_wp2_with fail
  refine (known _).mono ?_
  rintro e w1 ⟨rfl, hb1⟩
  have S1 := Lib.hid (bel_trans HB0.out hb1 HB0.out.size)
  clear hb1
  go_wp2_with fail
  refine (known _).mono ?_
  rintro e w2 ⟨rfl, hb2⟩
  have S2 := Lib.hid (bel_trans S1.out hb2 S1.out.size)
  clear hb2
  go_wp2_with fail
  go_ret
  exact ⟨rfl, S2.out⟩
set_option maxRecDepth 100000 in
theorem once_out (w : World) (seed : List Nat) (m h n : Nat) (next : Int) (v : Value) (X : Nat → Nat × Int × List Nat) (hs : seed.length = 32) (hm : m < 256) (eh : h = 1 + m % 3) (ho : ¬ (0 ≤ next ∧ next ≤ 2 ^ h)) (hv : Ops w v n X) (h12 : n ≤ 12) :
    Calls Tryz.prog 6 #[agg .u8 seed, .int .u8 (m : Int), .int .i64 next, v] w fun e w' => e = .returned (.bool true) ∧ Below w.heap.size w w' := by
  have hh : h = 1 ∨ h = 2 ∨ h = 3 := by omega
  have h3 : h ≤ 3 := by omega
  have p8 : 2 ^ h ≤ 2 ^ 3 := Nat.pow_le_pow_right (by omega) (by omega)
  have p8' : (2 : Int) ^ h ≤ 8 := by exact_mod_cast p8
  have p0 : (0 : Int) < 2 ^ h := Int.pow_pos (by decide)
  have cl0 := Lib.hid (fun W => low W m hm)
  rw [← eh] at cl0
  have c1 := Lib.hid (fun W => new_out W seed h next hs hh ho)
  have HSS := Lib.hid hs
  obtain ⟨A, c, rfl, hnc, hcm, hops⟩ := hv
  have h63 : c ≤ 9223372036854775807 := by unfold maxLen at hcm; omega
  have d0 : decide ((12 : Int) < (n : Int)) = false := decide_eq_false (by omega)
  have hcase : next < 0 ∨ (0 ≤ next ∧ 2 ^ h < next) := by omega
  clear hh eh p8 hops hcm ho
  have HB0 := Lib.hid (And.intro (blk_new w (cl .u8 seed) 22) ((Below.refl w.heap.size w).alloc (Nat.le_refl _) (.cells (cl .u8 seed).toArray 22)))
  rcases hcase with hx | ⟨hx0, hx⟩
  · have d1 : decide (next < 0) = true := decide_eq_true hx
    clear hx
    go_enter Tryz.func6, Tryz.ntmps6
    go_wp2_with fail
    refine (known _).mono ?_
    rintro e w1 ⟨rfl, hb1⟩
    have S1 := Lib.hid (And.intro (blk_keep HB0.out.1 hb1) (bel_trans HB0.out.2 hb1 HB0.out.2.size))
    have k1 := bk_of S1.out.1
    clear hb1
    go_wp2_with fail
    refine (cl0.out _).mono ?_
    rintro e w1' ⟨rfl, rfl⟩
    go_wp2_with fail
    refine (c1.out _).mono ?_
    rintro e w2 ⟨rfl, hb2⟩
    have S2 := Lib.hid (show Below w.heap.size w w2 from by have := S1.out.2.alloc S1.out.2.size (.cells (secV seed (h : Int)).toArray 27); exact bel_trans this hb2 this.size)
    clear hb2 k1
    go_wp2_with fail
    go_ret
    exact ⟨rfl, S2.out⟩
  · have d1 : decide (next < 0) = false := decide_eq_false (by omega)
    have d2 : decide ((2 : Int) ^ h < next) = true := decide_eq_true hx
    clear hx
    go_enter Tryz.func6, Tryz.ntmps6
    go_wp2_with fail
    refine (known _).mono ?_
    rintro e w1 ⟨rfl, hb1⟩
    have S1 := Lib.hid (And.intro (blk_keep HB0.out.1 hb1) (bel_trans HB0.out.2 hb1 HB0.out.2.size))
    have k1 := bk_of S1.out.1
    clear hb1
    go_wp2_with fail
    refine (cl0.out _).mono ?_
    rintro e w1' ⟨rfl, rfl⟩
    go_wp2_with fail
    refine (c1.out _).mono ?_
    rintro e w2 ⟨rfl, hb2⟩
    have S2 := Lib.hid (show Below w.heap.size w w2 from by have := S1.out.2.alloc S1.out.2.size (.cells (secV seed (h : Int)).toArray 27); exact bel_trans this hb2 this.size)
    clear hb2 k1
    go_wp2_with fail
    go_ret
    exact ⟨rfl, S2.out⟩
end Go.Proofs.YtlgpipdeckdmjaaGreat.Rm
/-
  SignerOnce: the walk, whatever comes in.
-/
set_option linter.unusedVariables false
namespace Go.Proofs.YtlgpipdeckdmjaaGreat.OnceWalk
open Go.RowKit Base Reg Types Slice Sha
open Go.Proofs.YtlgpipdeckdmjaaGreat.One Go.Proofs.YtlgpipdeckdmjaaGreat.Str Go.Proofs.YtlgpipdeckdmjaaGreat.Mer Go.Proofs.YtlgpipdeckdmjaaGreat.Rm
theorem walk (w : World) (seed : List Nat) (m next : Int) (v : Value) (n : Nat) (X : Nat → Nat × Int × List Nat) (hs : seed.length = 32) (bs : ∀ j, seed.getD j 0 < 256) (wm : (Lit.int .u8 m).wf = true) (wn : (Lit.int .i64 next).wf = true) (hv : Opened.Ops w v n X) :
    Calls Tryz.prog 6 #[agg .u8 seed, .int .u8 m, .int .i64 next, v] w fun e w' => e = .returned (.bool true) ∧ Below w.heap.size w w' := by
  obtain ⟨k, rfl, hk⟩ := KeysWalk.u8_range wm
  by_cases h12 : n ≤ 12
  · by_cases h : 0 ≤ next ∧ next ≤ 2 ^ (1 + k % 3)
    · obtain ⟨nx, rfl⟩ := Int.eq_ofNat_of_zero_le h.1
      exact once_in w seed k _ n nx v X hs hk rfl (by have := h.2; exact_mod_cast this) hv h12
    · exact once_out w seed k _ n next v X hs hk rfl h hv h12
  · exact once_many w seed k n next v X hs hv h12
end Go.Proofs.YtlgpipdeckdmjaaGreat.OnceWalk
/-
  SignerOnce: the row's step over the walk.
-/
set_option linter.unusedVariables false
namespace Go.Proofs.YtlgpipdeckdmjaaGreat
namespace OnceProof
open Go.ChangeShapes Go.WideShapes Go.ChangeAt Go.RowKit
theorem own : ownKnob Tryz.prog.godebug = none := by kernel_rfl
theorem laidOut : laidOutB Tryz.prog = true := by kernel_rfl
set_option maxRecDepth 100000 in
theorem lifted (os : Os) (started : os.Started) (H : Type) (enc : TypeId × Value → H) :
    ReturnsInHanded {} Tryz.checked os 6 .any (Rows.signerOnceSpec.pre6 enc Tryz.prog Tryz.f6 Rows.signerOnceRow.domain false) (Rows.signerOnceSpec.post enc Tryz.prog Tryz.f6 false true false false) := by
  refine returnsInHanded_of_change (C := Tryz.checked) own started (by kernel_rfl) Tryz.func6
    (ChangeSpec.witness6 (enc := enc) (C := Tryz.checked) false ⟨#[], #[.agg (Base.cl .u8 (Base.zs 32)).toArray, .int .u8 0, .int .i64 0, .slice none 0 0], []⟩ 8 (by kernel_rfl) (by kernel_rfl) (by kernel_rfl) (by kernel_rfl)) ?_
  intro W base args ds gs before hval0 hW hcnd _
  have hval : ∀ (j : Nat) t v, Tryz.f6.params[j]? = some t → args[j]? = some v → Value.okWide Tryz.prog W .any base t v := hval0
  have hW' := hW
  obtain ⟨p, q, hA0, hV, rfl, hfz, hnd⟩ := hW
  have hA : DataW.TrodAll enc Tryz.prog W 0 (fun _ => true) true Tryz.f6.params.toList args.toList ds p := hA0
  rw [Tryz.params6] at hA hval
  obtain ⟨v0, vs0, d0, ds0, p0, q0, hargs, rfl, rfl, h0, r0⟩ := trodAll_cons hA
  obtain ⟨v1, vs1, d1, ds1, p1, q1, rfl, rfl, rfl, h1, r1⟩ := trodAll_cons r0
  obtain ⟨v2, vs2, d2, ds2, p2, q2, rfl, rfl, rfl, h2, r2⟩ := trodAll_cons r1
  obtain ⟨v3, vs3, d3, ds3, p3, q3, rfl, rfl, rfl, h3, r3⟩ := trodAll_cons r2
  obtain ⟨rfl, rfl, rfl⟩ := trodAll_nil r3
  obtain rfl : args = #[v0, v1, v2, v3] := by cases args; simp_all
  obtain ⟨rfl, rfl⟩ := trodVars_none hV
  have k0 := h0
  have lt0 : ∀ x ∈ p0, x.block < W.heap.size := by obtain ⟨m, hm⟩ := k0; exact DataW.trod_lt m _ _ _ hm
  obtain ⟨l0, rfl, hl0, hb0⟩ := Opened.open_bytes Tryz.underlying22 Tryz.underlying5 (by kernel_rfl) (by kernel_rfl) (hval 0 22 v0 rfl rfl) h0
  obtain ⟨a1, rfl, rfl, rfl, w1⟩ := open_int Tryz.underlying5 (hval 1 5 v1 rfl rfl) h1
  obtain ⟨a2, rfl, rfl, rfl, w2⟩ := open_int Tryz.underlying3 (hval 2 3 v2 rfl rfl) h2
  have k3 := h3
  have lt3 : ∀ x ∈ p3, x.block < W.heap.size := by obtain ⟨m, hm⟩ := k3; exact DataW.trod_lt m _ _ _ hm
  obtain ⟨n3, X3, hr3⟩ := Opened.open_ops Tryz.underlying60 Tryz.underlying67 (by kernel_rfl) (by kernel_rfl) (by kernel_rfl) (by kernel_rfl) (by kernel_rfl) (by kernel_rfl) (by kernel_rfl) Tryz.underlying5 Tryz.underlying3 Tryz.underlying23 Tryz.underlying5 (by kernel_rfl) (hval 3 60 v3 rfl rfl) h3
  clear hA0 hval0
  refine (OnceWalk.walk W l0 a1 a2 v3 n3 X3 hl0 hb0 w1 w2 hr3).mono fun e W' ⟨he, bel⟩ => ?_
  subst he
  exact ⟨_, rfl, _, _, _, [], _, [], hW', trodAll_mk1 (shut_bool Tryz.underlying4 _), (trodAll_cons_mk (Below.trod laidOut (by kernel_rfl) (of_decide_eq_true (by kernel_rfl)) k0 bel lt0) (trodAll_cons_mk (shut_int Tryz.underlying5 w1) (trodAll_cons_mk (shut_int Tryz.underlying3 w2) (trodAll_cons_mk (Below.trod laidOut (by kernel_rfl) (of_decide_eq_true (by kernel_rfl)) k3 bel lt3) trodAll_mk0)))), rfl, bel.frame _, fun h => by cases h⟩

theorem over : Rows.signerOnceRow.holds Tryz.pinned (OpenSpec.ofChange Rows.signerOnceSpec) :=
  OpenClaim.holds_of_wide 6 Tryz.f6 rfl rfl rfl rfl rfl rfl rfl ⟨rfl, rfl, rfl, rfl, rfl⟩ rfl rfl rfl rfl rfl (by kernel_rfl) Tryz.func6 (by kernel_rfl)
    (of_decide_eq_true (by kernel_rfl)) (by unfold Func.isWrapper; first | (rw [if_pos (by decide +kernel)]; kernel_rfl) | (rw [if_neg (by decide +kernel)]; exact ⟨rfl, rfl⟩))
    (fun os started H enc _ => lifted os started H enc)
end OnceProof
theorem onceProved : Rows.SignerOnceSaid := OnceProof.over
end Go.Proofs.YtlgpipdeckdmjaaGreat
