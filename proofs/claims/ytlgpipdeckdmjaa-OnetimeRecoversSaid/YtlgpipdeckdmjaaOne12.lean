/-
  onetime: Public out of range, Verify.
-/
import Derived.Test.YtlgpipdeckdmjaaOne11
set_option linter.unusedVariables false
set_option linter.unusedSimpArgs false
namespace Go.Proofs.Ytlgpipdeckdmjaa.One
open Go.RowKit Base Reg Types Slice Sha
theorem Public_out (w : World) (seed : List Nat) (leaf : Int) (hs : seed.length = 32) (ho : ¬ (0 ≤ leaf ∧ leaf ≤ 65535)) :
    Calls Try.prog 38 #[agg .u8 seed, .int .i64 leaf] w fun e w' => e = .returned (.tuple #[agg .u8 (zs 16), .int .i64 2]) ∧ Below w.heap.size w w' := by
  go_enter Try.func38, Try.ntmps38
  go_wp2_with fail
  refine (within leaf 65535 _).mono ?_
  rintro e w0 ⟨rfl, rfl⟩
  rw [decide_eq_false ho]
  clear ho
  go_wp2_with fail
  refine ret2_b16 rfl rfl rfl (blk_at _ (cl .u8 (zs 16)) 22 (by simp only [alloc_size])) rfl rfl ⟨rfl, (((Below.refl w.heap.size w).alloc (Nat.le_refl _) _).alloc (by simp only [alloc_size]; omega) _).alloc (by simp only [alloc_size]; omega) _⟩
set_option maxRecDepth 20000 in
theorem Verify_in (w : World) (p : List Nat) (leaf : Nat) (d s : List Nat) (hp : p.length = 16) (hs : s.length = 560) (hd : d.length = 16) (bd : By d) (hleaf : leaf ≤ 65535) :
    Calls Try.prog 34 #[agg .u8 p, .int .i64 (leaf : Int), agg .u8 d, agg .u8 s] w fun e w' => e = .returned (.bool (decide (cmp leaf (flat (endF s d leaf) 35) = p))) ∧ Below w.heap.size w w' := by
  go_enter Try.func34, Try.ntmps34
  go_wp2_with fail
  obtain ⟨W0, hW0⟩ : ∃ W0, W0 = (((w.alloc (.cells (cl .u8 p).toArray 22)).alloc (.cells (cl .u8 d).toArray 22)).alloc (.cells (cl .u8 s).toArray 68)) := ⟨_, rfl⟩
  have b0 : blk W0 w.heap.size (cl .u8 p) 22 := by rw [hW0]; exact blk_alloc (blk_alloc (blk_new _ _ _) _) _
  have bl : Below w.heap.size w W0 := by rw [hW0]; exact (((Below.refl w.heap.size w).alloc (Nat.le_refl _) _).alloc (by simp only [alloc_size]; omega) _).alloc (by simp only [alloc_size]; omega) _
  rw [← hW0]
  clear hW0
  refine (Recover_in W0 leaf d s hs hd bd hleaf).mono ?_
  rintro e w1 ⟨rfl, hb1⟩
  have lc := cmp_length leaf (flat (endF s d leaf) 35)
  have k0 := bk_of (blk_keep b0 hb1)
  have s0 := blk_lt (blk_keep b0 hb1)
  have L1 := Lib.hid (bel_trans bl hb1 bl.size)
  clear hb1 b0 bl
  go_wp2_with fail
  go_ret
  exact ⟨rfl, L1.out.alloc L1.out.size _⟩
set_option maxRecDepth 20000 in
theorem Verify_out (w : World) (p : List Nat) (leaf : Int) (d s : List Nat) (hp : p.length = 16) (hs : s.length = 560) (hd : d.length = 16) (ho : ¬ (0 ≤ leaf ∧ leaf ≤ 65535)) :
    Calls Try.prog 34 #[agg .u8 p, .int .i64 leaf, agg .u8 d, agg .u8 s] w fun e w' => e = .returned (.bool false) ∧ Below w.heap.size w w' := by
  go_enter Try.func34, Try.ntmps34
  go_wp2_with fail
  obtain ⟨W0, hW0⟩ : ∃ W0, W0 = (((w.alloc (.cells (cl .u8 p).toArray 22)).alloc (.cells (cl .u8 d).toArray 22)).alloc (.cells (cl .u8 s).toArray 68)) := ⟨_, rfl⟩
  have bl : Below w.heap.size w W0 := by rw [hW0]; exact (((Below.refl w.heap.size w).alloc (Nat.le_refl _) _).alloc (by simp only [alloc_size]; omega) _).alloc (by simp only [alloc_size]; omega) _
  rw [← hW0]
  clear hW0
  refine (Recover_out W0 leaf d s hs hd ho).mono ?_
  rintro e w1 ⟨rfl, hb1⟩
  have L1 := Lib.hid (bel_trans bl hb1 bl.size)
  clear hb1 bl ho
  go_wp2_with fail
  go_ret
  exact ⟨rfl, L1.out.alloc L1.out.size _⟩
end Go.Proofs.Ytlgpipdeckdmjaa.One
