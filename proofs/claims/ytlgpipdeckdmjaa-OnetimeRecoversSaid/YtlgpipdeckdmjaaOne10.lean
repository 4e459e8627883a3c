/-
  onetime: Recover, Compress.
-/
import Derived.Test.YtlgpipdeckdmjaaOne9
set_option linter.unusedVariables false
set_option linter.unusedSimpArgs false
namespace Go.Proofs.Ytlgpipdeckdmjaa.One
open Go.RowKit Base Reg Types Slice Sha
set_option maxRecDepth 20000 in
theorem Recover_in (w : World) (leaf : Nat) (d s : List Nat) (hs : s.length = 560) (hd : d.length = 16) (bd : By d) (hleaf : leaf ≤ 65535) :
    Calls Try.prog 33 #[.int .i64 (leaf : Int), agg .u8 d, agg .u8 s] w fun e w' => e = .returned (.tuple #[agg .u8 (cmp leaf (flat (endF s d leaf) 35)), .int .i64 0]) ∧ Below w.heap.size w w' := by
  have i1 : decide ((0 : Int) ≤ (leaf : Int) ∧ (leaf : Int) ≤ 65535) = true := by simp; omega
  have I1 := Lib.hid i1
  clear i1
  go_enter Try.func33, Try.ntmps33
  go_wp2_with fail
  refine (within leaf 65535 _).mono ?_
  rintro e w0 ⟨rfl, rfl⟩
  rw [I1.out]
  go_wp2_with fail
  obtain ⟨W0, hW0⟩ : ∃ W0, W0 = (((w.alloc (.cells (cl .u8 d).toArray 22)).alloc (.cells (cl .u8 s).toArray 68)).alloc (.cells (cl .u8 (zs 16)).toArray 22)) := ⟨_, rfl⟩
  have b2 : blk W0 (w.heap.size + 1 + 1) (cl .u8 (zs 16)) 22 := by rw [hW0]; exact blk_at _ _ _ (by simp only [alloc_size])
  have bl : Below w.heap.size w W0 := by rw [hW0]; exact (((Below.refl w.heap.size w).alloc (Nat.le_refl _) _).alloc (by simp only [alloc_size]; omega) _).alloc (by simp only [alloc_size]; omega) _
  rw [← hW0]
  clear hW0
  refine (ends W0 s d leaf hs hd bd hleaf).mono ?_
  rintro e w1 ⟨rfl, hb1⟩
  have B1 := Lib.hid (blk_keep b2 hb1)
  have L1 := Lib.hid (bel_trans bl hb1 bl.size)
  have lf := flat_length (endF_length hs d leaf) 35
  clear hb1 b2 bl
  go_wp2_with fail
  refine (compress w1 leaf (flat (endF s d leaf) 35) lf hleaf).mono ?_
  rintro e w2 ⟨rfl, hb2⟩
  have B2 := blk_keep B1.out hb2
  have k2 := bk_of B2
  have L2 := bel_trans L1.out hb2 L1.out.size
  have lc := cmp_length leaf (flat (endF s d leaf) 35)
  clear hb2
  go_wp2_with fail
  refine ret2_b16 rfl rfl rfl (blk_setRow B2 (cl .u8 (cmp leaf (flat (endF s d leaf) 35)))) lc rfl ⟨rfl, bel_setRow L2 (by omega) _⟩
theorem Recover_out (w : World) (leaf : Int) (d s : List Nat) (hs : s.length = 560) (hd : d.length = 16) (ho : ¬ (0 ≤ leaf ∧ leaf ≤ 65535)) :
    Calls Try.prog 33 #[.int .i64 leaf, agg .u8 d, agg .u8 s] w fun e w' => e = .returned (.tuple #[agg .u8 (zs 16), .int .i64 2]) ∧ Below w.heap.size w w' := by
  go_enter Try.func33, Try.ntmps33
  go_wp2_with fail
  refine (within leaf 65535 _).mono ?_
  rintro e w0 ⟨rfl, rfl⟩
  rw [decide_eq_false ho]
  clear ho
  go_wp2_with fail
  refine ret2_b16 rfl rfl rfl (blk_at _ (cl .u8 (zs 16)) 22 (by simp only [alloc_size])) rfl rfl ⟨rfl, (((Below.refl w.heap.size w).alloc (Nat.le_refl _) _).alloc (by simp only [alloc_size]; omega) _).alloc (by simp only [alloc_size]; omega) _⟩
theorem Compress_in (w : World) (leaf : Nat) (s : List Nat) (hs : s.length = 560) (hleaf : leaf ≤ 65535) :
    Calls Try.prog 39 #[.int .i64 (leaf : Int), agg .u8 s] w fun e w' => e = .returned (.tuple #[agg .u8 (cmp leaf s), .int .i64 0]) ∧ Below w.heap.size w w' := by
  have i1 : decide ((0 : Int) ≤ (leaf : Int) ∧ (leaf : Int) ≤ 65535) = true := by simp; omega
  have I1 := Lib.hid i1
  clear i1
  go_enter Try.func39, Try.ntmps39
  go_wp2_with fail
  refine (within leaf 65535 _).mono ?_
  rintro e w0 ⟨rfl, rfl⟩
  rw [I1.out]
  go_wp2_with fail
  refine (compress _ leaf s hs hleaf).mono ?_
  rintro e w2 ⟨rfl, hb2⟩
  have B2 := blk_keep (blk_at (w.alloc (.cells (cl .u8 s).toArray 55)) (cl .u8 (zs 16)) 22 (b := w.heap.size + 1) (by simp only [alloc_size])) hb2
  have k2 := bk_of B2
  have L2 := bel_trans (((Below.refl w.heap.size w).alloc (Nat.le_refl _) (.cells (cl .u8 s).toArray 55)).alloc (by simp only [alloc_size]; omega) (.cells (cl .u8 (zs 16)).toArray 22)) hb2 (by simp only [alloc_size]; omega)
  have lc := cmp_length leaf s
  clear hb2
  go_wp2_with fail
  refine ret2_b16 rfl rfl rfl (blk_setRow B2 (cl .u8 (cmp leaf s))) lc rfl ⟨rfl, bel_setRow L2 (by omega) _⟩
theorem Compress_out (w : World) (leaf : Int) (s : List Nat) (hs : s.length = 560) (ho : ¬ (0 ≤ leaf ∧ leaf ≤ 65535)) :
    Calls Try.prog 39 #[.int .i64 leaf, agg .u8 s] w fun e w' => e = .returned (.tuple #[agg .u8 (zs 16), .int .i64 2]) ∧ Below w.heap.size w w' := by
  go_enter Try.func39, Try.ntmps39
  go_wp2_with fail
  refine (within leaf 65535 _).mono ?_
  rintro e w0 ⟨rfl, rfl⟩
  rw [decide_eq_false ho]
  clear ho
  go_wp2_with fail
  refine ret2_b16 rfl rfl rfl (blk_at _ (cl .u8 (zs 16)) 22 (by simp only [alloc_size])) rfl rfl ⟨rfl, ((Below.refl w.heap.size w).alloc (Nat.le_refl _) _).alloc (by simp only [alloc_size]; omega) _⟩
end Go.Proofs.Ytlgpipdeckdmjaa.One
