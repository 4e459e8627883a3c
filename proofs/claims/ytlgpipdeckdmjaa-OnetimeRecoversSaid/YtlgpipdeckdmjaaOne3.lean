/-
  onetime: Secret, Step, Advance.
-/
import Derived.Test.YtlgpipdeckdmjaaOne2
set_option linter.unusedVariables false
set_option linter.unusedSimpArgs false
namespace Go.Proofs.Ytlgpipdeckdmjaa.One
open Go.RowKit Base Reg Types Slice Sha
theorem Secret_in (w : World) (seed : List Nat) (leaf chain : Nat) (hs : seed.length = 32) (hleaf : leaf ≤ 65535) (hc : chain ≤ 34) :
    Calls Try.prog 19 #[agg .u8 seed, .int .i64 (leaf : Int), .int .i64 (chain : Int)] w fun e w' => e = .returned (.tuple #[agg .u8 (sec seed leaf chain), .int .i64 0]) ∧ Below w.heap.size w w' := by
  go_enter Try.func19, Try.ntmps19
  have i1 : decide (((0 : Int) ≤ (leaf : Int) ∧ (leaf : Int) ≤ 65535) ∧ ((0 : Int) ≤ (chain : Int) ∧ (chain : Int) ≤ 34)) = true := by simp; omega
  go_wp2_with fail
  refine (valid leaf chain _).mono ?_
  rintro e w1 ⟨rfl, rfl⟩
  rw [i1]
  clear i1
  go_wp2_with fail
  refine (secret _ seed leaf chain hs hleaf (by omega)).mono ?_
  rintro e w1 ⟨rfl, hb1⟩
  have B1 := blk_keep (blk_at (w.alloc (.cells (cl .u8 seed).toArray 31)) (cl .u8 (zs 16)) 22 (b := w.heap.size + 1) (by simp only [alloc_size])) hb1
  have hbel := bel_trans (((Below.refl w.heap.size w).alloc (Nat.le_refl _) (.cells (cl .u8 seed).toArray 31)).alloc (by simp only [alloc_size]; omega) (.cells (cl .u8 (zs 16)).toArray 22)) hb1 (by simp only [alloc_size]; omega)
  have hk := bk_of B1
  have hl := sec_length seed leaf chain
  clear hb1
  go_wp2_with fail
  refine ret2_b16 rfl rfl rfl (blk_setRow B1 (cl .u8 (sec seed leaf chain))) hl rfl ⟨rfl, bel_setRow hbel (by omega) _⟩
theorem Secret_out (w : World) (seed : List Nat) (leaf chain : Int) (hs : seed.length = 32) (ho : ¬ ((0 ≤ leaf ∧ leaf ≤ 65535) ∧ (0 ≤ chain ∧ chain ≤ 34))) :
    Calls Try.prog 19 #[agg .u8 seed, .int .i64 leaf, .int .i64 chain] w fun e w' => e = .returned (.tuple #[agg .u8 (zs 16), .int .i64 2]) ∧ Below w.heap.size w w' := by
  go_enter Try.func19, Try.ntmps19
  go_wp2_with fail
  refine (valid leaf chain _).mono ?_
  rintro e w1 ⟨rfl, rfl⟩
  rw [decide_eq_false ho]
  have hk : bk ((w.alloc (.cells (cl .u8 seed).toArray 31)).alloc (.cells (cl .u8 (zs 16)).toArray 22)) (w.heap.size + 1) = some (cl .u8 (zs 16)).toArray := bk_of (blk_at _ _ _ (by simp only [alloc_size]))
  clear ho
  go_wp2_with fail
  refine ret2_b16 rfl rfl rfl (blk_at _ (cl .u8 (zs 16)) 22 (by simp only [alloc_size])) rfl rfl ⟨rfl, (((Below.refl w.heap.size w).alloc (Nat.le_refl _) _).alloc (by simp only [alloc_size]; omega) _)⟩
theorem Step_in (w : World) (leaf chain i : Nat) (v : List Nat) (hs : v.length = 16) (hleaf : leaf ≤ 65535) (hc : chain ≤ 34) (hi : i ≤ 14) :
    Calls Try.prog 22 #[.int .i64 (leaf : Int), .int .i64 (chain : Int), .int .i64 (i : Int), agg .u8 v] w fun e w' => e = .returned (.tuple #[agg .u8 (stp leaf chain i v), .int .i64 0]) ∧ Below w.heap.size w w' := by
  go_enter Try.func22, Try.ntmps22
  have i1 : decide (((0 : Int) ≤ (leaf : Int) ∧ (leaf : Int) ≤ 65535) ∧ ((0 : Int) ≤ (chain : Int) ∧ (chain : Int) ≤ 34)) = true := by simp; omega
  have i2 : decide ((0 : Int) ≤ (i : Int) ∧ (i : Int) ≤ 14) = true := by simp; omega
  go_wp2_with fail
  refine (valid leaf chain _).mono ?_
  rintro e w1 ⟨rfl, rfl⟩
  rw [i1]
  go_wp2_with fail
  refine (within i 14 _).mono ?_
  rintro e w1 ⟨rfl, rfl⟩
  rw [i2]
  clear i1 i2
  go_wp2_with fail
  refine (step _ leaf chain i v hs hleaf (by omega) (by omega)).mono ?_
  rintro e w1 ⟨rfl, hb1⟩
  have B1 := blk_keep (blk_at (w.alloc (.cells (cl .u8 v).toArray 22)) (cl .u8 (zs 16)) 22 (b := w.heap.size + 1) (by simp only [alloc_size])) hb1
  have hbel := bel_trans (((Below.refl w.heap.size w).alloc (Nat.le_refl _) (.cells (cl .u8 v).toArray 22)).alloc (by simp only [alloc_size]; omega) (.cells (cl .u8 (zs 16)).toArray 22)) hb1 (by simp only [alloc_size]; omega)
  have hk := bk_of B1
  have hl := stp_length leaf chain i v
  clear hb1
  go_wp2_with fail
  refine ret2_b16 rfl rfl rfl (blk_setRow B1 (cl .u8 (stp leaf chain i v))) hl rfl ⟨rfl, bel_setRow hbel (by omega) _⟩
theorem Step_out (w : World) (leaf chain i : Int) (v : List Nat) (hs : v.length = 16) (ho : ¬ (((0 ≤ leaf ∧ leaf ≤ 65535) ∧ (0 ≤ chain ∧ chain ≤ 34)) ∧ 0 ≤ i ∧ i ≤ 14)) :
    Calls Try.prog 22 #[.int .i64 leaf, .int .i64 chain, .int .i64 i, agg .u8 v] w fun e w' => e = .returned (.tuple #[agg .u8 (zs 16), .int .i64 2]) ∧ Below w.heap.size w w' := by
  go_enter Try.func22, Try.ntmps22
  go_wp2_with fail
  refine (valid leaf chain _).mono ?_
  rintro e w1 ⟨rfl, rfl⟩
  by_cases h1 : (0 ≤ leaf ∧ leaf ≤ 65535) ∧ (0 ≤ chain ∧ chain ≤ 34)
  · rw [decide_eq_true h1]
    go_wp2_with fail
    refine (within i 14 _).mono ?_
    rintro e w1 ⟨rfl, rfl⟩
    rw [decide_eq_false (fun h2 => ho ⟨h1, h2⟩)]
    clear ho h1
    go_wp2_with fail
    refine ret2_b16 rfl rfl rfl (blk_at _ (cl .u8 (zs 16)) 22 (by simp only [alloc_size])) rfl rfl ⟨rfl, (((Below.refl w.heap.size w).alloc (Nat.le_refl _) _).alloc (by simp only [alloc_size]; omega) _)⟩
  · rw [decide_eq_false h1]
    clear ho h1
    go_wp2_with fail
    refine ret2_b16 rfl rfl rfl (blk_at _ (cl .u8 (zs 16)) 22 (by simp only [alloc_size])) rfl rfl ⟨rfl, (((Below.refl w.heap.size w).alloc (Nat.le_refl _) _).alloc (by simp only [alloc_size]; omega) _)⟩
theorem Advance_in (w : World) (leaf chain i n : Nat) (v : List Nat) (hs : v.length = 16) (hleaf : leaf ≤ 65535) (hc : chain ≤ 34) (hi : i + n ≤ 15) (to_ : Int) (hto : to_ = ((i + n : Nat) : Int)) :
    Calls Try.prog 23 #[.int .i64 (leaf : Int), .int .i64 (chain : Int), .int .i64 (i : Int), .int .i64 to_, agg .u8 v] w fun e w' => e = .returned (.tuple #[agg .u8 (adv leaf chain i n v), .int .i64 0]) ∧ Below w.heap.size w w' := by
  go_enter Try.func23, Try.ntmps23
  have i1 : decide (((0 : Int) ≤ (leaf : Int) ∧ (leaf : Int) ≤ 65535) ∧ ((0 : Int) ≤ (chain : Int) ∧ (chain : Int) ≤ 34)) = true := by simp; omega
  have i2 : decide ((0 : Int) ≤ (i : Int) ∧ (i : Int) ≤ to_) = true := by simp; omega
  have i3 : decide ((0 : Int) ≤ to_ ∧ to_ ≤ 15) = true := by simp; omega
  have HT := Lib.hid hto
  clear hto
  go_wp2_with fail
  refine (valid leaf chain _).mono ?_
  rintro e w1 ⟨rfl, rfl⟩
  rw [i1]
  go_wp2_with fail
  refine (within i to_ _).mono ?_
  rintro e w1 ⟨rfl, rfl⟩
  rw [i2]
  go_wp2_with fail
  refine (within to_ 15 _).mono ?_
  rintro e w1 ⟨rfl, rfl⟩
  rw [i3]
  clear i1 i2 i3
  go_wp2_with fail
  refine (advance _ leaf chain i n v hs hleaf (by omega) (by omega) to_ HT.out).mono ?_
  rintro e w1 ⟨rfl, hb1⟩
  have B1 := blk_keep (blk_at (w.alloc (.cells (cl .u8 v).toArray 22)) (cl .u8 (zs 16)) 22 (b := w.heap.size + 1) (by simp only [alloc_size])) hb1
  have hbel := bel_trans (((Below.refl w.heap.size w).alloc (Nat.le_refl _) (.cells (cl .u8 v).toArray 22)).alloc (by simp only [alloc_size]; omega) (.cells (cl .u8 (zs 16)).toArray 22)) hb1 (by simp only [alloc_size]; omega)
  have hk := bk_of B1
  have hl := adv_length leaf chain i n v hs
  clear hb1
  go_wp2_with fail
  refine ret2_b16 rfl rfl rfl (blk_setRow B1 (cl .u8 (adv leaf chain i n v))) hl rfl ⟨rfl, bel_setRow hbel (by omega) _⟩
theorem Advance_out (w : World) (leaf chain i to_ : Int) (v : List Nat) (hs : v.length = 16) (ho : ¬ (((0 ≤ leaf ∧ leaf ≤ 65535) ∧ (0 ≤ chain ∧ chain ≤ 34)) ∧ (0 ≤ i ∧ i ≤ to_) ∧ 0 ≤ to_ ∧ to_ ≤ 15)) :
    Calls Try.prog 23 #[.int .i64 leaf, .int .i64 chain, .int .i64 i, .int .i64 to_, agg .u8 v] w fun e w' => e = .returned (.tuple #[agg .u8 (zs 16), .int .i64 2]) ∧ Below w.heap.size w w' := by
  go_enter Try.func23, Try.ntmps23
  go_wp2_with fail
  refine (valid leaf chain _).mono ?_
  rintro e w1 ⟨rfl, rfl⟩
  by_cases h1 : (0 ≤ leaf ∧ leaf ≤ 65535) ∧ (0 ≤ chain ∧ chain ≤ 34)
  · rw [decide_eq_true h1]
    go_wp2_with fail
    refine (within i to_ _).mono ?_
    rintro e w1 ⟨rfl, rfl⟩
    by_cases h2 : 0 ≤ i ∧ i ≤ to_
    · rw [decide_eq_true h2]
      go_wp2_with fail
      refine (within to_ 15 _).mono ?_
      rintro e w1 ⟨rfl, rfl⟩
      rw [decide_eq_false (fun h3 => ho ⟨h1, h2, h3⟩)]
      clear ho h1 h2
      go_wp2_with fail
      refine ret2_b16 rfl rfl rfl (blk_at _ (cl .u8 (zs 16)) 22 (by simp only [alloc_size])) rfl rfl ⟨rfl, (((Below.refl w.heap.size w).alloc (Nat.le_refl _) _).alloc (by simp only [alloc_size]; omega) _)⟩
    · rw [decide_eq_false h2]
      clear ho h1 h2
      go_wp2_with fail
      refine ret2_b16 rfl rfl rfl (blk_at _ (cl .u8 (zs 16)) 22 (by simp only [alloc_size])) rfl rfl ⟨rfl, (((Below.refl w.heap.size w).alloc (Nat.le_refl _) _).alloc (by simp only [alloc_size]; omega) _)⟩
  · rw [decide_eq_false h1]
    clear ho h1
    go_wp2_with fail
    refine ret2_b16 rfl rfl rfl (blk_at _ (cl .u8 (zs 16)) 22 (by simp only [alloc_size])) rfl rfl ⟨rfl, (((Below.refl w.heap.size w).alloc (Nat.le_refl _) _).alloc (by simp only [alloc_size]; omega) _)⟩
end Go.Proofs.Ytlgpipdeckdmjaa.One
