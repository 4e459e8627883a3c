/-
  onetime: an array with the result of a function for each chain.
-/
import Derived.Test.YtlgpipdeckdmjaaOne4
set_option linter.unusedVariables false
set_option linter.unusedSimpArgs false
namespace Go.Proofs.Ytlgpipdeckdmjaa.One
open Go.RowKit Base Reg Types Slice Sha
/-- The values of the first k chains, one after another. -/
def flat (F : Nat → List Nat) (k : Nat) : List Nat := ((List.range k).map F).flatten
def fl (F : Nat → List Nat) (k : Nat) : List Nat := flat F k ++ zs (560 - 16 * k)
theorem flat_succ (F : Nat → List Nat) (k : Nat) : flat F (k + 1) = flat F k ++ F k := by simp [flat, List.range_succ]
theorem flat_length {F : Nat → List Nat} (h : ∀ c, (F c).length = 16) : ∀ k, (flat F k).length = 16 * k
  | 0 => rfl
  | k + 1 => by rw [flat_succ, List.length_append, flat_length h k, h]; omega
theorem fl_length {F : Nat → List Nat} (h : ∀ c, (F c).length = 16) {k : Nat} (hk : k ≤ 35) : (fl F k).length = 560 := by
  rw [fl, List.length_append, flat_length h, zs_length]; omega
theorem fl_zero (F : Nat → List Nat) : fl F 0 = zs 560 := by simp [fl, flat]
theorem fl_full (F : Nat → List Nat) : fl F 35 = flat F 35 := by simp [fl, zs]
theorem zs_drop (n m : Nat) : (zs n).drop m = zs (n - m) := by simp [zs]
theorem fl_splice {F : Nat → List Nat} (h : ∀ c, (F c).length = 16) {k : Nat} (hk : k < 35) : splice (cl .u8 (fl F k)) (16 * k) (cl .u8 (F k)) = cl .u8 (fl F (k + 1)) := by
  unfold splice
  have hl := flat_length h k
  rw [cl_length, h, cl_take, cl_drop, cl_append, cl_append]
  congr 1
  have e1 : (fl F k).take (16 * k) = flat F k := by rw [fl, List.take_left' hl]
  have e2 : (fl F k).drop (16 * k + 16) = zs (560 - 16 * (k + 1)) := by
    rw [fl, List.drop_append, hl, List.drop_eq_nil_of_le (by omega), List.nil_append, zs_drop]
    congr 1
    omega
  rw [e1, e2, fl, flat_succ]
/-- A value is written into its place. -/
theorem st_at {w : World} {b k : Nat} {F : Nat → List Nat} {t : TypeId} (h : ∀ c, (F c).length = 16) (hk : k < 35) (hB : blk w b (cl .u8 (fl F k)) t) :
    (stA 22 (.pointer (some ⟨b, k * 16, none⟩)) (agg .u8 (F k))).run Try.prog w = .ok () (w.setRow b (cl .u8 (fl F (k + 1))).toArray) := by
  rw [Nat.mul_comm]
  have h1 := run_storeAt_part (P := Try.prog) (ty := 22) (vs := cl .u8 (F k)) hB (16 * k) (by rw [cl_length, h]; kernel_rfl) (by rw [cl_length, cl_length, h, fl_length h (by omega)]; omega) (cl_one _ _)
  rw [fl_splice h hk] at h1
  exact h1
set_option maxRecDepth 20000 in
theorem each_public (w : World) (F : Nat → List Nat) (v1 v2 : Value) (hl : ∀ c, (F c).length = 16) (hF : ∀ c : Nat, c < 35 → ∀ W, Below w.heap.size w W → Calls Try.prog 80 #[.int .i64 (c : Int), v1, v2] W fun e w' => e = .returned (agg .u8 (F c)) ∧ Below W.heap.size W w') :
    Calls Try.prog 79 #[.func (.func 80) #[] #[v1, v2]] w fun e w' => e = .returned (agg .u8 (flat F 35)) ∧ Below w.heap.size w w' := by
  have HF := Lib.hid hF
  have HL := Lib.hid hl
  clear hF hl
  go_enter Try.func79, Try.ntmps79
  go_wp2_with fail
  go_loopw [5] (fun i wr => ∃ k : Nat, k ≤ 35 ∧ i = .int .i64 k ∧ blk wr w.heap.size (cl .u8 (zs 560)) 55 ∧ blk wr (w.heap.size + 1) (cl .u8 (fl F k)) 55 ∧ Below w.heap.size w wr) (fun i _ => 35 - (intOf i).toNat)
  case atStart => exact ⟨0, by omega, rfl, blk_alloc (blk_new _ _ _) _, by rw [fl_zero]; exact blk_at _ _ _ (by simp), ((Below.refl _ _).alloc (Nat.le_refl _) _).alloc (by simp) _⟩
  case round =>
    obtain ⟨k, hk, rfl, hb1, hb2, hbel⟩ := hrel
    by_cases hk2 : k < 35
    · have HB1 := Lib.hid hb1
      have HB2 := Lib.hid hb2
      clear hb1 hb2
      go_wp2_with fail
      refine (HF.out k hk2 wr hbel).mono ?_
      rintro e w1 ⟨rfl, hw1⟩
      have q := st_at HL.out hk2 (blk_keep HB2.out hw1)
      have C1 := Lib.hid (blk_keep HB1.out hw1)
      have C2 := Lib.hid (blk_keep HB2.out hw1)
      have CL := Lib.hid (bel_trans hbel hw1 hbel.size)
      have hl := HL.out k
      clear hw1
      go_wp2_with fail
      exact ⟨⟨k + 1, by omega, by go_num, blk_setRow_ne C1.out _ (by omega), blk_setRow C2.out (cl .u8 (fl F (k + 1))), bel_setRow CL.out (by omega) _⟩, by simp [intOf]; omega⟩
    · obtain rfl : k = 35 := by omega
      rw [fl_full F] at hb2
      have hl := flat_length HL.out 35
      have hb3 := bk_of hb1
      have hb4 := bk_of hb2
      go_wp2_with fail
      refine ret_bs rfl rfl (blk_setRow hb1 (cl .u8 (flat F 35))) hl rfl ⟨rfl, bel_setRow hbel (Nat.le_refl _) _⟩
set_option maxRecDepth 20000 in
theorem each_sign (w : World) (F : Nat → List Nat) (v1 v2 v3 : Value) (hl : ∀ c, (F c).length = 16) (hF : ∀ c : Nat, c < 35 → ∀ W, Below w.heap.size w W → Calls Try.prog 81 #[.int .i64 (c : Int), v1, v2, v3] W fun e w' => e = .returned (agg .u8 (F c)) ∧ Below W.heap.size W w') :
    Calls Try.prog 79 #[.func (.func 81) #[] #[v1, v2, v3]] w fun e w' => e = .returned (agg .u8 (flat F 35)) ∧ Below w.heap.size w w' := by
  have HF := Lib.hid hF
  have HL := Lib.hid hl
  clear hF hl
  go_enter Try.func79, Try.ntmps79
  go_wp2_with fail
  go_loopw [5] (fun i wr => ∃ k : Nat, k ≤ 35 ∧ i = .int .i64 k ∧ blk wr w.heap.size (cl .u8 (zs 560)) 55 ∧ blk wr (w.heap.size + 1) (cl .u8 (fl F k)) 55 ∧ Below w.heap.size w wr) (fun i _ => 35 - (intOf i).toNat)
  case atStart => exact ⟨0, by omega, rfl, blk_alloc (blk_new _ _ _) _, by rw [fl_zero]; exact blk_at _ _ _ (by simp), ((Below.refl _ _).alloc (Nat.le_refl _) _).alloc (by simp) _⟩
  case round =>
    obtain ⟨k, hk, rfl, hb1, hb2, hbel⟩ := hrel
    by_cases hk2 : k < 35
    · have HB1 := Lib.hid hb1
      have HB2 := Lib.hid hb2
      clear hb1 hb2
      go_wp2_with fail
      refine (HF.out k hk2 wr hbel).mono ?_
      rintro e w1 ⟨rfl, hw1⟩
      have q := st_at HL.out hk2 (blk_keep HB2.out hw1)
      have C1 := Lib.hid (blk_keep HB1.out hw1)
      have C2 := Lib.hid (blk_keep HB2.out hw1)
      have CL := Lib.hid (bel_trans hbel hw1 hbel.size)
      have hl := HL.out k
      clear hw1
      go_wp2_with fail
      exact ⟨⟨k + 1, by omega, by go_num, blk_setRow_ne C1.out _ (by omega), blk_setRow C2.out (cl .u8 (fl F (k + 1))), bel_setRow CL.out (by omega) _⟩, by simp [intOf]; omega⟩
    · obtain rfl : k = 35 := by omega
      rw [fl_full F] at hb2
      have hl := flat_length HL.out 35
      have hb3 := bk_of hb1
      have hb4 := bk_of hb2
      go_wp2_with fail
      refine ret_bs rfl rfl (blk_setRow hb1 (cl .u8 (flat F 35))) hl rfl ⟨rfl, bel_setRow hbel (Nat.le_refl _) _⟩
set_option maxRecDepth 20000 in
theorem each_ends (w : World) (F : Nat → List Nat) (v1 v2 v3 : Value) (hl : ∀ c, (F c).length = 16) (hF : ∀ c : Nat, c < 35 → ∀ W, Below w.heap.size w W → Calls Try.prog 95 #[.int .i64 (c : Int), v1, v2, v3] W fun e w' => e = .returned (agg .u8 (F c)) ∧ Below W.heap.size W w') :
    Calls Try.prog 79 #[.func (.func 95) #[] #[v1, v2, v3]] w fun e w' => e = .returned (agg .u8 (flat F 35)) ∧ Below w.heap.size w w' := by
  have HF := Lib.hid hF
  have HL := Lib.hid hl
  clear hF hl
  go_enter Try.func79, Try.ntmps79
  go_wp2_with fail
  go_loopw [5] (fun i wr => ∃ k : Nat, k ≤ 35 ∧ i = .int .i64 k ∧ blk wr w.heap.size (cl .u8 (zs 560)) 55 ∧ blk wr (w.heap.size + 1) (cl .u8 (fl F k)) 55 ∧ Below w.heap.size w wr) (fun i _ => 35 - (intOf i).toNat)
  case atStart => exact ⟨0, by omega, rfl, blk_alloc (blk_new _ _ _) _, by rw [fl_zero]; exact blk_at _ _ _ (by simp), ((Below.refl _ _).alloc (Nat.le_refl _) _).alloc (by simp) _⟩
  case round =>
    obtain ⟨k, hk, rfl, hb1, hb2, hbel⟩ := hrel
    by_cases hk2 : k < 35
    · have HB1 := Lib.hid hb1
      have HB2 := Lib.hid hb2
      clear hb1 hb2
      go_wp2_with fail
      refine (HF.out k hk2 wr hbel).mono ?_
      rintro e w1 ⟨rfl, hw1⟩
      have q := st_at HL.out hk2 (blk_keep HB2.out hw1)
      have C1 := Lib.hid (blk_keep HB1.out hw1)
      have C2 := Lib.hid (blk_keep HB2.out hw1)
      have CL := Lib.hid (bel_trans hbel hw1 hbel.size)
      have hl := HL.out k
      clear hw1
      go_wp2_with fail
      exact ⟨⟨k + 1, by omega, by go_num, blk_setRow_ne C1.out _ (by omega), blk_setRow C2.out (cl .u8 (fl F (k + 1))), bel_setRow CL.out (by omega) _⟩, by simp [intOf]; omega⟩
    · obtain rfl : k = 35 := by omega
      rw [fl_full F] at hb2
      have hl := flat_length HL.out 35
      have hb3 := bk_of hb1
      have hb4 := bk_of hb2
      go_wp2_with fail
      refine ret_bs rfl rfl (blk_setRow hb1 (cl .u8 (flat F 35))) hl rfl ⟨rfl, bel_setRow hbel (Nat.le_refl _) _⟩
end Go.Proofs.Ytlgpipdeckdmjaa.One
