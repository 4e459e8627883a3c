/-
  Several texts laid into one (merge.py): One6, One7, One8, One9, One10, One11.
-/
import Derived.Test.YtlgpipdeckdmjaaNl07
import Derived.Test.YtlgpipdeckdmjaaNl08
/-
  onetime: an array with the result of a function for each chain.
-/
set_option linter.unusedVariables false
set_option linter.unusedSimpArgs false
namespace Go.Proofs.Ytlgpipdeckdmjaa.One
open Go.RowKit Base Reg Types Slice Sha
/-- The values of the first k chains, one after another. -/
def flat (F : Nat → List Nat) (k : Nat) : List Nat := ((List.range k).map F).flatten
def fl (F : Nat → List Nat) (k : Nat) : List Nat := flat F k ++ zs (560 - 16 * k)
theorem flat_succ (F : Nat → List Nat) (k : Nat) : flat F (k + 1) = flat F k ++ F k := by simp [flat, List.range_succ]
theorem flat_length {F : Nat → List Nat} (h : ∀ c, (F c).length = 16) : ∀ k, (flat F k).length = 16 * k
  | 0 => rfl
  | k + 1 => by rw [flat_succ, List.length_append, flat_length h k, h]; omega
theorem fl_length {F : Nat → List Nat} (h : ∀ c, (F c).length = 16) {k : Nat} (hk : k ≤ 35) : (fl F k).length = 560 := by
  rw [fl, List.length_append, flat_length h, zs_length]; omega
theorem fl_zero (F : Nat → List Nat) : fl F 0 = zs 560 := by simp [fl, flat]
theorem fl_full (F : Nat → List Nat) : fl F 35 = flat F 35 := by simp [fl, zs]
theorem zs_drop (n m : Nat) : (zs n).drop m = zs (n - m) := by simp [zs]
theorem fl_splice {F : Nat → List Nat} (h : ∀ c, (F c).length = 16) {k : Nat} (hk : k < 35) : splice (cl .u8 (fl F k)) (16 * k) (cl .u8 (F k)) = cl .u8 (fl F (k + 1)) := by
  unfold splice
  have hl := flat_length h k
  rw [cl_length, h, cl_take, cl_drop, cl_append, cl_append]
  congr 1
  have e1 : (fl F k).take (16 * k) = flat F k := by rw [fl, List.take_left' hl]
  have e2 : (fl F k).drop (16 * k + 16) = zs (560 - 16 * (k + 1)) := by
    rw [fl, List.drop_append, hl, List.drop_eq_nil_of_le (by omega), List.nil_append, zs_drop]
    congr 1
    omega
  rw [e1, e2, fl, flat_succ]
/-- A value is written into its place. -/
theorem st_at {w : World} {b k : Nat} {F : Nat → List Nat} {t : TypeId} (h : ∀ c, (F c).length = 16) (hk : k < 35) (hB : blk w b (cl .u8 (fl F k)) t) :
    (stA 22 (.pointer (some ⟨b, k * 16, none⟩)) (agg .u8 (F k))).run Try.prog w = .ok () (w.setRow b (cl .u8 (fl F (k + 1))).toArray) := by
  rw [Nat.mul_comm]
  have h1 := run_storeAt_part (P := Try.prog) (ty := 22) (vs := cl .u8 (F k)) hB (16 * k) (by rw [cl_length, h]; kernel_rfl) (by rw [cl_length, cl_length, h, fl_length h (by omega)]; omega) (cl_one _ _)
  rw [fl_splice h hk] at h1
  exact h1
set_option maxRecDepth 20000 in
theorem each_public (w : World) (F : Nat → List Nat) (v1 v2 : Value) (hl : ∀ c, (F c).length = 16) (hF : ∀ c : Nat, c < 35 → ∀ W, Below w.heap.size w W → Calls Try.prog 80 #[.int .i64 (c : Int), v1, v2] W fun e w' => e = .returned (agg .u8 (F c)) ∧ Below W.heap.size W w') :
    Calls Try.prog 79 #[.func (.func 80) #[] #[v1, v2]] w fun e w' => e = .returned (agg .u8 (flat F 35)) ∧ Below w.heap.size w w' := by
  have HF := Lib.hid hF
  have HL := Lib.hid hl
  clear hF hl
  go_enter Try.func79, Try.ntmps79
  go_wp2_with fail
  go_loopw [5] (fun i wr => ∃ k : Nat, k ≤ 35 ∧ i = .int .i64 k ∧ blk wr w.heap.size (cl .u8 (zs 560)) 55 ∧ blk wr (w.heap.size + 1) (cl .u8 (fl F k)) 55 ∧ Below w.heap.size w wr) (fun i _ => 35 - (intOf i).toNat)
  case atStart => exact ⟨0, by omega, rfl, blk_alloc (blk_new _ _ _) _, by rw [fl_zero]; exact blk_at _ _ _ (by simp), ((Below.refl _ _).alloc (Nat.le_refl _) _).alloc (by simp) _⟩
  case round =>
    obtain ⟨k, hk, rfl, hb1, hb2, hbel⟩ := hrel
    by_cases hk2 : k < 35
    · have HB1 := Lib.hid hb1
      have HB2 := Lib.hid hb2
      clear hb1 hb2
      go_wp2_with fail
      refine (HF.out k hk2 wr hbel).mono ?_
      rintro e w1 ⟨rfl, hw1⟩
      have q := st_at HL.out hk2 (blk_keep HB2.out hw1)
      have C1 := Lib.hid (blk_keep HB1.out hw1)
      have C2 := Lib.hid (blk_keep HB2.out hw1)
      have CL := Lib.hid (bel_trans hbel hw1 hbel.size)
      have hl := HL.out k
      clear hw1
      go_wp2_with fail
      exact ⟨⟨k + 1, by omega, by go_num, blk_setRow_ne C1.out _ (by omega), blk_setRow C2.out (cl .u8 (fl F (k + 1))), bel_setRow CL.out (by omega) _⟩, by simp [intOf]; omega⟩
    · obtain rfl : k = 35 := by omega
      rw [fl_full F] at hb2
      have hl := flat_length HL.out 35
      have hb3 := bk_of hb1
      have hb4 := bk_of hb2
      go_wp2_with fail
      refine ret_bs rfl rfl (blk_setRow hb1 (cl .u8 (flat F 35))) hl rfl ⟨rfl, bel_setRow hbel (Nat.le_refl _) _⟩
set_option maxRecDepth 20000 in
theorem each_sign (w : World) (F : Nat → List Nat) (v1 v2 v3 : Value) (hl : ∀ c, (F c).length = 16) (hF : ∀ c : Nat, c < 35 → ∀ W, Below w.heap.size w W → Calls Try.prog 81 #[.int .i64 (c : Int), v1, v2, v3] W fun e w' => e = .returned (agg .u8 (F c)) ∧ Below W.heap.size W w') :
    Calls Try.prog 79 #[.func (.func 81) #[] #[v1, v2, v3]] w fun e w' => e = .returned (agg .u8 (flat F 35)) ∧ Below w.heap.size w w' := by
  have HF := Lib.hid hF
  have HL := Lib.hid hl
  clear hF hl
  go_enter Try.func79, Try.ntmps79
  go_wp2_with fail
  go_loopw [5] (fun i wr => ∃ k : Nat, k ≤ 35 ∧ i = .int .i64 k ∧ blk wr w.heap.size (cl .u8 (zs 560)) 55 ∧ blk wr (w.heap.size + 1) (cl .u8 (fl F k)) 55 ∧ Below w.heap.size w wr) (fun i _ => 35 - (intOf i).toNat)
  case atStart => exact ⟨0, by omega, rfl, blk_alloc (blk_new _ _ _) _, by rw [fl_zero]; exact blk_at _ _ _ (by simp), ((Below.refl _ _).alloc (Nat.le_refl _) _).alloc (by simp) _⟩
  case round =>
    obtain ⟨k, hk, rfl, hb1, hb2, hbel⟩ := hrel
    by_cases hk2 : k < 35
    · have HB1 := Lib.hid hb1
      have HB2 := Lib.hid hb2
      clear hb1 hb2
      go_wp2_with fail
      refine (HF.out k hk2 wr hbel).mono ?_
      rintro e w1 ⟨rfl, hw1⟩
      have q := st_at HL.out hk2 (blk_keep HB2.out hw1)
      have C1 := Lib.hid (blk_keep HB1.out hw1)
      have C2 := Lib.hid (blk_keep HB2.out hw1)
      have CL := Lib.hid (bel_trans hbel hw1 hbel.size)
      have hl := HL.out k
      clear hw1
      go_wp2_with fail
      exact ⟨⟨k + 1, by omega, by go_num, blk_setRow_ne C1.out _ (by omega), blk_setRow C2.out (cl .u8 (fl F (k + 1))), bel_setRow CL.out (by omega) _⟩, by simp [intOf]; omega⟩
    · obtain rfl : k = 35 := by omega
      rw [fl_full F] at hb2
      have hl := flat_length HL.out 35
      have hb3 := bk_of hb1
      have hb4 := bk_of hb2
      go_wp2_with fail
      refine ret_bs rfl rfl (blk_setRow hb1 (cl .u8 (flat F 35))) hl rfl ⟨rfl, bel_setRow hbel (Nat.le_refl _) _⟩
set_option maxRecDepth 20000 in
theorem each_ends (w : World) (F : Nat → List Nat) (v1 v2 v3 : Value) (hl : ∀ c, (F c).length = 16) (hF : ∀ c : Nat, c < 35 → ∀ W, Below w.heap.size w W → Calls Try.prog 95 #[.int .i64 (c : Int), v1, v2, v3] W fun e w' => e = .returned (agg .u8 (F c)) ∧ Below W.heap.size W w') :
    Calls Try.prog 79 #[.func (.func 95) #[] #[v1, v2, v3]] w fun e w' => e = .returned (agg .u8 (flat F 35)) ∧ Below w.heap.size w w' := by
  have HF := Lib.hid hF
  have HL := Lib.hid hl
  clear hF hl
  go_enter Try.func79, Try.ntmps79
  go_wp2_with fail
  go_loopw [5] (fun i wr => ∃ k : Nat, k ≤ 35 ∧ i = .int .i64 k ∧ blk wr w.heap.size (cl .u8 (zs 560)) 55 ∧ blk wr (w.heap.size + 1) (cl .u8 (fl F k)) 55 ∧ Below w.heap.size w wr) (fun i _ => 35 - (intOf i).toNat)
  case atStart => exact ⟨0, by omega, rfl, blk_alloc (blk_new _ _ _) _, by rw [fl_zero]; exact blk_at _ _ _ (by simp), ((Below.refl _ _).alloc (Nat.le_refl _) _).alloc (by simp) _⟩
  case round =>
    obtain ⟨k, hk, rfl, hb1, hb2, hbel⟩ := hrel
    by_cases hk2 : k < 35
    · have HB1 := Lib.hid hb1
      have HB2 := Lib.hid hb2
      clear hb1 hb2
      go_wp2_with fail
      refine (HF.out k hk2 wr hbel).mono ?_
      rintro e w1 ⟨rfl, hw1⟩
      have q := st_at HL.out hk2 (blk_keep HB2.out hw1)
      have C1 := Lib.hid (blk_keep HB1.out hw1)
      have C2 := Lib.hid (blk_keep HB2.out hw1)
      have CL := Lib.hid (bel_trans hbel hw1 hbel.size)
      have hl := HL.out k
      clear hw1
      go_wp2_with fail
      exact ⟨⟨k + 1, by omega, by go_num, blk_setRow_ne C1.out _ (by omega), blk_setRow C2.out (cl .u8 (fl F (k + 1))), bel_setRow CL.out (by omega) _⟩, by simp [intOf]; omega⟩
    · obtain rfl : k = 35 := by omega
      rw [fl_full F] at hb2
      have hl := flat_length HL.out 35
      have hb3 := bk_of hb1
      have hb4 := bk_of hb2
      go_wp2_with fail
      refine ret_bs rfl rfl (blk_setRow hb1 (cl .u8 (flat F 35))) hl rfl ⟨rfl, bel_setRow hbel (Nat.le_refl _) _⟩
end Go.Proofs.Ytlgpipdeckdmjaa.One
/-
  onetime: the public value of ends.
-/
set_option linter.unusedVariables false
set_option linter.unusedSimpArgs false
namespace Go.Proofs.Ytlgpipdeckdmjaa.One
open Go.RowKit Base Reg Types Slice Sha
theorem own_nil (w : World) (base : Nat) : Own w base (.slice none 0 0) [] := ⟨rfl, .inl ⟨rfl, rfl⟩⟩
theorem take_more (E : List Nat) (k : Nat) : E.take (16 * k) ++ (E.drop (k * 16)).take 16 = E.take (16 * (k + 1)) := by
  rw [Nat.mul_comm k 16, ← List.take_add]
  congr 1
theorem rd_ix_bs (x i : Value) : Instr.index 55 x i = ixA 55 x i := rfl
theorem ix_bs (E : List Nat) (k : Nat) (w : World) (hE : E.length = 560) (hk : k < 35) : (ixA 55 (agg .u8 E) (.int .i64 (k : Int))).run Try.prog w = .ok (agg .u8 ((E.drop (k * 16)).take 16)) w := by
  have hu : Try.prog.underlying 55 = some (.array 35 22) := by kernel_rfl
  have he : Try.prog.underlying 22 = some (.array 16 5) := by kernel_rfl
  obtain ⟨inf, hq, hs⟩ : ∃ inf, Try.prog.info? 22 = some inf ∧ inf.size = 16 := ⟨(Try.prog.info? 22).get (by kernel_rfl), by kernel_rfl, by kernel_rfl⟩
  have h1 : (k : Int) < 35 := by omega
  simp [ixA, Instr.index, asIntOf, run_underlying hu, h1, sizeOf, typeInfo, hq, hs, part, isAgg, run_underlying he]
  rw [if_pos hk, cl_drop, cl_take]
attribute [local go_sem ↓ high] rd_ix_bs
attribute [local go_sem] ix_bs
set_option maxRecDepth 20000 in
set_option maxHeartbeats 4000000 in
theorem compress (w : World) (leaf : Nat) (E : List Nat) (hE : E.length = 560) (hleaf : leaf ≤ 65535) :
    Calls Try.prog 77 #[.int .i64 (leaf : Int), agg .u8 E] w fun e w' => e = .returned (agg .u8 (cmp leaf E)) ∧ Below w.heap.size w w' := by
  go_enter Try.func77, Try.ntmps77
  go_wp2_with fail
  go_loopw [5, 9] (fun v i wr => ∃ k : Nat, k ≤ 35 ∧ i = .int .i64 k ∧ Own wr (w.heap.size + 2) v (E.take (16 * k)) ∧ blk wr (w.heap.size + 1) (cl .u8 (zs 16)) 22 ∧ Below w.heap.size w wr ∧ w.heap.size + 2 ≤ wr.heap.size) (fun _ i _ => 35 - (intOf i).toNat)
  case atStart => exact ⟨0, by omega, rfl, own_nil _ _, blk_at _ _ _ (by simp only [alloc_size]), ((Below.refl _ _).alloc (Nat.le_refl _) _).alloc (by simp only [alloc_size]; omega) _, by simp only [alloc_size]; omega⟩
  case round =>
    obtain ⟨k, hk, rfl, ho, hB, hbel, hsz⟩ := hrel
    by_cases hk2 : k < 35
    · have HO := Lib.hid ho
      have HB := Lib.hid hB
      have hl16 : ((E.drop (k * 16)).take 16).length = 16 := by simp; omega
      clear ho hB
      obtain ⟨x, hx⟩ : ∃ x, x = (E.drop (k * 16)).take 16 := ⟨_, rfl⟩
      have qx := ix_bs E k wr hE hk2
      rw [← hx] at qx hl16
      have HX := Lib.hid hx
      clear hx
      go_wp2_with (
        at_builtin
        refine wpList_append_bytes rfl (.tmp 12) (.tmp 13) rfl rfl rfl (own_keep HO.out ((Below.refl _ _).alloc (Nat.le_refl _) _)) (sl_whole (blk_new wr (cl .u8 x) 22) hl16.symm (Nat.le_refl _)) (by rw [hl16]; simp; omega) (by simp only [alloc_size]; omega) ?_
        intro v1 w2 ho1 hg1)
      have hb2 := (hbel.alloc hbel.size (.cells (cl .u8 x).toArray 22)).grown hg1 (by simp only [alloc_size]; omega) (fun k hk => by have := own_block HO.out k (by simpa [Act.eval] using hk); omega)
      have hB2 := blk_grown (blk_alloc HB.out (.cells (cl .u8 x).toArray 22)) hg1 (by intro e; have := own_block HO.out (w.heap.size + 1) (by simpa [Act.eval] using e.symm); omega)
      have hs2 := hg1.size
      rw [alloc_size] at hs2
      rw [HX.out, take_more] at ho1
      clear hg1
      go_roundw
      case rel => exact ⟨k + 1, by omega, by go_num, ho1, hB2, hb2, by omega⟩
      case measure => simp [intOf]; omega
    · obtain rfl : k = 35 := by omega
      rw [List.take_of_length_le (by omega)] at ho
      have HO := Lib.hid (SlC.of_own ho)
      have HB := Lib.hid hB
      obtain ⟨Av, cv, rfl⟩ := own_slice ho
      clear ho hB
      go_wp2_with fail
      rw [hE] at HO
      have HO2 := Lib.hid (HO.out.keep ((Below.refl wr.heap.size wr).alloc (Nat.le_refl _) (.cells #[.slice Av 560 cv] 99)))
      have hsl : Sl (wr.alloc (.cells #[.slice Av 560 cv] 99)) (.slice Av 560 cv) E := by
        unfold Sl
        rw [hE]
        exact HO2.out
      refine (hash1 (tag := 4) (blk_new wr [.slice Av 560 cv] 99) hsl (by omega) (by omega) (by omega)).mono ?_
      rintro e w1 ⟨rfl, hb1⟩
      have hB1 := blk_keep (blk_alloc HB.out (.cells #[.slice Av 560 cv] 99)) hb1
      have hk1 := bk_of hB1
      have hfl := cmp_length leaf E
      have hbel1 := bel_trans (hbel.alloc hbel.size (.cells #[.slice Av 560 cv] 99)) hb1 (by have := hbel.size; simp only [alloc_size]; omega)
      rw [show hf (hd 4 leaf ++ E) = cmp leaf E from rfl]
      clear hb1 hsl
      go_wp2_with fail
      refine ret_b16 rfl rfl (blk_setRow hB1 (cl .u8 (cmp leaf E))) hfl rfl ⟨rfl, bel_setRow hbel1 (by omega) _⟩
end Go.Proofs.Ytlgpipdeckdmjaa.One
/-
  onetime: the functions of a chain's number.
-/
set_option linter.unusedVariables false
set_option linter.unusedSimpArgs false
namespace Go.Proofs.Ytlgpipdeckdmjaa.One
open Go.RowKit Base Reg Types Slice Sha
set_option maxRecDepth 20000 in
theorem public_of (w : World) (seed : List Nat) (leaf c gl gs : Nat) (hs : seed.length = 32) (hleaf : leaf ≤ 65535) (hc : c < 35) (hL : blk w gl [.int .i64 (leaf : Int)] 3) (hS : blk w gs (cl .u8 seed) 31) :
    Calls Try.prog 80 #[.int .i64 (c : Int), .pointer (some ⟨gl, 0, none⟩), .pointer (some ⟨gs, 0, none⟩)] w fun e w' => e = .returned (agg .u8 (adv leaf c 0 15 (sec seed leaf c))) ∧ Below w.heap.size w w' := by
  have ltl := blk_lt hL
  have lts := blk_lt hS
  go_enter Try.func80, Try.ntmps80
  obtain ⟨ι, F, hF, hin⟩ := class_of (fun W => blk W gl [.int .i64 (leaf : Int)] 3 ∧ blk W gs (cl .u8 seed) 31 ∧ blk W w.heap.size (cl .u8 (zs 16)) 22 ∧ Below w.heap.size w W)
  have h0 := hin (w.alloc (.cells (cl .u8 (zs 16)).toArray 22)).drew ⟨blk_drew (blk_alloc hL _), blk_drew (blk_alloc hS _), blk_drew (blk_new _ _ _), ((Below.refl _ _).alloc (Nat.le_refl _) _).drew⟩
  have hne : Nonempty ι := ⟨h0.choose⟩
  have q0 : ∀ i, (F i).cell? ⟨gl, 0, none⟩ = some (.int .i64 (leaf : Int)) := fun i => (blk_cell (hF i).1 0).trans rfl
  have q1 : ∀ i, bk (F i) gs = some (cl .u8 seed).toArray := fun i => bk_of (hF i).2.1
  have q2 : ∀ i, bk (F i) w.heap.size = some (cl .u8 (zs 16)).toArray := fun i => bk_of (hF i).2.2.1
  have HF := Lib.hid hF
  have HI := Lib.hid hin
  have H0 := Lib.hid h0
  have l1 := sec_length seed leaf c
  have l2 := adv_length leaf c 0 15 (sec seed leaf c) l1
  clear hF hin h0 hL hS
  go_wp2_with fail
  refine wp_region_tail F 7 (by kernel_rfl) (by kernel_rfl) H0.out ?_
  simp only [List.take_succ_cons, List.take_zero, List.drop_succ_cons, List.drop_zero]
  repeat (go_big_quiet_step (first
    | (go_at_call 63; exact quiet_below HF.out HI.out (fun _ _ h hb => ⟨blk_keep h.1 hb, blk_keep h.2.1 hb, blk_keep h.2.2.1 hb, bel_trans h.2.2.2 hb h.2.2.2.size⟩) (secret _ seed leaf c hs hleaf (by omega)))
    | (go_at_call 68; exact quiet_below HF.out HI.out (fun _ _ h hb => ⟨blk_keep h.1 hb, blk_keep h.2.1 hb, blk_keep h.2.2.1 hb, bel_trans h.2.2.2 hb h.2.2.2.size⟩) (advance _ leaf c 0 15 (sec seed leaf c) l1 hleaf (by omega) (by omega) 15 rfl))))
  refine wpQuiet_nil ?_
  intro i
  go_wp2_with fail
  refine ret_b16 rfl rfl (blk_setRow (HF.out i).2.2.1 (cl .u8 (adv leaf c 0 15 (sec seed leaf c)))) l2 rfl ⟨rfl, bel_setRow (HF.out i).2.2.2 (Nat.le_refl _) _⟩
set_option maxRecDepth 20000 in
theorem sign_of (w : World) (seed : List Nat) (D : List Nat) (leaf c gl gd gs : Nat) (hD : D.length = 35) (hD15 : ∀ j, D.getD j 0 ≤ 15) (hs : seed.length = 32) (hleaf : leaf ≤ 65535) (hc : c < 35) (hL : blk w gl [.int .i64 (leaf : Int)] 3) (hDB : blk w gd (cl .i64 D) 27) (hS : blk w gs (cl .u8 seed) 31) :
    Calls Try.prog 81 #[.int .i64 (c : Int),   .pointer (some ⟨gl, 0, none⟩), .pointer (some ⟨gd, 0, none⟩), .pointer (some ⟨gs, 0, none⟩)] w fun e w' => e = .returned (agg .u8 (adv leaf c 0 (D.getD c 0) (sec seed leaf c))) ∧ Below w.heap.size w w' := by
  have ltl := blk_lt hL
  have ltd := blk_lt hDB
  obtain ⟨x, hx⟩ : ∃ x, x = D.getD c 0 := ⟨_, rfl⟩
  have hx15 : x ≤ 15 := by rw [hx]; exact hD15 c
  rw [← hx]
  have lts := blk_lt hS
  go_enter Try.func81, Try.ntmps81
  obtain ⟨ι, F, hF, hin⟩ := class_of (fun W => blk W gl [.int .i64 (leaf : Int)] 3 ∧ blk W gd (cl .i64 D) 27 ∧ blk W gs (cl .u8 seed) 31 ∧ blk W w.heap.size (cl .u8 (zs 16)) 22 ∧ Below w.heap.size w W)
  have h0 := hin (w.alloc (.cells (cl .u8 (zs 16)).toArray 22)).drew ⟨blk_drew (blk_alloc hL _), blk_drew (blk_alloc hDB _), blk_drew (blk_alloc hS _), blk_drew (blk_new _ _ _), ((Below.refl _ _).alloc (Nat.le_refl _) _).drew⟩
  have hne : Nonempty ι := ⟨h0.choose⟩
  have q0 : ∀ i, (F i).cell? ⟨gl, 0, none⟩ = some (.int .i64 (leaf : Int)) := fun i => (blk_cell (hF i).1 0).trans rfl
  have q1 : ∀ i, bk (F i) gs = some (cl .u8 seed).toArray := fun i => bk_of (hF i).2.2.1
  have q2 : ∀ i, bk (F i) w.heap.size = some (cl .u8 (zs 16)).toArray := fun i => bk_of (hF i).2.2.2.1
  have q3 : ∀ i, (F i).cell? ⟨gd, c, none⟩ = some (.int .i64 ((x : Nat) : Int)) := fun i => (blk_cell (hF i).2.1 c).trans (by rw [hx]; exact cl_get _ _ _ (by omega))
  have HF := Lib.hid hF
  have HI := Lib.hid hin
  have H0 := Lib.hid h0
  have l1 := sec_length seed leaf c
  have l2 := adv_length leaf c 0 (x) (sec seed leaf c) l1
  have HX := Lib.hid hx
  clear hF hin h0 hL hS hDB hx
  go_wp2_with fail
  refine wp_region_tail F 10 (by kernel_rfl) (by kernel_rfl) H0.out ?_
  simp only [List.take_succ_cons, List.take_zero, List.drop_succ_cons, List.drop_zero]
  repeat (go_big_quiet_step (first
    | (go_at_call 63; exact quiet_below HF.out HI.out (fun _ _ h hb => ⟨blk_keep h.1 hb, blk_keep h.2.1 hb, blk_keep h.2.2.1 hb, blk_keep h.2.2.2.1 hb, bel_trans h.2.2.2.2 hb h.2.2.2.2.size⟩) (secret _ seed leaf c hs hleaf (by omega)))
    | (go_at_call 68; exact quiet_below HF.out HI.out (fun _ _ h hb => ⟨blk_keep h.1 hb, blk_keep h.2.1 hb, blk_keep h.2.2.1 hb, blk_keep h.2.2.2.1 hb, bel_trans h.2.2.2.2 hb h.2.2.2.2.size⟩) (advance _ leaf c 0 x (sec seed leaf c) l1 hleaf (by omega) (by omega) x (by rw [Nat.zero_add])))))
  refine wpQuiet_nil ?_
  intro i
  go_wp2_with fail
  refine ret_b16 rfl rfl (blk_setRow (HF.out i).2.2.2.1 (cl .u8 (adv leaf c 0 (x) (sec seed leaf c)))) l2 rfl ⟨rfl, bel_setRow (HF.out i).2.2.2.2 (Nat.le_refl _) _⟩
theorem ld_at {W : World} {gs c : Nat} {s : List Nat} {t : TypeId} (hs : s.length = 560) (hc : c < 35) (h : blk W gs (cl .u8 s) t) : (ldA 22 (.pointer (some ⟨gs, c * 16, none⟩))).run Try.prog W = .ok (agg .u8 ((s.drop (c * 16)).take 16)) W := by
  have h1 := run_loadAt_part (P := Try.prog) (ty := 22) h (c * 16) 16 (d := (Try.prog.underlying 22).get (by kernel_rfl)) (by kernel_rfl) (by kernel_rfl) (by kernel_rfl) (by rw [cl_length, hs]; omega)
  rw [cl_drop, cl_take] at h1
  exact h1
set_option maxRecDepth 20000 in
theorem ends_of (w : World) (seed : List Nat) (D : List Nat) (leaf c gl gd gs : Nat) (hD : D.length = 35) (hD15 : ∀ j, D.getD j 0 ≤ 15) (hs : seed.length = 560) (hleaf : leaf ≤ 65535) (hc : c < 35) (hL : blk w gl [.int .i64 (leaf : Int)] 3) (hDB : blk w gd (cl .i64 D) 27) (hS : blk w gs (cl .u8 seed) 68) :
    Calls Try.prog 95 #[.int .i64 (c : Int),   .pointer (some ⟨gl, 0, none⟩), .pointer (some ⟨gd, 0, none⟩), .pointer (some ⟨gs, 0, none⟩)] w fun e w' => e = .returned (agg .u8 (adv leaf c (D.getD c 0) (15 - D.getD c 0) ((seed.drop (c * 16)).take 16))) ∧ Below w.heap.size w w' := by
  have ltl := blk_lt hL
  have ltd := blk_lt hDB
  obtain ⟨x, hx⟩ : ∃ x, x = D.getD c 0 := ⟨_, rfl⟩
  have hx15 : x ≤ 15 := by rw [hx]; exact hD15 c
  rw [← hx]
  have lts := blk_lt hS
  go_enter Try.func95, Try.ntmps95
  obtain ⟨ι, F, hF, hin⟩ := class_of (fun W => blk W gl [.int .i64 (leaf : Int)] 3 ∧ blk W gd (cl .i64 D) 27 ∧ blk W gs (cl .u8 seed) 68 ∧ blk W w.heap.size (cl .u8 (zs 16)) 22 ∧ Below w.heap.size w W)
  have h0 := hin (w.alloc (.cells (cl .u8 (zs 16)).toArray 22)).drew ⟨blk_drew (blk_alloc hL _), blk_drew (blk_alloc hDB _), blk_drew (blk_alloc hS _), blk_drew (blk_new _ _ _), ((Below.refl _ _).alloc (Nat.le_refl _) _).drew⟩
  have hne : Nonempty ι := ⟨h0.choose⟩
  have q0 : ∀ i, (F i).cell? ⟨gl, 0, none⟩ = some (.int .i64 (leaf : Int)) := fun i => (blk_cell (hF i).1 0).trans rfl
  have q1 : ∀ i, (ldA 22 (.pointer (some ⟨gs, c * 16, none⟩))).run Try.prog (F i) = .ok (agg .u8 ((seed.drop (c * 16)).take 16)) (F i) := fun i => ld_at hs hc (hF i).2.2.1
  have q2 : ∀ i, bk (F i) w.heap.size = some (cl .u8 (zs 16)).toArray := fun i => bk_of (hF i).2.2.2.1
  have q3 : ∀ i, (F i).cell? ⟨gd, c, none⟩ = some (.int .i64 ((x : Nat) : Int)) := fun i => (blk_cell (hF i).2.1 c).trans (by rw [hx]; exact cl_get _ _ _ (by omega))
  have HF := Lib.hid hF
  have HI := Lib.hid hin
  have H0 := Lib.hid h0
  have l1 : ((seed.drop (c * 16)).take 16).length = 16 := by simp; omega
  have l2 := adv_length leaf c x (15 - x) ((seed.drop (c * 16)).take 16) l1
  have HX := Lib.hid hx
  clear hF hin h0 hL hS hDB hx
  go_wp2_with fail
  refine wp_region_tail F 9 (by kernel_rfl) (by kernel_rfl) H0.out ?_
  simp only [List.take_succ_cons, List.take_zero, List.drop_succ_cons, List.drop_zero]
  repeat (go_big_quiet_step (first
    | (go_at_call 68; exact quiet_below HF.out HI.out (fun _ _ h hb => ⟨blk_keep h.1 hb, blk_keep h.2.1 hb, blk_keep h.2.2.1 hb, blk_keep h.2.2.2.1 hb, bel_trans h.2.2.2.2 hb h.2.2.2.2.size⟩) (advance _ leaf c x (15 - x) ((seed.drop (c * 16)).take 16) l1 hleaf (by omega) (by omega) 15 (by omega)))))
  refine wpQuiet_nil ?_
  intro i
  go_wp2_with fail
  refine ret_b16 rfl rfl (blk_setRow (HF.out i).2.2.2.1 (cl .u8 (adv leaf c x (15 - x) ((seed.drop (c * 16)).take 16)))) l2 rfl ⟨rfl, bel_setRow (HF.out i).2.2.2.2 (Nat.le_refl _) _⟩
end Go.Proofs.Ytlgpipdeckdmjaa.One
/-
  onetime: the ends that a signature leads to.
-/
set_option linter.unusedVariables false
set_option linter.unusedSimpArgs false
namespace Go.Proofs.Ytlgpipdeckdmjaa.One
open Go.RowKit Base Reg Types Slice Sha
/-- Part c of a flat list of values. -/
def elt (s : List Nat) (c : Nat) : List Nat := (s.drop (c * 16)).take 16
def endF (s d : List Nat) (leaf c : Nat) : List Nat := if c < 35 then adv leaf c (spd d c) (15 - spd d c) (elt s c) else zs 16
theorem endF_length {s : List Nat} (hs : s.length = 560) (d : List Nat) (leaf c : Nat) : (endF s d leaf c).length = 16 := by
  unfold endF
  split
  · refine adv_length _ _ _ _ _ ?_
    unfold elt
    simp
    omega
  · rfl
theorem sp_le {d : List Nat} (h : By d) (j : Nat) : (sp d).getD j 0 ≤ 15 := by
  by_cases hj : j < 35
  · rw [sp_getD d j hj]; exact spd_le h j
  · rw [List.getD_eq_getElem?_getD, List.getElem?_eq_none (by rw [sp_length]; omega)]; decide
set_option maxRecDepth 20000 in
theorem ends (w : World) (s d : List Nat) (leaf : Nat) (hs : s.length = 560) (hd : d.length = 16) (bd : By d) (hleaf : leaf ≤ 65535) :
    Calls Try.prog 78 #[agg .u8 s, .int .i64 (leaf : Int), agg .u8 d] w fun e w' => e = .returned (agg .u8 (flat (endF s d leaf) 35)) ∧ Below w.heap.size w w' := by
  go_enter Try.func78, Try.ntmps78
  go_wp2_with fail
  obtain ⟨W0, hW0⟩ : ∃ W0, W0 = ((((w.alloc (.cells (cl .u8 s).toArray 68)).alloc (.cells #[.int .i64 (leaf : Int)] 3)).alloc (.cells (cl .u8 d).toArray 22)).alloc (.cells (cl .u8 (zs 560)).toArray 55)) := ⟨_, rfl⟩
  have b0 : blk W0 w.heap.size (cl .u8 s) 68 := by rw [hW0]; exact blk_alloc (blk_alloc (blk_alloc (blk_new _ _ _) _) _) _
  have b1 : blk W0 (w.heap.size + 1) [.int .i64 (leaf : Int)] 3 := by rw [hW0]; exact blk_alloc (blk_alloc (blk_at _ [.int .i64 (leaf : Int)] _ (by simp only [alloc_size])) _) _
  have b3 : blk W0 (w.heap.size + 1 + 1 + 1) (cl .u8 (zs 560)) 55 := by rw [hW0]; exact blk_at _ _ _ (by simp only [alloc_size])
  have bl : Below w.heap.size w W0 := by rw [hW0]; exact ((((Below.refl w.heap.size w).alloc (Nat.le_refl _) _).alloc (by simp only [alloc_size]; omega) _).alloc (by simp only [alloc_size]; omega) _).alloc (by simp only [alloc_size]; omega) _
  rw [← hW0]
  clear hW0
  refine (split W0 d hd bd).mono ?_
  rintro e w1 ⟨rfl, hb1⟩
  have A0 := Lib.hid (blk_alloc (blk_keep b0 hb1) (.cells (cl .i64 (sp d)).toArray 27))
  have A1 := Lib.hid (blk_alloc (blk_keep b1 hb1) (.cells (cl .i64 (sp d)).toArray 27))
  have A3 := Lib.hid (blk_alloc (blk_keep b3 hb1) (.cells (cl .i64 (sp d)).toArray 27))
  have AD := Lib.hid (blk_new w1 (cl .i64 (sp d)) 27)
  have AL := Lib.hid ((bel_trans bl hb1 bl.size).alloc (by have := bel_trans bl hb1 bl.size; exact this.size) (.cells (cl .i64 (sp d)).toArray 27))
  have ld := sp_length d
  clear hb1 b0 b1 b3 bl
  go_wp2_with fail
  refine (each_ends _ (endF s d leaf) _ _ _ (endF_length hs d leaf) (fun c hc W hb => by
    have h := ends_of W s (sp d) leaf c (w.heap.size + 1) w1.heap.size w.heap.size ld (sp_le bd) hs hleaf hc (blk_keep A1.out hb) (blk_keep AD.out hb) (blk_keep A0.out hb)
    rw [sp_getD d c hc] at h
    have e : endF s d leaf c = adv leaf c (spd d c) (15 - spd d c) ((s.drop (c * 16)).take 16) := by rw [endF, if_pos hc, elt]
    rw [e]
    exact h)).mono ?_
  rintro e w2 ⟨rfl, hb2⟩
  have B3 := blk_keep A3.out hb2
  have k3 := bk_of B3
  have BL := bel_trans AL.out hb2 AL.out.size
  have lf := flat_length (endF_length hs d leaf) 35
  clear hb2
  go_wp2_with fail
  refine ret_bs rfl rfl (blk_setRow B3 (cl .u8 (flat (endF s d leaf) 35))) lf rfl ⟨rfl, bel_setRow BL (by omega) _⟩
end Go.Proofs.Ytlgpipdeckdmjaa.One
/-
  onetime: Recover, Compress.
-/
set_option linter.unusedVariables false
set_option linter.unusedSimpArgs false
namespace Go.Proofs.Ytlgpipdeckdmjaa.One
open Go.RowKit Base Reg Types Slice Sha
set_option maxRecDepth 20000 in
theorem Recover_in (w : World) (leaf : Nat) (d s : List Nat) (hs : s.length = 560) (hd : d.length = 16) (bd : By d) (hleaf : leaf ≤ 65535) :
    Calls Try.prog 33 #[.int .i64 (leaf : Int), agg .u8 d, agg .u8 s] w fun e w' => e = .returned (.tuple #[agg .u8 (cmp leaf (flat (endF s d leaf) 35)), .int .i64 0]) ∧ Below w.heap.size w w' := by
  have i1 : decide ((0 : Int) ≤ (leaf : Int) ∧ (leaf : Int) ≤ 65535) = true := by simp; omega
  have I1 := Lib.hid i1
  clear i1
  go_enter Try.func33, Try.ntmps33
  go_wp2_with fail
  refine (within leaf 65535 _).mono ?_
  rintro e w0 ⟨rfl, rfl⟩
  rw [I1.out]
  go_wp2_with fail
  obtain ⟨W0, hW0⟩ : ∃ W0, W0 = (((w.alloc (.cells (cl .u8 d).toArray 22)).alloc (.cells (cl .u8 s).toArray 68)).alloc (.cells (cl .u8 (zs 16)).toArray 22)) := ⟨_, rfl⟩
  have b2 : blk W0 (w.heap.size + 1 + 1) (cl .u8 (zs 16)) 22 := by rw [hW0]; exact blk_at _ _ _ (by simp only [alloc_size])
  have bl : Below w.heap.size w W0 := by rw [hW0]; exact (((Below.refl w.heap.size w).alloc (Nat.le_refl _) _).alloc (by simp only [alloc_size]; omega) _).alloc (by simp only [alloc_size]; omega) _
  rw [← hW0]
  clear hW0
  refine (ends W0 s d leaf hs hd bd hleaf).mono ?_
  rintro e w1 ⟨rfl, hb1⟩
  have B1 := Lib.hid (blk_keep b2 hb1)
  have L1 := Lib.hid (bel_trans bl hb1 bl.size)
  have lf := flat_length (endF_length hs d leaf) 35
  clear hb1 b2 bl
  go_wp2_with fail
  refine (compress w1 leaf (flat (endF s d leaf) 35) lf hleaf).mono ?_
  rintro e w2 ⟨rfl, hb2⟩
  have B2 := blk_keep B1.out hb2
  have k2 := bk_of B2
  have L2 := bel_trans L1.out hb2 L1.out.size
  have lc := cmp_length leaf (flat (endF s d leaf) 35)
  clear hb2
  go_wp2_with fail
  refine ret2_b16 rfl rfl rfl (blk_setRow B2 (cl .u8 (cmp leaf (flat (endF s d leaf) 35)))) lc rfl ⟨rfl, bel_setRow L2 (by omega) _⟩
theorem Recover_out (w : World) (leaf : Int) (d s : List Nat) (hs : s.length = 560) (hd : d.length = 16) (ho : ¬ (0 ≤ leaf ∧ leaf ≤ 65535)) :
    Calls Try.prog 33 #[.int .i64 leaf, agg .u8 d, agg .u8 s] w fun e w' => e = .returned (.tuple #[agg .u8 (zs 16), .int .i64 2]) ∧ Below w.heap.size w w' := by
  go_enter Try.func33, Try.ntmps33
  go_wp2_with fail
  refine (within leaf 65535 _).mono ?_
  rintro e w0 ⟨rfl, rfl⟩
  rw [decide_eq_false ho]
  clear ho
  go_wp2_with fail
  refine ret2_b16 rfl rfl rfl (blk_at _ (cl .u8 (zs 16)) 22 (by simp only [alloc_size])) rfl rfl ⟨rfl, (((Below.refl w.heap.size w).alloc (Nat.le_refl _) _).alloc (by simp only [alloc_size]; omega) _).alloc (by simp only [alloc_size]; omega) _⟩
theorem Compress_in (w : World) (leaf : Nat) (s : List Nat) (hs : s.length = 560) (hleaf : leaf ≤ 65535) :
    Calls Try.prog 39 #[.int .i64 (leaf : Int), agg .u8 s] w fun e w' => e = .returned (.tuple #[agg .u8 (cmp leaf s), .int .i64 0]) ∧ Below w.heap.size w w' := by
  have i1 : decide ((0 : Int) ≤ (leaf : Int) ∧ (leaf : Int) ≤ 65535) = true := by simp; omega
  have I1 := Lib.hid i1
  clear i1
  go_enter Try.func39, Try.ntmps39
  go_wp2_with fail
  refine (within leaf 65535 _).mono ?_
  rintro e w0 ⟨rfl, rfl⟩
  rw [I1.out]
  go_wp2_with fail
  refine (compress _ leaf s hs hleaf).mono ?_
  rintro e w2 ⟨rfl, hb2⟩
  have B2 := blk_keep (blk_at (w.alloc (.cells (cl .u8 s).toArray 55)) (cl .u8 (zs 16)) 22 (b := w.heap.size + 1) (by simp only [alloc_size])) hb2
  have k2 := bk_of B2
  have L2 := bel_trans (((Below.refl w.heap.size w).alloc (Nat.le_refl _) (.cells (cl .u8 s).toArray 55)).alloc (by simp only [alloc_size]; omega) (.cells (cl .u8 (zs 16)).toArray 22)) hb2 (by simp only [alloc_size]; omega)
  have lc := cmp_length leaf s
  clear hb2
  go_wp2_with fail
  refine ret2_b16 rfl rfl rfl (blk_setRow B2 (cl .u8 (cmp leaf s))) lc rfl ⟨rfl, bel_setRow L2 (by omega) _⟩
theorem Compress_out (w : World) (leaf : Int) (s : List Nat) (hs : s.length = 560) (ho : ¬ (0 ≤ leaf ∧ leaf ≤ 65535)) :
    Calls Try.prog 39 #[.int .i64 leaf, agg .u8 s] w fun e w' => e = .returned (.tuple #[agg .u8 (zs 16), .int .i64 2]) ∧ Below w.heap.size w w' := by
  go_enter Try.func39, Try.ntmps39
  go_wp2_with fail
  refine (within leaf 65535 _).mono ?_
  rintro e w0 ⟨rfl, rfl⟩
  rw [decide_eq_false ho]
  clear ho
  go_wp2_with fail
  refine ret2_b16 rfl rfl rfl (blk_at _ (cl .u8 (zs 16)) 22 (by simp only [alloc_size])) rfl rfl ⟨rfl, ((Below.refl w.heap.size w).alloc (Nat.le_refl _) _).alloc (by simp only [alloc_size]; omega) _⟩
end Go.Proofs.Ytlgpipdeckdmjaa.One
/-
  onetime: Sign, Public, Verify.
-/
set_option linter.unusedVariables false
set_option linter.unusedSimpArgs false
namespace Go.Proofs.Ytlgpipdeckdmjaa.One
open Go.RowKit Base Reg Types Slice Sha
def sgnF (seed d : List Nat) (leaf c : Nat) : List Nat := adv leaf c 0 (spd d c) (sec seed leaf c)
theorem sgnF_length (seed d : List Nat) (leaf c : Nat) : (sgnF seed d leaf c).length = 16 := adv_length _ _ _ _ _ (sec_length _ _ _)
def pubF (seed : List Nat) (leaf c : Nat) : List Nat := adv leaf c 0 15 (sec seed leaf c)
theorem pubF_length (seed : List Nat) (leaf c : Nat) : (pubF seed leaf c).length = 16 := adv_length _ _ _ _ _ (sec_length _ _ _)
set_option maxRecDepth 20000 in
theorem Sign_in (w : World) (seed d : List Nat) (leaf : Nat) (hs : seed.length = 32) (hd : d.length = 16) (bd : By d) (hleaf : leaf ≤ 65535) :
    Calls Try.prog 42 #[agg .u8 seed, .int .i64 (leaf : Int), agg .u8 d] w fun e w' => e = .returned (.tuple #[agg .u8 (flat (sgnF seed d leaf) 35), .int .i64 0]) ∧ Below w.heap.size w w' := by
  have i1 : decide ((0 : Int) ≤ (leaf : Int) ∧ (leaf : Int) ≤ 65535) = true := by simp; omega
  have I1 := Lib.hid i1
  clear i1
  go_enter Try.func42, Try.ntmps42
  go_wp2_with fail
  refine (within leaf 65535 _).mono ?_
  rintro e w0 ⟨rfl, rfl⟩
  rw [I1.out]
  go_wp2_with fail
  obtain ⟨W0, hW0⟩ : ∃ W0, W0 = ((((w.alloc (.cells (cl .u8 seed).toArray 31)).alloc (.cells #[.int .i64 (leaf : Int)] 3)).alloc (.cells (cl .u8 d).toArray 22)).alloc (.cells (cl .u8 (zs 560)).toArray 68)) := ⟨_, rfl⟩
  have b0 : blk W0 w.heap.size (cl .u8 seed) 31 := by rw [hW0]; exact blk_alloc (blk_alloc (blk_alloc (blk_new _ _ _) _) _) _
  have b1 : blk W0 (w.heap.size + 1) [.int .i64 (leaf : Int)] 3 := by rw [hW0]; exact blk_alloc (blk_alloc (blk_at _ [.int .i64 (leaf : Int)] _ (by simp only [alloc_size])) _) _
  have b3 : blk W0 (w.heap.size + 1 + 1 + 1) (cl .u8 (zs 560)) 68 := by rw [hW0]; exact blk_at _ _ _ (by simp only [alloc_size])
  have bl : Below w.heap.size w W0 := by rw [hW0]; exact ((((Below.refl w.heap.size w).alloc (Nat.le_refl _) _).alloc (by simp only [alloc_size]; omega) _).alloc (by simp only [alloc_size]; omega) _).alloc (by simp only [alloc_size]; omega) _
  rw [← hW0]
  clear hW0
  refine (split W0 d hd bd).mono ?_
  rintro e w1 ⟨rfl, hb1⟩
  have A0 := Lib.hid (blk_alloc (blk_keep b0 hb1) (.cells (cl .i64 (sp d)).toArray 27))
  have A1 := Lib.hid (blk_alloc (blk_keep b1 hb1) (.cells (cl .i64 (sp d)).toArray 27))
  have A3 := Lib.hid (blk_alloc (blk_keep b3 hb1) (.cells (cl .i64 (sp d)).toArray 27))
  have AD := Lib.hid (blk_new w1 (cl .i64 (sp d)) 27)
  have AL := Lib.hid ((bel_trans bl hb1 bl.size).alloc (by have := bel_trans bl hb1 bl.size; exact this.size) (.cells (cl .i64 (sp d)).toArray 27))
  have ld := sp_length d
  clear hb1 b0 b1 b3 bl
  go_wp2_with fail
  refine (each_sign _ (sgnF seed d leaf) _ _ _ (sgnF_length seed d leaf) (fun c hc W hb => by
    have h := sign_of W seed (sp d) leaf c (w.heap.size + 1) w1.heap.size w.heap.size ld (sp_le bd) hs hleaf hc (blk_keep A1.out hb) (blk_keep AD.out hb) (blk_keep A0.out hb)
    rw [sp_getD d c hc] at h
    exact h)).mono ?_
  rintro e w2 ⟨rfl, hb2⟩
  have B3 := blk_keep A3.out hb2
  have k3 := bk_of B3
  have BL := bel_trans AL.out hb2 AL.out.size
  have lf := flat_length (sgnF_length seed d leaf) 35
  clear hb2
  go_wp2_with fail
  refine ret2_sig rfl rfl rfl (blk_setRow B3 (cl .u8 (flat (sgnF seed d leaf) 35))) lf rfl ⟨rfl, bel_setRow BL (by omega) _⟩
set_option maxRecDepth 100000 in
theorem Sign_out (w : World) (seed d : List Nat) (leaf : Int) (hs : seed.length = 32) (hd : d.length = 16) (ho : ¬ (0 ≤ leaf ∧ leaf ≤ 65535)) :
    Calls Try.prog 42 #[agg .u8 seed, .int .i64 leaf, agg .u8 d] w fun e w' => e = .returned (.tuple #[agg .u8 (zs 560), .int .i64 2]) ∧ Below w.heap.size w w' := by
  have hz : Try.zeroCells68 = (cl .u8 (zs 560)).toArray := by kernel_rfl
  go_enter Try.func42, Try.ntmps42
  go_wp2_with fail
  refine (within leaf 65535 _).mono ?_
  rintro e w0 ⟨rfl, rfl⟩
  rw [decide_eq_false ho]
  clear ho
  go_wp2_with fail
  refine ret2_sig rfl rfl rfl (blk_at _ (cl .u8 (zs 560)) 68 (by simp only [alloc_size])) rfl rfl ⟨rfl, ((((Below.refl w.heap.size w).alloc (Nat.le_refl _) _).alloc (by simp only [alloc_size]; omega) _).alloc (by simp only [alloc_size]; omega) _).alloc (by simp only [alloc_size]; omega) _⟩
set_option maxRecDepth 20000 in
theorem Public_in (w : World) (seed : List Nat) (leaf : Nat) (hs : seed.length = 32) (hleaf : leaf ≤ 65535) :
    Calls Try.prog 38 #[agg .u8 seed, .int .i64 (leaf : Int)] w fun e w' => e = .returned (.tuple #[agg .u8 (cmp leaf (flat (pubF seed leaf) 35)), .int .i64 0]) ∧ Below w.heap.size w w' := by
  have i1 : decide ((0 : Int) ≤ (leaf : Int) ∧ (leaf : Int) ≤ 65535) = true := by simp; omega
  have I1 := Lib.hid i1
  clear i1
  go_enter Try.func38, Try.ntmps38
  go_wp2_with fail
  refine (within leaf 65535 _).mono ?_
  rintro e w0 ⟨rfl, rfl⟩
  rw [I1.out]
  go_wp2_with fail
  obtain ⟨W0, hW0⟩ : ∃ W0, W0 = (((w.alloc (.cells (cl .u8 seed).toArray 31)).alloc (.cells #[.int .i64 (leaf : Int)] 3)).alloc (.cells (cl .u8 (zs 16)).toArray 22)) := ⟨_, rfl⟩
  have b0 : blk W0 w.heap.size (cl .u8 seed) 31 := by rw [hW0]; exact blk_alloc (blk_alloc (blk_new _ _ _) _) _
  have b1 : blk W0 (w.heap.size + 1) [.int .i64 (leaf : Int)] 3 := by rw [hW0]; exact blk_alloc (blk_at _ [.int .i64 (leaf : Int)] _ (by simp only [alloc_size])) _
  have b2 : blk W0 (w.heap.size + 1 + 1) (cl .u8 (zs 16)) 22 := by rw [hW0]; exact blk_at _ _ _ (by simp only [alloc_size])
  have bl : Below w.heap.size w W0 := by rw [hW0]; exact (((Below.refl w.heap.size w).alloc (Nat.le_refl _) _).alloc (by simp only [alloc_size]; omega) _).alloc (by simp only [alloc_size]; omega) _
  rw [← hW0]
  clear hW0
  obtain ⟨ι, F, hF, hin⟩ := class_of (fun W => blk W w.heap.size (cl .u8 seed) 31 ∧ blk W (w.heap.size + 1) [.int .i64 (leaf : Int)] 3 ∧ blk W (w.heap.size + 1 + 1) (cl .u8 (zs 16)) 22 ∧ Below w.heap.size w W)
  have h0 := hin W0.drew ⟨blk_drew b0, blk_drew b1, blk_drew b2, bl.drew⟩
  have hne : Nonempty ι := ⟨h0.choose⟩
  have q0 : ∀ i, (F i).cell? ⟨w.heap.size + 1, 0, none⟩ = some (.int .i64 (leaf : Int)) := fun i => (blk_cell (hF i).2.1 0).trans rfl
  have q2 : ∀ i, bk (F i) (w.heap.size + 1 + 1) = some (cl .u8 (zs 16)).toArray := fun i => bk_of (hF i).2.2.1
  have HF := Lib.hid hF
  have HI := Lib.hid hin
  have H0 := Lib.hid h0
  have lf := flat_length (pubF_length seed leaf) 35
  have lc := cmp_length leaf (flat (pubF seed leaf) 35)
  clear hF hin h0 b0 b1 b2 bl
  refine wp_region_tail F 4 (by kernel_rfl) (by kernel_rfl) H0.out ?_
  simp only [List.take_succ_cons, List.take_zero, List.drop_succ_cons, List.drop_zero]
  repeat (go_big_quiet_step (first
    | (go_at_call 79; exact quiet_below HF.out HI.out (fun _ _ h hb => ⟨blk_keep h.1 hb, blk_keep h.2.1 hb, blk_keep h.2.2.1 hb, bel_trans h.2.2.2 hb h.2.2.2.size⟩) (each_public _ (pubF seed leaf) _ _ (pubF_length seed leaf) (fun c hc W hb => public_of W seed leaf c _ _ hs hleaf hc (blk_keep (HF.out _).2.1 hb) (blk_keep (HF.out _).1 hb))))
    | (go_at_call 77; exact quiet_below HF.out HI.out (fun _ _ h hb => ⟨blk_keep h.1 hb, blk_keep h.2.1 hb, blk_keep h.2.2.1 hb, bel_trans h.2.2.2 hb h.2.2.2.size⟩) (compress _ leaf (flat (pubF seed leaf) 35) lf hleaf))))
  refine wpQuiet_nil ?_
  intro i
  go_wp2_with fail
  refine ret2_b16 rfl rfl rfl (blk_setRow (HF.out i).2.2.1 (cl .u8 (cmp leaf (flat (pubF seed leaf) 35)))) lc rfl ⟨rfl, bel_setRow (HF.out i).2.2.2 (by omega) _⟩
end Go.Proofs.Ytlgpipdeckdmjaa.One
