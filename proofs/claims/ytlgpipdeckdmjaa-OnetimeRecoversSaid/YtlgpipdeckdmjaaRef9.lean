/-
  The reference of layer 7: Values, Last.
-/
import Derived.Test.YtlgpipdeckdmjaaRef8
set_option linter.unusedVariables false
set_option linter.unusedSimpArgs false
namespace Go.Proofs.Ytlgpipdeckdmjaa.Ref
open Go.RowKit Base Reg Types Slice Sha Law
open Go.Proofs.Ytlgpipdeckdmjaa.One
theorem flat_elt (s : List Nat) (hs : s.length = 560) : ∀ k, k ≤ 35 → flat (elt s) k = s.take (16 * k)
  | 0, _ => rfl
  | k + 1, hk => by rw [flat_succ, flat_elt s hs k (by omega), elt, take_more]
/-- A value of the reference is written into its place. -/
theorem st_rv_at {w : World} {b k : Nat} {F : Nat → List Nat} {t : TypeId} (h : ∀ c, (F c).length = 16) (hk : k < 35) (hB : blk w b (cl .u8 (fl F k)) t) :
    (stA 36 (.pointer (some ⟨b, k * 16, none⟩)) (agg .u8 (F k))).run Try.prog w = .ok () (w.setRow b (cl .u8 (fl F (k + 1))).toArray) := by
  rw [Nat.mul_comm]
  have h1 := run_storeAt_part (P := Try.prog) (ty := 36) (vs := cl .u8 (F k)) hB (16 * k) (by rw [cl_length, h]; kernel_rfl) (by rw [cl_length, cl_length, h, fl_length h (by omega)]; omega) (cl_one _ _)
  rw [fl_splice h hk] at h1
  exact h1
def valF (seed D : List Nat) (leaf c : Nat) : List Nat := adv leaf c 0 (D.getD c 0) (sec seed leaf c)
theorem valF_length (seed D : List Nat) (leaf c : Nat) : (valF seed D leaf c).length = 16 := adv_length _ _ _ _ _ (sec_length _ _ _)
set_option maxRecDepth 20000 in
set_option maxHeartbeats 4000000 in
theorem values (w : World) (seed D : List Nat) (leaf : Nat) (hs : seed.length = 32) (hD : D.length = 35) (hD15 : ∀ j, D.getD j 0 ≤ 15) (hleaf : leaf ≤ 65535) :
    Calls Try.prog 40 #[agg .u8 seed, .int .i64 (leaf : Int), agg .i64 D] w fun e w' => e = .returned (agg .u8 (flat (valF seed D leaf) 35)) ∧ Below w.heap.size w w' := by
  have HL := Lib.hid (valF_length seed D leaf)
  go_enter Try.func40, Try.ntmps40
  go_wp2_with fail
  go_loopw [8] (fun i wr => ∃ k : Nat, k ≤ 35 ∧ i = .int .i64 k ∧ blk wr w.heap.size (cl .u8 seed) 31 ∧ blk wr (w.heap.size + 1) (cl .i64 D) 27 ∧ blk wr (w.heap.size + 1 + 1) (cl .u8 (zs 560)) 72 ∧ blk wr (w.heap.size + 1 + 1 + 1) (cl .u8 (fl (valF seed D leaf) k)) 72 ∧ Below w.heap.size w wr) (fun i _ => 35 - (intOf i).toNat)
  case atStart => exact ⟨0, by omega, rfl, blk_alloc (blk_alloc (blk_alloc (blk_new _ _ _) _) _) _, blk_alloc (blk_alloc (blk_at _ _ _ (by simp only [alloc_size])) _) _, blk_alloc (blk_at _ _ _ (by simp only [alloc_size])) _, by rw [fl_zero]; exact blk_at _ _ _ (by simp only [alloc_size]), ((((Below.refl _ _).alloc (Nat.le_refl _) _).alloc (by simp only [alloc_size]; omega) _).alloc (by simp only [alloc_size]; omega) _).alloc (by simp only [alloc_size]; omega) _⟩
  case round =>
    obtain ⟨k, hk, rfl, hb0, hb1, hb2, hb3, hbel⟩ := hrel
    by_cases hk2 : k < 35
    · obtain ⟨x, hx⟩ : ∃ x, x = D.getD k 0 := ⟨_, rfl⟩
      have hx15 : x ≤ 15 := by rw [hx]; exact hD15 k
      obtain ⟨ι, F, hF, hin⟩ := class_of (fun W => blk W w.heap.size (cl .u8 seed) 31 ∧ blk W (w.heap.size + 1) (cl .i64 D) 27 ∧ blk W (w.heap.size + 1 + 1) (cl .u8 (zs 560)) 72 ∧ blk W (w.heap.size + 1 + 1 + 1) (cl .u8 (fl (valF seed D leaf) k)) 72 ∧ Below w.heap.size w W)
      have h0 := hin wr.drew ⟨blk_drew hb0, blk_drew hb1, blk_drew hb2, blk_drew hb3, hbel.drew⟩
      have hne : Nonempty ι := ⟨h0.choose⟩
      have q0 : ∀ i, bk (F i) w.heap.size = some (cl .u8 seed).toArray := fun i => bk_of (hF i).1
      have q1 : ∀ i, (F i).cell? ⟨w.heap.size + 1, k, none⟩ = some (.int .i64 ((x : Nat) : Int)) := fun i => (blk_cell (hF i).2.1 k).trans (by rw [hx]; exact cl_get _ _ _ (by omega))
      have q3 : ∀ i, (stA 36 (.pointer (some ⟨w.heap.size + 1 + 1 + 1, k * 16, none⟩)) (agg .u8 (valF seed D leaf k))).run Try.prog (F i) = .ok () ((F i).setRow (w.heap.size + 1 + 1 + 1) (cl .u8 (fl (valF seed D leaf) (k + 1))).toArray) := fun i => st_rv_at HL.out hk2 (hF i).2.2.2.1
      rw [show valF seed D leaf k = adv leaf k 0 x (sec seed leaf k) by rw [hx]; rfl] at q3
      have HF := Lib.hid hF
      have HI := Lib.hid hin
      have H0 := Lib.hid h0
      have l1 := sec_length seed leaf k
      have HX := Lib.hid hx
      clear hF hin h0 hb0 hb1 hb2 hb3 hbel hx
      go_wp2_with fail
      refine wp_region_tail F 12 (by kernel_rfl) (by kernel_rfl) H0.out ?_
      simp only [List.take_succ_cons, List.take_zero, List.drop_succ_cons, List.drop_zero]
      repeat (go_big_quiet_step (first
        | (go_at_call 21; exact quiet_below HF.out HI.out (fun _ _ h hb => ⟨blk_keep h.1 hb, blk_keep h.2.1 hb, blk_keep h.2.2.1 hb, blk_keep h.2.2.2.1 hb, bel_trans h.2.2.2.2 hb h.2.2.2.2.size⟩) (Ref.secret _ seed leaf k hs hleaf (by omega)))
        | (go_at_call 25; exact quiet_below HF.out HI.out (fun _ _ h hb => ⟨blk_keep h.1 hb, blk_keep h.2.1 hb, blk_keep h.2.2.1 hb, blk_keep h.2.2.2.1 hb, bel_trans h.2.2.2.2 hb h.2.2.2.2.size⟩) (Ref.advance _ leaf k 0 x (sec seed leaf k) l1 hleaf (by omega) (by omega) x (by rw [Nat.zero_add])))))
      refine wpQuiet_nil ?_
      intro i
      go_wp2_with fail
      exact ⟨⟨k + 1, by omega, by go_num, blk_setRow_ne (HF.out i).1 _ (by omega), blk_setRow_ne (HF.out i).2.1 _ (by omega), blk_setRow_ne (HF.out i).2.2.1 _ (by omega), blk_setRow (HF.out i).2.2.2.1 (cl .u8 (fl (valF seed D leaf) (k + 1))), bel_setRow (HF.out i).2.2.2.2 (by omega) _⟩, by simp [intOf]; omega⟩
    · obtain rfl : k = 35 := by omega
      rw [fl_full] at hb3
      have hl := flat_length HL.out 35
      have k2 := bk_of hb2
      have k3 := bk_of hb3
      have HB := Lib.hid hb2
      clear hb0 hb1 hb2 hb3
      go_wp2_with fail
      refine ret_rvs rfl rfl (blk_setRow HB.out (cl .u8 (flat (valF seed D leaf) 35))) hl rfl ⟨rfl, bel_setRow hbel (by omega) _⟩
/-- The first k values are advanced to the end. -/
def lst (s d : List Nat) (leaf k : Nat) : List Nat := flat (endF s d leaf) k ++ s.drop (16 * k)
theorem lst_length {s : List Nat} (hs : s.length = 560) (d : List Nat) (leaf : Nat) {k : Nat} (hk : k ≤ 35) : (lst s d leaf k).length = 560 := by
  rw [lst, List.length_append, flat_length (endF_length hs d leaf), List.length_drop]
  omega
theorem lst_elt {s : List Nat} (hs : s.length = 560) (d : List Nat) (leaf : Nat) {k : Nat} (hk : k < 35) : ((lst s d leaf k).drop (k * 16)).take 16 = elt s k := by
  have h := flat_length (endF_length hs d leaf) k
  rw [lst, List.drop_append, h, List.drop_eq_nil_of_le (by omega), List.nil_append, show k * 16 - 16 * k = 0 by omega, List.drop_zero, Nat.mul_comm]
  rw [elt, Nat.mul_comm]
theorem lst_splice {s : List Nat} (hs : s.length = 560) (d : List Nat) (leaf : Nat) {k : Nat} (hk : k < 35) : splice (cl .u8 (lst s d leaf k)) (16 * k) (cl .u8 (endF s d leaf k)) = cl .u8 (lst s d leaf (k + 1)) := by
  unfold splice
  have h := flat_length (endF_length hs d leaf) k
  rw [cl_length, endF_length hs, cl_take, cl_drop, cl_append, cl_append]
  congr 1
  have e1 : (lst s d leaf k).take (16 * k) = flat (endF s d leaf) k := by rw [lst, List.take_left' h]
  have e2 : (lst s d leaf k).drop (16 * k + 16) = s.drop (16 * (k + 1)) := by
    rw [lst, List.drop_append, h, List.drop_eq_nil_of_le (by omega), List.nil_append, List.drop_drop]
    congr 1
    omega
  rw [e1, e2, lst, flat_succ]
theorem st_lst_at {w : World} {b k leaf : Nat} {s d : List Nat} {t : TypeId} (hs : s.length = 560) (hk : k < 35) (hB : blk w b (cl .u8 (lst s d leaf k)) t) :
    (stA 36 (.pointer (some ⟨b, k * 16, none⟩)) (agg .u8 (endF s d leaf k))).run Try.prog w = .ok () (w.setRow b (cl .u8 (lst s d leaf (k + 1))).toArray) := by
  rw [Nat.mul_comm]
  have h1 := run_storeAt_part (P := Try.prog) (ty := 36) (vs := cl .u8 (endF s d leaf k)) hB (16 * k) (by rw [cl_length, endF_length hs]; kernel_rfl) (by rw [cl_length, cl_length, endF_length hs, lst_length hs d leaf (by omega)]; omega) (cl_one _ _)
  rw [lst_splice hs d leaf hk] at h1
  exact h1
theorem ld_rv_at {W : World} {gs c : Nat} {s : List Nat} {t : TypeId} (hs : s.length = 560) (hc : c < 35) (h : blk W gs (cl .u8 s) t) : (ldA 36 (.pointer (some ⟨gs, c * 16, none⟩))).run Try.prog W = .ok (agg .u8 ((s.drop (c * 16)).take 16)) W := by
  have h1 := run_loadAt_part (P := Try.prog) (ty := 36) h (c * 16) 16 (d := (Try.prog.underlying 36).get (by kernel_rfl)) (by kernel_rfl) (by kernel_rfl) (by kernel_rfl) (by rw [cl_length, hs]; omega)
  rw [cl_drop, cl_take] at h1
  exact h1
set_option maxRecDepth 20000 in
set_option maxHeartbeats 4000000 in
theorem last (w : World) (s d : List Nat) (leaf : Nat) (hs : s.length = 560) (hd : d.length = 16) (bd : By d) (hleaf : leaf ≤ 65535) :
    Calls Try.prog 36 #[.int .i64 (leaf : Int), agg .u8 d, agg .u8 s] w fun e w' => e = .returned (agg .u8 (flat (endF s d leaf) 35)) ∧ Below w.heap.size w w' := by
  go_enter Try.func36, Try.ntmps36
  go_wp2_with fail
  obtain ⟨W0, hW0⟩ : ∃ W0, W0 = (((w.alloc (.cells (cl .u8 d).toArray 22)).alloc (.cells (cl .u8 s).toArray 72)).alloc (.cells (cl .u8 (zs 560)).toArray 72)) := ⟨_, rfl⟩
  have b1 : blk W0 (w.heap.size + 1) (cl .u8 s) 72 := by rw [hW0]; exact blk_alloc (blk_at _ _ _ (by simp only [alloc_size])) _
  have b2 : blk W0 (w.heap.size + 1 + 1) (cl .u8 (zs 560)) 72 := by rw [hW0]; exact blk_at _ _ _ (by simp only [alloc_size])
  have bl : Below w.heap.size w W0 := by rw [hW0]; exact (((Below.refl w.heap.size w).alloc (Nat.le_refl _) _).alloc (by simp only [alloc_size]; omega) _).alloc (by simp only [alloc_size]; omega) _
  rw [← hW0]
  clear hW0
  refine (Ref.split W0 d hd bd).mono ?_
  rintro e w1 ⟨rfl, hw1⟩
  have B1 := blk_alloc (blk_keep b1 hw1) (.cells (cl .i64 (sp d)).toArray 27)
  have B2 := blk_alloc (blk_keep b2 hw1) (.cells (cl .i64 (sp d)).toArray 27)
  have B3 := blk_new w1 (cl .i64 (sp d)) 27
  have BL := (bel_trans bl hw1 bl.size).alloc (by have := bel_trans bl hw1 bl.size; exact this.size) (.cells (cl .i64 (sp d)).toArray 27)
  have lt1 : w.heap.size + 1 + 1 < w1.heap.size := blk_lt (blk_keep b2 hw1)
  have ls := sp_length d
  have S0 := Lib.hid (And.intro B1 (And.intro B2 (And.intro B3 BL)))
  clear b1 b2 bl hw1 B1 B2 B3 BL
  go_wp2_with fail
  go_loopw [8] (fun i wr => ∃ k : Nat, k ≤ 35 ∧ i = .int .i64 k ∧ blk wr (w.heap.size + 1) (cl .u8 (lst s d leaf k)) 72 ∧ blk wr (w.heap.size + 1 + 1) (cl .u8 (zs 560)) 72 ∧ blk wr w1.heap.size (cl .i64 (sp d)) 27 ∧ Below w.heap.size w wr) (fun i _ => 35 - (intOf i).toNat)
  case atStart => exact ⟨0, by omega, rfl, S0.out⟩
  case round =>
    clear S0
    obtain ⟨k, hk, rfl, hb1, hb2, hb3, hbel⟩ := hrel
    by_cases hk2 : k < 35
    · obtain ⟨x, hx⟩ : ∃ x, x = spd d k := ⟨_, rfl⟩
      have hx15 : x ≤ 15 := by rw [hx]; exact spd_le bd k
      obtain ⟨ι, F, hF, hin⟩ := class_of (fun W => blk W (w.heap.size + 1) (cl .u8 (lst s d leaf k)) 72 ∧ blk W (w.heap.size + 1 + 1) (cl .u8 (zs 560)) 72 ∧ blk W w1.heap.size (cl .i64 (sp d)) 27 ∧ Below w.heap.size w W)
      have h0 := hin wr.drew ⟨blk_drew hb1, blk_drew hb2, blk_drew hb3, hbel.drew⟩
      have hne : Nonempty ι := ⟨h0.choose⟩
      have q0 : ∀ i, (ldA 36 (.pointer (some ⟨w.heap.size + 1, k * 16, none⟩))).run Try.prog (F i) = .ok (agg .u8 (elt s k)) (F i) := fun i => by
        have h := ld_rv_at (lst_length hs d leaf (by omega)) hk2 (hF i).1
        rw [lst_elt hs d leaf hk2] at h
        exact h
      have q1 : ∀ i, (F i).cell? ⟨w1.heap.size, k, none⟩ = some (.int .i64 ((x : Nat) : Int)) := fun i => (blk_cell (hF i).2.2.1 k).trans (by rw [hx, cl_get _ _ _ (by omega), sp_getD d k hk2])
      have q3 : ∀ i, (stA 36 (.pointer (some ⟨w.heap.size + 1, k * 16, none⟩)) (agg .u8 (endF s d leaf k))).run Try.prog (F i) = .ok () ((F i).setRow (w.heap.size + 1) (cl .u8 (lst s d leaf (k + 1))).toArray) := fun i => st_lst_at hs hk2 (hF i).1
      rw [show endF s d leaf k = adv leaf k x (15 - x) (elt s k) by rw [endF, if_pos hk2, hx]] at q3
      have l1 : (elt s k).length = 16 := by unfold elt; simp; omega
      have HF := Lib.hid hF
      have HI := Lib.hid hin
      have H0 := Lib.hid h0
      have HX := Lib.hid hx
      clear hF hin h0 hb1 hb2 hb3 hbel hx
      go_wp2_with fail
      refine wp_region_tail F 11 (by kernel_rfl) (by kernel_rfl) H0.out ?_
      simp only [List.take_succ_cons, List.take_zero, List.drop_succ_cons, List.drop_zero]
      repeat (go_big_quiet_step (first
        | (go_at_call 25; exact quiet_below HF.out HI.out (fun _ _ h hb => ⟨blk_keep h.1 hb, blk_keep h.2.1 hb, blk_keep h.2.2.1 hb, bel_trans h.2.2.2 hb h.2.2.2.size⟩) (Ref.advance _ leaf k x (15 - x) (elt s k) l1 hleaf (by omega) (by omega) 15 (by omega)))))
      refine wpQuiet_nil ?_
      intro i
      go_wp2_with fail
      exact ⟨⟨k + 1, by omega, by go_num, blk_setRow (HF.out i).1 (cl .u8 (lst s d leaf (k + 1))), blk_setRow_ne (HF.out i).2.1 _ (by omega), blk_setRow_ne (HF.out i).2.2.1 _ (by omega), bel_setRow (HF.out i).2.2.2 (by omega) _⟩, by simp [intOf]; omega⟩
    · obtain rfl : k = 35 := by omega
      rw [show lst s d leaf 35 = flat (endF s d leaf) 35 by rw [lst, List.drop_eq_nil_of_le (by omega), List.append_nil]] at hb1
      have hl := flat_length (endF_length hs d leaf) 35
      have k2 := bk_of hb2
      have k1 := bk_of hb1
      have HB := Lib.hid hb2
      clear hb1 hb2 hb3
      go_wp2_with fail
      refine ret_rvs rfl rfl (blk_setRow HB.out (cl .u8 (flat (endF s d leaf) 35))) hl rfl ⟨rfl, bel_setRow hbel (by omega) _⟩
set_option maxRecDepth 20000 in
theorem to_calls (w : World) (s : List Nat) (hs : s.length = 560) :
    Calls Try.prog 37 #[agg .u8 s] w fun e w' => e = .returned (agg .u8 s) ∧ Below w.heap.size w w' := by
  obtain ⟨F, hF⟩ : ∃ F : Nat → List Nat, F = fun c => if c < 35 then elt s c else zs 16 := ⟨_, rfl⟩
  have hl : ∀ c, (F c).length = 16 := fun c => by
    rw [hF]
    by_cases h : c < 35
    · simp [h, elt]; omega
    · simp [h]; rfl
  have HL := Lib.hid hl
  have HF := Lib.hid hF
  clear hl hF
  go_enter Try.func37, Try.ntmps37
  go_wp2_with fail
  go_loopw [4] (fun i wr => ∃ k : Nat, k ≤ 35 ∧ i = .int .i64 k ∧ blk wr w.heap.size (cl .u8 s) 68 ∧ blk wr (w.heap.size + 1) (cl .u8 (zs 560)) 72 ∧ blk wr (w.heap.size + 1 + 1) (cl .u8 (fl F k)) 72 ∧ Below w.heap.size w wr) (fun i _ => 35 - (intOf i).toNat)
  case atStart => exact ⟨0, by omega, rfl, blk_alloc (blk_alloc (blk_new _ _ _) _) _, blk_alloc (blk_at _ _ _ (by simp only [alloc_size])) _, by rw [fl_zero]; exact blk_at _ _ _ (by simp only [alloc_size]), (((Below.refl _ _).alloc (Nat.le_refl _) _).alloc (by simp only [alloc_size]; omega) _).alloc (by simp only [alloc_size]; omega) _⟩
  case round =>
    obtain ⟨k, hk, rfl, hb0, hb1, hb2, hbel⟩ := hrel
    by_cases hk2 : k < 35
    · have q0 := ld_at hs hk2 hb0
      have q1 := st_rv_at HL.out hk2 hb2
      rw [show F k = (s.drop (k * 16)).take 16 by rw [HF.out]; simp only [hk2, if_true]; rfl] at q1
      have H0 := Lib.hid hb0
      have H1 := Lib.hid hb1
      have H2 := Lib.hid hb2
      clear hb0 hb1 hb2
      go_wp2_with fail
      exact ⟨⟨k + 1, by omega, by go_num, blk_setRow_ne H0.out _ (by omega), blk_setRow_ne H1.out _ (by omega), blk_setRow H2.out (cl .u8 (fl F (k + 1))), bel_setRow hbel (by omega) _⟩, by simp [intOf]; omega⟩
    · obtain rfl : k = 35 := by omega
      have e : fl F 35 = s := by
        rw [fl_full]
        have h : ∀ k, k ≤ 35 → flat F k = flat (elt s) k := by
          intro k
          induction k with
          | zero => intro _; rfl
          | succ k ih => intro hk; rw [flat_succ, flat_succ, ih (by omega), HF.out]; simp only [show k < 35 by omega, if_true]
        rw [h 35 (Nat.le_refl _), flat_elt s hs 35 (Nat.le_refl _), List.take_of_length_le (by omega)]
      rw [e] at hb2
      have k1 := bk_of hb1
      have k2 := bk_of hb2
      have HB := Lib.hid hb1
      clear hb0 hb1 hb2 e
      go_wp2_with fail
      refine ret_rvs rfl rfl (blk_setRow HB.out (cl .u8 s)) hs rfl ⟨rfl, bel_setRow hbel (by omega) _⟩
end Go.Proofs.Ytlgpipdeckdmjaa.Ref
