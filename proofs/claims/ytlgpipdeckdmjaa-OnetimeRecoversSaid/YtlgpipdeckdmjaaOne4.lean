/-
  onetime: the digits of a digest.
-/
import Derived.Test.YtlgpipdeckdmjaaOne3
import Derived.Laws.EntriesVeiled
set_option linter.unusedVariables false
set_option linter.unusedSimpArgs false
namespace Go.Proofs.Ytlgpipdeckdmjaa.One
open Go.RowKit Base Reg Types Slice Sha
/-- Digit c. -/
def dg (d : List Nat) (c : Nat) : Nat := if c % 2 = 0 then d.getD (c / 2) 0 / 16 else d.getD (c / 2) 0 % 16
def sm (d : List Nat) : Nat → Nat
  | 0 => 0
  | k + 1 => sm d k + (15 - dg d k)
def spd (d : List Nat) (c : Nat) : Nat := if c < 32 then dg d c else sm d 32 / 2 ^ (4 * (34 - c)) % 16
def sp (d : List Nat) : List Nat := (List.range 35).map (spd d)
theorem sp_length (d : List Nat) : (sp d).length = 35 := by simp [sp]
/-- Bytes. -/
def By (d : List Nat) : Prop := ∀ j, d.getD j 0 < 256
theorem dg_le {d : List Nat} (h : By d) (c : Nat) : dg d c ≤ 15 := by
  have := h (c / 2)
  unfold dg
  split <;> omega
theorem sm_le (d : List Nat) : ∀ k, sm d k ≤ 15 * k
  | 0 => by simp [sm]
  | k + 1 => by have := sm_le d k; simp only [sm]; omega
theorem spd_le {d : List Nat} (h : By d) (c : Nat) : spd d c ≤ 15 := by
  have := dg_le h c
  unfold spd
  split
  · omega
  · omega
theorem digit (w : World) (d : List Nat) (c g : Nat) (hd : d.length = 16) (hb : By d) (hc : c < 32) (hB : blk w g (cl .u8 d) 22) :
    Calls Try.prog 59 #[.int .i64 (c : Int), .pointer (some ⟨g, 0, none⟩)] w fun e w' => e = .returned (.int .i64 (dg d c : Nat)) ∧ w = w' := by
  have hcl := (blk_cell hB (c / 2)).trans (cl_get _ _ _ (by omega))
  have hby := hb (c / 2)
  obtain ⟨x, hx⟩ : ∃ x, x = d.getD (c / 2) 0 := ⟨_, rfl⟩
  rw [← hx] at hcl hby
  have HX := Lib.hid hx
  clear hB hx
  go_enter Try.func59, Try.ntmps59
  by_cases h : c % 2 = 0
  · have i1 : ((c : Int) % 2) = 0 := by omega
    go_wp2_with fail
    go_ret
    exact ⟨by rw [dg, if_pos h, ← HX.out]; simp, rfl⟩
  · have i1 : ((c : Int) % 2) = 1 := by omega
    go_wp2_with fail
    go_ret
    exact ⟨by rw [dg, if_neg h, ← HX.out]; simp, rfl⟩
/-- Digit c, or c's digit of the checksum. -/
theorem digits (w : World) (d : List Nat) (c g g1 g2 : Nat) (hd : d.length = 16) (hb : By d) (hc : c < 35) (hB : blk w g (cl .u8 d) 22)
    (h1 : w.cell? ⟨g1, 0, none⟩ = some (.func (.func 59) #[] #[.pointer (some ⟨g, 0, none⟩)])) (h2 : w.cell? ⟨g2, 0, none⟩ = some (.int .i64 (sm d 32 : Nat))) :
    Calls Try.prog 61 #[.int .i64 (c : Int), .pointer (some ⟨g1, 0, none⟩), .pointer (some ⟨g2, 0, none⟩)] w fun e w' => e = .returned (.int .i64 (spd d c : Nat)) ∧ w = w' := by
  have hs := sm_le d 32
  obtain ⟨x, hx⟩ : ∃ x, x = sm d 32 := ⟨_, rfl⟩
  rw [← hx] at h2 hs
  have HX := Lib.hid hx
  have HB := Lib.hid hB
  clear hB hx
  go_enter Try.func61, Try.ntmps61
  by_cases h : c < 32
  · go_wp2_with fail
    refine (digit w d c g hd hb h HB.out).mono ?_
    rintro e w1 ⟨rfl, rfl⟩
    go_wp2_with fail
    go_ret
    exact ⟨by rw [spd, if_pos h]; rfl, rfl⟩
  · go_wp2_with fail
    go_ret
    refine ⟨?_, rfl⟩
    have e : ((x : Int) / 2 ^ (4 * (34 - c))).tmod 16 = ((spd d c : Nat) : Int) := by
      rw [spd, if_neg h, ← HX.out]
      have : ((x : Int) / 2 ^ (4 * (34 - c))) = ((x / 2 ^ (4 * (34 - c)) : Nat) : Int) := by rw [Int.natCast_ediv, Int.natCast_pow]; rfl
      rw [this, Int.tmod_eq_emod_of_nonneg (Int.natCast_nonneg _)]
      omega
    simp [e]
/-- All digits of a function of the chain's number. -/
theorem each_int (w : World) (F : Nat → Nat) (v1 v2 : Value) (hF : ∀ c : Nat, c < 35 → ∀ W, Below w.heap.size w W → Calls Try.prog 61 #[.int .i64 (c : Int), v1, v2] W fun e w' => e = .returned (.int .i64 (F c : Nat)) ∧ W = w') :
    Calls Try.prog 60 #[.func (.func 61) #[] #[v1, v2]] w fun e w' => e = .returned (agg .i64 ((List.range 35).map F)) ∧ Below w.heap.size w w' := by
  have HF := Lib.hid hF
  clear hF
  go_enter Try.func60, Try.ntmps60
  go_wp2_with fail
  go_loopw [5] (fun i wr => ∃ k : Nat, k ≤ 35 ∧ i = .int .i64 k ∧ blk wr w.heap.size (cl .i64 (zs 35)) 27 ∧ blk wr (w.heap.size + 1) (cl .i64 (upto 35 k F)) 27 ∧ Below w.heap.size w wr) (fun i _ => 35 - (intOf i).toNat)
  case atStart => exact ⟨0, by omega, rfl, blk_alloc (blk_new _ _ _) _, by rw [upto_zero]; exact blk_at _ _ _ (by simp), ((Below.refl _ _).alloc (Nat.le_refl _) _).alloc (by simp) _⟩
  case round =>
    obtain ⟨k, hk, rfl, hb1, hb2, hbel⟩ := hrel
    have hl : (upto 35 k F).length = 35 := upto_length _ _ _
    by_cases hk2 : k < 35
    · have cb : wr.cell? ⟨w.heap.size + 1, k, none⟩ = some (.int .i64 (((upto 35 k F).getD k 0 : Nat) : Int)) := (blk_cell hb2 k).trans (cl_get _ _ _ (by omega))
      have fb : wr.frozen? ⟨w.heap.size + 1, k, none⟩ = false := blk_free hb2 k
      have HB1 := Lib.hid hb1
      have HB2 := Lib.hid hb2
      clear hb1 hb2
      go_wp2_with fail
      refine (HF.out k hk2 wr hbel).mono ?_
      rintro e w1 ⟨rfl, rfl⟩
      go_wp2_with fail
      refine ⟨⟨k + 1, by omega, by go_num, blk_setCell_ne HB1.out _ (by simp), ?_, bel_setCell hbel (by simp) _⟩, by simp [intOf]; omega⟩
      have h := blk_setCell HB2.out k (.int .i64 ((F k : Nat) : Int))
      rw [cl_set, upto_set 35 k F hk2] at h
      exact h
    · obtain rfl : k = 35 := by omega
      rw [upto_full 35 F] at hb2
      have hl : ((List.range 35).map F).length = 35 := by simp
      have hb3 := bk_of hb1
      have hb4 := bk_of hb2
      go_wp2_with fail
      refine ret_i35 rfl rfl (blk_setRow hb1 (cl .i64 ((List.range 35).map F))) hl rfl ⟨rfl, bel_setRow hbel (Nat.le_refl _) _⟩
/-- What is known of the memory while the sum is made. -/
def At4 (w : World) (d : List Nat) (x : Nat) (t : TypeId) (W : World) : Prop :=
  blk W w.heap.size (cl .u8 d) 22 ∧ blk W (w.heap.size + 1) (cl .i64 (zs 35)) 27 ∧ blk W (w.heap.size + 1 + 1) [.int .i64 (x : Int)] 3 ∧ blk W (w.heap.size + 1 + 1 + 1) [.func (.func 59) #[] #[.pointer (some ⟨w.heap.size, 0, none⟩)]] t ∧ Below w.heap.size w W
theorem At4.drew {w : World} {d : List Nat} {x : Nat} {t : TypeId} {W : World} (h : At4 w d x t W) : At4 w d x t W.drew := ⟨blk_drew h.1, blk_drew h.2.1, blk_drew h.2.2.1, blk_drew h.2.2.2.1, h.2.2.2.2.drew⟩
set_option maxRecDepth 20000 in
theorem split (w : World) (d : List Nat) (hd : d.length = 16) (hb : By d) :
    Calls Try.prog 17 #[agg .u8 d] w fun e w' => e = .returned (agg .i64 (sp d)) ∧ Below w.heap.size w w' := by
  go_enter Try.func17, Try.ntmps17
  go_wp2_with fail
  go_loopw [7] (fun i wr => ∃ (k : Nat) (t : TypeId), k ≤ 32 ∧ i = .int .i64 k ∧ At4 w d (sm d k) t wr) (fun i _ => 32 - (intOf i).toNat)
  case atStart =>
    exact ⟨0, _, by omega, rfl, blk_alloc (blk_alloc (blk_alloc (blk_new _ _ _) _) _) _, blk_alloc (blk_alloc (blk_at _ _ _ (by simp only [alloc_size])) _) _, blk_alloc (blk_at _ [.int .i64 0] _ (by simp only [alloc_size])) _, blk_at _ [.func (.func 59) #[] #[.pointer (some ⟨w.heap.size, 0, none⟩)]] _ (by simp only [alloc_size]),
      (((((Below.refl w.heap.size w).alloc (Nat.le_refl _) _).alloc (by simp only [alloc_size]; omega) _).alloc (by simp only [alloc_size]; omega) _).alloc (by simp only [alloc_size]; omega) _)⟩
  case round =>
    obtain ⟨k, t, hk, rfl, hA⟩ := hrel
    by_cases hk2 : k < 32
    · obtain ⟨ι, F, hF, hin⟩ := class_of (At4 w d (sm d k) t)
      have hs := sm_le d k
      have hdg := dg_le hb k
      have q1 : ∀ i, (F i).cell? ⟨w.heap.size + 1 + 1, 0, none⟩ = some (.int .i64 ((sm d k : Nat) : Int)) := fun i => (blk_cell (hF i).2.2.1 0).trans rfl
      have q2 : ∀ i, (F i).frozen? ⟨w.heap.size + 1 + 1, 0, none⟩ = false := fun i => blk_free (hF i).2.2.1 0
      have q3 : ∀ i, (F i).cell? ⟨w.heap.size + 1 + 1 + 1, 0, none⟩ = some (.func (.func 59) #[] #[.pointer (some ⟨w.heap.size, 0, none⟩)]) := fun i => (blk_cell (hF i).2.2.2.1 0).trans rfl
      have h0 := hin _ hA.drew
      have hne : Nonempty ι := ⟨h0.choose⟩
      have HF := Lib.hid hF
      have HI := Lib.hid hin
      have H0 := Lib.hid h0
      clear hF hin hA h0
      go_wp2_with fail
      refine wp_region_tail F 6 (by kernel_rfl) (by kernel_rfl) H0.out ?_
      simp only [List.take_succ_cons, List.take_zero, List.drop_succ_cons, List.drop_zero]
      repeat (go_big_quiet_step ((go_at_call 59; exact quiet_still (digit _ d k w.heap.size hd hb hk2 (HF.out _).1))))
      refine wpQuiet_nil ?_
      intro i
      go_wp2_with fail
      have hA := HF.out i
      have ev : ((sm d k : Nat) : Int) + (15 - ((dg d k : Nat) : Int)) = ((sm d (k + 1) : Nat) : Int) := by simp only [sm]; omega
      rw [ev]
      exact ⟨⟨k + 1, t, by omega, by go_num, blk_setCell_ne hA.1 _ (by simp; omega), blk_setCell_ne hA.2.1 _ (by simp), blk_setCell hA.2.2.1 0 (.int .i64 ((sm d (k + 1) : Nat) : Int)), blk_setCell_ne hA.2.2.2.1 _ (by simp), bel_setCell hA.2.2.2.2 (by simp; omega) _⟩, by simp [intOf]; omega⟩
    · obtain rfl : k = 32 := by omega
      have HA := Lib.hid hA
      clear hA
      go_wp2_with fail
      refine (each_int wr (spd d) _ _ (fun c hc W hb' => digits W d c w.heap.size _ _ hd hb hc (blk_keep HA.out.1 hb') ((blk_cell (blk_keep HA.out.2.2.2.1 hb') 0).trans rfl) ((blk_cell (blk_keep HA.out.2.2.1 hb') 0).trans rfl))).mono ?_
      rintro e w1 ⟨rfl, hb1⟩
      have hB1 := blk_keep HA.out.2.1 hb1
      have hbel := bel_trans HA.out.2.2.2.2 hb1 HA.out.2.2.2.2.size
      have hk1 := bk_of hB1
      have hl := sp_length d
      rw [show (List.range 35).map (spd d) = sp d from rfl]
      clear hb1
      go_wp2_with fail
      refine ret_i35 rfl rfl (blk_setRow hB1 (cl .i64 (sp d))) hl rfl ⟨rfl, bel_setRow hbel (by omega) _⟩
end Go.Proofs.Ytlgpipdeckdmjaa.One
