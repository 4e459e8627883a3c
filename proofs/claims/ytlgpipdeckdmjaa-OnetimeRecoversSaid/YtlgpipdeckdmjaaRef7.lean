/-
  The reference of layer 7: Lower.
-/
import Derived.Test.YtlgpipdeckdmjaaRef6
set_option linter.unusedVariables false
set_option linter.unusedSimpArgs false
namespace Go.Proofs.Ytlgpipdeckdmjaa.Ref
open Go.RowKit Base Reg Types Slice Sha Law
open Go.Proofs.Ytlgpipdeckdmjaa.One
def lwI : Option Nat → Int
  | some c => c
  | none => -1
/-- The frame of Lower while both Splits are made. -/
def Fr (w : World) (a b : List Nat) (u6 u7 u9 u10 u11 u12 : Value) : Act :=
  { tmps := #[agg .u8 a, agg .u8 b, .pointer (some ⟨w.heap.size, 0, none⟩), .pointer (some ⟨w.heap.size + 1, 0, none⟩), .int .i64 0, u6, u7, undef, u9, u10, u11, u12, undef, undef, undef, undef, undef, undef, undef, undef, undef, undef, undef, undef], defers := [] }
def B5 (w : World) (a b : List Nat) (x : Act) (W : World) : Prop :=
  ∃ u6 u7 u9 u10 u11 u12, x = Fr w a b u6 u7 u9 u10 u11 u12 ∧ At5 w a b W ∧ (∀ p, u6 = .pointer (some ⟨p, 0, none⟩) → w.heap.size + 2 ≤ p ∧ blk W p (cl .i64 (zs 35)) 27) ∧ (∀ p, u7 = .pointer (some ⟨p, 0, none⟩) → w.heap.size + 2 ≤ p ∧ blk W p (cl .i64 (zs 35)) 27) ∧ (∀ p, u6 = .pointer (some ⟨p, 0, none⟩) → u7 = .pointer (some ⟨p, 0, none⟩) → False)
def G5 (a b : List Nat) (i : Nat) (x : Act) (W : World) : Prop := match i with
  | 0 => x.tmps.getD 8 undef = agg .u8 a
  | 1 => x.tmps.getD 9 undef = agg .i64 (sp a)
  | 2 => x.tmps.getD 10 undef = agg .u8 b
  | 3 => x.tmps.getD 11 undef = agg .i64 (sp b)
  | 4 => ∃ p, x.tmps.getD 5 undef = .pointer (some ⟨p, 0, none⟩)
  | 5 => ∃ p, x.tmps.getD 6 undef = .pointer (some ⟨p, 0, none⟩)
  | _ => True
set_option maxRecDepth 20000 in
set_option maxHeartbeats 4000000 in
theorem lower (w : World) (a b : List Nat) (ha : a.length = 16) (hb : b.length = 16) (ba : By a) (bb : By b) :
    Calls Try.prog 15 #[agg .u8 a, agg .u8 b] w fun e w' => e = .returned (.int .i64 (lwI (lwr a b))) ∧ Below w.heap.size w w' := by
  go_enter Try.func15, Try.ntmps15
  have la := sp_length a
  have lb := sp_length b
  go_wp2_with fail
  refine Ord.wp_region_inv 6 (B5 w a b) (G5 a b) (by kernel_rfl) (by kernel_rfl) ⟨undef, undef, undef, undef, undef, undef, rfl, At5.drew ⟨blk_alloc (blk_new _ _ _) _, blk_at _ _ _ (by simp only [alloc_size]), ((Below.refl w.heap.size w).alloc (Nat.le_refl _) _).alloc (by simp only [alloc_size]; omega) _⟩, fun p h => (by cases h), fun p h => (by cases h), fun p h => (by cases h)⟩ ?_ ?_
  · intro i o hi ho x W hB hG
    obtain ⟨u6, u7, u9, u10, u11, u12, rfl, hA, h6, h7, hne⟩ := hB
    have q1 := bk_of hA.1
    have q2 := bk_of hA.2.1
    have HA := Lib.hid hA
    have H6 := Lib.hid h6
    have H7 := Lib.hid h7
    have HN := Lib.hid hne
    clear hA h6 h7 hne
    match i, hi with
    | 0, _ =>
      cases ho
      clear hG
      unfold Fr
      go_wp2_with fail
      refine ⟨⟨u6, u7, _, u10, u11, u12, rfl, HA.out, H6.out, H7.out, HN.out⟩, rfl, ?_⟩
      intro j hj hji h
      match j, hj with
      | 0, _ => exact absurd rfl hji
      | 1, _ => exact h
      | 2, _ => exact h
      | 3, _ => exact h
      | 4, _ => exact h
      | 5, _ => exact h
    | 1, _ =>
      cases ho
      have g : u9 = agg .u8 a := hG ⟨0, .data⟩ (by simp) rfl
      subst g
      clear hG
      unfold Fr
      go_wp2_with fail
      refine (split _ a ha ba).mono ?_
      rintro e w1 ⟨rfl, hb1⟩
      have hA1 := Lib.hid (At5.below HA.out hb1)
      have h61 : ∀ p, u6 = .pointer (some ⟨p, 0, none⟩) → w.heap.size + 2 ≤ p ∧ blk w1 p (cl .i64 (zs 35)) 27 := fun p h => ⟨(H6.out p h).1, blk_keep (H6.out p h).2 hb1⟩
      have h71 : ∀ p, u7 = .pointer (some ⟨p, 0, none⟩) → w.heap.size + 2 ≤ p ∧ blk w1 p (cl .i64 (zs 35)) 27 := fun p h => ⟨(H7.out p h).1, blk_keep (H7.out p h).2 hb1⟩
      have H61 := Lib.hid h61
      have H71 := Lib.hid h71
      clear hb1 h61 h71
      go_wp2_with fail
      refine ⟨⟨u6, u7, _, _, u11, u12, rfl, hA1.out, H61.out, H71.out, HN.out⟩, rfl, ?_⟩
      intro j hj hji h
      match j, hj with
      | 0, _ => exact h
      | 1, _ => exact absurd rfl hji
      | 2, _ => exact h
      | 3, _ => exact h
      | 4, _ => exact h
      | 5, _ => exact h
    | 2, _ =>
      cases ho
      clear hG
      unfold Fr
      go_wp2_with fail
      refine ⟨⟨u6, u7, u9, u10, _, u12, rfl, HA.out, H6.out, H7.out, HN.out⟩, rfl, ?_⟩
      intro j hj hji h
      match j, hj with
      | 0, _ => exact h
      | 1, _ => exact h
      | 2, _ => exact absurd rfl hji
      | 3, _ => exact h
      | 4, _ => exact h
      | 5, _ => exact h
    | 3, _ =>
      cases ho
      have g : u11 = agg .u8 b := hG ⟨2, .data⟩ (by simp) rfl
      subst g
      clear hG
      unfold Fr
      go_wp2_with fail
      refine (split _ b hb bb).mono ?_
      rintro e w1 ⟨rfl, hb1⟩
      have hA1 := Lib.hid (At5.below HA.out hb1)
      have h61 : ∀ p, u6 = .pointer (some ⟨p, 0, none⟩) → w.heap.size + 2 ≤ p ∧ blk w1 p (cl .i64 (zs 35)) 27 := fun p h => ⟨(H6.out p h).1, blk_keep (H6.out p h).2 hb1⟩
      have h71 : ∀ p, u7 = .pointer (some ⟨p, 0, none⟩) → w.heap.size + 2 ≤ p ∧ blk w1 p (cl .i64 (zs 35)) 27 := fun p h => ⟨(H7.out p h).1, blk_keep (H7.out p h).2 hb1⟩
      have H61 := Lib.hid h61
      have H71 := Lib.hid h71
      clear hb1 h61 h71
      go_wp2_with fail
      refine ⟨⟨u6, u7, u9, u10, _, _, rfl, hA1.out, H61.out, H71.out, HN.out⟩, rfl, ?_⟩
      intro j hj hji h
      match j, hj with
      | 0, _ => exact h
      | 1, _ => exact h
      | 2, _ => exact h
      | 3, _ => exact absurd rfl hji
      | 4, _ => exact h
      | 5, _ => exact h
    | 4, _ =>
      cases ho
      clear hG
      unfold Fr
      go_wp2_with fail
      have hk : Below W.heap.size W (W.alloc (.cells (cl .i64 (zs 35)).toArray 27)) := (Below.refl _ _).alloc (Nat.le_refl _) _
      have hsz := (HA.out.2.1 |> blk_lt)
      refine ⟨⟨_, u7, u9, u10, u11, u12, rfl, At5.below HA.out hk, (fun p h => by cases h; exact ⟨by omega, blk_new _ _ _⟩), (fun p h => ⟨(H7.out p h).1, blk_keep (H7.out p h).2 hk⟩), (fun p h h' => by cases h; have := blk_lt (H7.out _ h').2; omega)⟩, ⟨_, rfl⟩, ?_⟩
      intro j hj hji h
      match j, hj with
      | 0, _ => exact h
      | 1, _ => exact h
      | 2, _ => exact h
      | 3, _ => exact h
      | 4, _ => exact absurd rfl hji
      | 5, _ => exact h
    | 5, _ =>
      cases ho
      clear hG
      unfold Fr
      go_wp2_with fail
      have hk : Below W.heap.size W (W.alloc (.cells (cl .i64 (zs 35)).toArray 27)) := (Below.refl _ _).alloc (Nat.le_refl _) _
      have hsz := (HA.out.2.1 |> blk_lt)
      refine ⟨⟨u6, _, u9, u10, u11, u12, rfl, At5.below HA.out hk, (fun p h => ⟨(H6.out p h).1, blk_keep (H6.out p h).2 hk⟩), (fun p h => by cases h; exact ⟨by omega, blk_new _ _ _⟩), (fun p h' h => by cases h; have := blk_lt (H6.out _ h').2; omega)⟩, ⟨_, rfl⟩, ?_⟩
      intro j hj hji h
      match j, hj with
      | 0, _ => exact h
      | 1, _ => exact h
      | 2, _ => exact h
      | 3, _ => exact h
      | 4, _ => exact h
      | 5, _ => exact absurd rfl hji
  · intro x W hB hG
    obtain ⟨u6, u7, u9, u10, u11, u12, rfl, hA, h6, h7, hne⟩ := hB
    have g0 : u9 = agg .u8 a := hG 0 (by omega)
    have g1 : u10 = agg .i64 (sp a) := hG 1 (by omega)
    have g2 : u11 = agg .u8 b := hG 2 (by omega)
    have g3 : u12 = agg .i64 (sp b) := hG 3 (by omega)
    obtain ⟨p6, g4⟩ : ∃ p, u6 = .pointer (some ⟨p, 0, none⟩) := hG 4 (by omega)
    obtain ⟨p7, g5⟩ : ∃ p, u7 = .pointer (some ⟨p, 0, none⟩) := hG 5 (by omega)
    obtain ⟨hp6, hB6⟩ := h6 p6 g4
    obtain ⟨hp7, hB7⟩ := h7 p7 g5
    have hn67 : p6 ≠ p7 := fun e => hne p6 g4 (by rw [g5, e])
    subst g0 g1 g2 g3 g4 g5
    have k6 := bk_of hB6
    have k7 := bk_of hB7
    have hn76 : p7 ≠ p6 := fun e => hn67 e.symm
    have hbel := hA.2.2
    have k67 := bk_of (blk_setRow_ne hB7 (cl .i64 (sp a)).toArray hn76)
    clear hG hA h6 h7 hne
    have K6 := Lib.hid hB6
    have K7 := Lib.hid hB7
    clear hB6 hB7
    unfold Fr
    go_wp2_with fail
    have S0 : blk ((W.setRow p6 (cl .i64 (sp a)).toArray).setRow p7 (cl .i64 (sp b)).toArray) p6 (cl .i64 (sp a)) 27 ∧ blk ((W.setRow p6 (cl .i64 (sp a)).toArray).setRow p7 (cl .i64 (sp b)).toArray) p7 (cl .i64 (sp b)) 27 ∧ Below w.heap.size w ((W.setRow p6 (cl .i64 (sp a)).toArray).setRow p7 (cl .i64 (sp b)).toArray) :=
      ⟨blk_setRow_ne (blk_setRow K6.out (cl .i64 (sp a))) _ hn67, blk_setRow (blk_setRow_ne K7.out _ hn76) (cl .i64 (sp b)), bel_setRow (bel_setRow hbel (by omega) _) (by omega) _⟩
    go_loopw [7] (fun i wr => ∃ k : Nat, k ≤ 35 ∧ i = .int .i64 k ∧ (∀ j, j < k → ¬ spd b j < spd a j) ∧ blk wr p6 (cl .i64 (sp a)) 27 ∧ blk wr p7 (cl .i64 (sp b)) 27 ∧ Below w.heap.size w wr) (fun i _ => 35 - (intOf i).toNat)
    case atStart => exact ⟨0, by omega, rfl, fun j hj => absurd hj (Nat.not_lt_zero j), S0⟩
    case round =>
      clear S0 k6 k7 k67 K6 K7 hbel
      obtain ⟨k, hk, rfl, hno, hB6, hB7, hbel⟩ := hrel
      have HN := Lib.hid hno
      by_cases hk2 : k < 35
      · obtain ⟨ι, F, hF, hin⟩ := class_of (fun W => blk W p6 (cl .i64 (sp a)) 27 ∧ blk W p7 (cl .i64 (sp b)) 27 ∧ Below w.heap.size w W)
        have q1 : ∀ i, (F i).cell? ⟨p6, k, none⟩ = some (.int .i64 ((spd a k : Nat) : Int)) := fun i => (blk_cell (hF i).1 _).trans (by rw [cl_get _ _ _ (by omega), sp_getD a k hk2])
        have q2 : ∀ i, (F i).cell? ⟨p7, k, none⟩ = some (.int .i64 ((spd b k : Nat) : Int)) := fun i => (blk_cell (hF i).2.1 _).trans (by rw [cl_get _ _ _ (by omega), sp_getD b k hk2])
        have h0 := hin wr.drew ⟨blk_drew hB6, blk_drew hB7, hbel.drew⟩
        have hne : Nonempty ι := ⟨h0.choose⟩
        have HF := Lib.hid hF
        have H0 := Lib.hid h0
        clear hF hin hB6 hB7 hbel h0 hno
        go_wp2_with fail
        refine wp_region_all F (by kernel_rfl) (by kernel_rfl) H0.out ?_
        repeat (go_big_quiet_step (fail))
        refine wpQuiet_nil ?_
        intro i
        by_cases hlt : spd b k < spd a k
        · go_wp2_with fail
          go_ret
          rw [lwr_some hk2 hlt HN.out]
          exact ⟨rfl, (HF.out i).2.2⟩
        · go_wp2_with fail
          exact ⟨⟨k + 1, by omega, by go_num, fun j hj => (by
            by_cases hjk : j = k
            · subst hjk; exact hlt
            · exact HN.out j (by omega)), (HF.out i).1, (HF.out i).2.1, (HF.out i).2.2⟩, by simp [intOf]; omega⟩
      · obtain rfl : k = 35 := by omega
        have e := lwr_none hno
        clear hno
        go_wp2_with fail
        go_ret
        rw [e]
        exact ⟨rfl, hbel⟩
end Go.Proofs.Ytlgpipdeckdmjaa.Ref
