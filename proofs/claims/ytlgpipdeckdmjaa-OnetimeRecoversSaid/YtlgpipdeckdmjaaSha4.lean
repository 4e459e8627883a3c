/-
  SHA-256 as the program has it: the rounds of one block.
-/
import Derived.Test.YtlgpipdeckdmjaaSha3
set_option linter.unusedVariables false
set_option linter.unusedSimpArgs false
namespace Go.Proofs.Ytlgpipdeckdmjaa.Sha
open Go.RowKit Base Reg Types
def sg1 (y : Nat) : Nat := xo (xo (ro y 17) (ro y 19)) (sr y 10)
def sg0 (x : Nat) : Nat := xo (xo (ro x 7) (ro x 18)) (sr x 3)
/-- The sixteen words before step t, and the state. -/
def ringNew (r : List Nat) (t : Nat) : Nat := ad (r.getD (t % 16) 0) (ad (ad (sg1 (r.getD ((t - 2) % 16) 0)) (r.getD ((t - 7) % 16) 0)) (sg0 (r.getD ((t - 15) % 16) 0)))
def ringStep (r : List Nat) (t : Nat) : List Nat := if t < 16 then r else r.set (t % 16) (ringNew r t)
def ring (b : List Nat) : Nat → List Nat
  | 0 => b
  | t + 1 => ringStep (ring b t) t
def st (s b : List Nat) : Nat → List Nat
  | 0 => s
  | t + 1 => rnd (st s b t) (kon.getD t 0) ((ring b (t + 1)).getD (t % 16) 0)
def process (s b : List Nat) : List Nat := addS (st s b 64) s
theorem ring_length (b : List Nat) (h : b.length = 16) : ∀ t, (ring b t).length = 16
  | 0 => h
  | t + 1 => by
    unfold ring ringStep
    split
    · exact ring_length b h t
    · rw [List.length_set]; exact ring_length b h t
theorem st_length (s b : List Nat) (h : s.length = 8) : ∀ t, (st s b t).length = 8
  | 0 => h
  | t + 1 => rfl
theorem ring_old (b : List Nat) (t : Nat) (h : t < 16) : ring b (t + 1) = ring b t := by
  show ringStep (ring b t) t = _
  unfold ringStep
  rw [if_pos h]
theorem ring_new (b : List Nat) (t : Nat) (h : ¬ t < 16) : ring b (t + 1) = (ring b t).set (t % 16) (ringNew (ring b t) t) := by
  show ringStep (ring b t) t = _
  unfold ringStep
  rw [if_neg h]
theorem eight (l : List Nat) (h : l.length = 8) : ∃ a b c d e f g i, l = [a, b, c, d, e, f, g, i] := by
  match l, h with
  | [a, b, c, d, e, f, g, i], _ => exact ⟨a, b, c, d, e, f, g, i, rfl⟩
theorem round_any (s : List Nat) (hs : s.length = 8) (k x : Nat) (w : World) : Calls Try.prog 144 #[agg .u32 s, .int .u32 (k : Int), .int .u32 (x : Int)] w fun e' w' => e' = .returned (agg .u32 (rnd s k x)) ∧ Below w.heap.size w w' := by
  obtain ⟨a, b, c, d, e, f, g, i, rfl⟩ := eight s hs
  exact round a b c d e f g i k x w
theorem plus_any (s t : List Nat) (hs : s.length = 8) (ht : t.length = 8) (w : World) : Calls Try.prog 145 #[agg .u32 s, agg .u32 t] w fun e' w' => e' = .returned (agg .u32 (addS s t)) ∧ Below w.heap.size w w' := by
  obtain ⟨a, b, c, d, e, f, g, i, rfl⟩ := eight s hs
  obtain ⟨a', b', c', d', e', f', g', i', rfl⟩ := eight t ht
  exact plus a b c d e f g i a' b' c' d' e' f' g' i' w

/-- What is known of the memory at the head of round t. -/
def At (w : World) (s b : List Nat) (r : List Nat) (t : Nat) (W : World) : Prop :=
  blk W w.heap.size (cl .u32 s) 197 ∧ blk W (w.heap.size + 1) (cl .u32 r) 205 ∧ blk W (w.heap.size + 2) (cl .u32 (zs 8)) 197 ∧ blk W (w.heap.size + 3) (cl .u32 (st s b t)) 197 ∧ Below w.heap.size w W

theorem At.drew {w W : World} {s b r : List Nat} {t : Nat} (h : At w s b r t W) : At w s b r t W.drew := ⟨blk_drew h.1, blk_drew h.2.1, blk_drew h.2.2.1, blk_drew h.2.2.2.1, h.2.2.2.2.drew⟩
theorem At.keep {w W W' : World} {s b r : List Nat} {t : Nat} (h : At w s b r t W) (k : Below W.heap.size W W') : At w s b r t W' := ⟨blk_keep h.1 k, blk_keep h.2.1 k, blk_keep h.2.2.1 k, blk_keep h.2.2.2.1 k, bel_trans h.2.2.2.2 k h.2.2.2.2.size⟩
theorem shr10 (a : Nat) : ((a : Int) / 1024) = ((sr a 10 : Nat) : Int) := by unfold sr; omega
theorem shr3 (a : Nat) : ((a : Int) / 8) = ((sr a 3 : Nat) : Int) := by unfold sr; omega
theorem rnd_length (s : List Nat) (k x : Nat) : (rnd s k x).length = 8 := by simp [rnd]
theorem addS_length (s t : List Nat) : (addS s t).length = 8 := by simp [addS]
attribute [local go_sem] rnd_length addS_length
attribute [local go_sem high] wrap_ad bits_xo bits_an bits_orr bits_nt unary_nt shr10 shr3
theorem process_calls (s b : List Nat) (hs : s.length = 8) (hb : b.length = 16) (w : World) :
    Calls Try.prog 140 #[agg .u32 s, agg .u32 b] w fun e w' => e = .returned (agg .u32 (process s b)) ∧ Below w.heap.size w w' := by
  have Hs := Lib.hid hs
  have Hb := Lib.hid hb
  go_enter Try.func140, Try.ntmps140
  go_wp2_with fail
  refine (constants _).mono ?_
  rintro e w1 ⟨rfl, hb1⟩
  have A0 : At w s b (ring b 0) 0 w1 := ⟨blk_keep (blk_alloc (blk_alloc (blk_alloc (blk_new w _ _) _) _) _) hb1, blk_keep (blk_alloc (blk_alloc (blk_at _ _ _ (by simp)) _) _) hb1, blk_keep (blk_alloc (blk_at _ _ _ (by simp)) _) hb1, blk_keep (blk_at _ _ _ (by simp)) hb1,
    bel_trans (((((Below.refl _ _).alloc (Nat.le_refl _) _).alloc (by simp) _).alloc (by simp; omega) _).alloc (by simp; omega) _) hb1 (by simp; omega)⟩
  clear hb1
  go_wp2
  go_loopw [13] (fun i wr => ∃ t : Nat, t ≤ 64 ∧ i = .int .i64 t ∧ At w s b (ring b t) t wr) (fun i _ => 64 - (intOf i).toNat)
  case atStart => exact ⟨0, by omega, rfl, A0⟩
  case round =>
    obtain ⟨t, ht, rfl, hA⟩ := hrel
    clear A0 w1
    have hk : kon.length = 64 := rfl
    have hr : (ring b t).length = 16 := ring_length b hb t
    by_cases h64 : t < 64
    · by_cases h16 : t < 16
      · have er := ring_old b t h16
        rw [← er] at hA
        have Er := Lib.hid er
        clear er
        go_wp2
        obtain ⟨ι, F, hF, hin⟩ := class_of (At w s b (ring b (t + 1)) t)
        have l1 : ∀ i, bk (F i) (w.heap.size + 1 + 1 + 1) = some (cl .u32 (st s b t)).toArray := fun i => bk_of (hF i).2.2.2.1
        have l2 : ∀ i, (F i).cell? ⟨w.heap.size + 1, t % 16, none⟩ = some (.int .u32 (((ring b (t + 1)).getD (t % 16) 0 : Nat) : Int)) := fun i => (blk_cell (hF i).2.1 _).trans (cl_get _ _ _ (by rw [ring_length b Hb.out]; omega))
        have h0 := hin _ hA.drew
        have hne : Nonempty ι := ⟨h0.choose⟩
        refine wp_region_tail F 6 (by kernel_rfl) (by kernel_rfl) h0 ?_
        clear h0
        have HF := Lib.hid hF
        have HI := Lib.hid hin
        have hst : (st s b t).length = 8 := st_length s b Hs.out t
        clear hF hin hA
        simp only [List.take_succ_cons, List.take_zero, List.drop_succ_cons, List.drop_zero]
        repeat (go_big_quiet_step ((go_at_call 144; exact quiet_below HF.out HI.out (fun _ _ => At.keep) (round_any _ hst _ _ _))))
        refine wpQuiet_nil ?_
        intro i
        go_wp2
        go_roundw
        case rel =>
          refine ⟨t + 1, by omega, by go_num, blk_setRow_ne (HF.out i).1 _ (by omega), blk_setRow_ne (HF.out i).2.1 _ (by omega), blk_setRow_ne (HF.out i).2.2.1 _ (by omega), ?_, bel_setRow (HF.out i).2.2.2.2 (by omega) _⟩
          have h := blk_setRow (HF.out i).2.2.2.1 (cl .u32 (st s b (t + 1)))
          have e : st s b (t + 1) = rnd (st s b t) kon[t] ((ring b (t + 1)).getD (t % 16) 0) := by
            have ek : kon.getD t 0 = kon[t] := by rw [List.getD_eq_getElem?_getD, List.getElem?_eq_getElem (by omega)]; rfl
            rw [← ek]
            rfl
          rw [e] at h ⊢
          simp only [List.getD_eq_getElem?_getD] at h ⊢
          exact h
        case measure => simp [intOf]; omega
      · have m15 : (t - 15) % 16 < 16 := by omega
        have m2 : (t - 2) % 16 < 16 := by omega
        obtain ⟨ι, F, hF, hin⟩ := class_of (At w s b (ring b t) t)
        have l1 : ∀ i, (F i).cell? ⟨w.heap.size + 1, (t - 15) % 16, none⟩ = some (.int .u32 (((ring b t).getD ((t - 15) % 16) 0 : Nat) : Int)) := fun i => (blk_cell (hF i).2.1 _).trans (cl_get _ _ _ (by omega))
        have l2 : ∀ i, (F i).cell? ⟨w.heap.size + 1, (t - 2) % 16, none⟩ = some (.int .u32 (((ring b t).getD ((t - 2) % 16) 0 : Nat) : Int)) := fun i => (blk_cell (hF i).2.1 _).trans (cl_get _ _ _ (by omega))
        have l3 : ∀ i, (F i).cell? ⟨w.heap.size + 1, t % 16, none⟩ = some (.int .u32 (((ring b t).getD (t % 16) 0 : Nat) : Int)) := fun i => (blk_cell (hF i).2.1 _).trans (cl_get _ _ _ (by omega))
        have l4 : ∀ i, (F i).cell? ⟨w.heap.size + 1, (t - 7) % 16, none⟩ = some (.int .u32 (((ring b t).getD ((t - 7) % 16) 0 : Nat) : Int)) := fun i => (blk_cell (hF i).2.1 _).trans (cl_get _ _ _ (by omega))
        have l5 : ∀ i, (F i).frozen? ⟨w.heap.size + 1, t % 16, none⟩ = false := fun i => blk_free (hF i).2.1 _
        have h0 := hin _ hA.drew
        have hne : Nonempty ι := ⟨h0.choose⟩
        have HF := Lib.hid hF
        have HI := Lib.hid hin
        have H0 := Lib.hid h0
        clear hF hin hA h0
        go_wp2
        refine wp_region_all F (by kernel_rfl) (by kernel_rfl) H0.out ?_
        repeat (go_big_quiet_step (fail))
        refine wpQuiet_nil ?_
        intro i
        go_wp2
        have h1 := HI.out _ (HF.out i).drew
        refine wp_region_tail F 28 (by kernel_rfl) (by kernel_rfl) h1 ?_
        clear h1
        simp only [List.take_succ_cons, List.take_zero, List.drop_succ_cons, List.drop_zero]
        repeat (go_big_quiet_step ((go_at_call 143; exact quiet_still (right _ _ (by decide) (by decide) _))))
        refine wpQuiet_nil ?_
        intro j
        go_wp2
        obtain ⟨v, hv⟩ : ∃ v, v = ringNew (ring b t) t := ⟨_, rfl⟩
        have hA : At w s b (ring b (t + 1)) t ((F j).setCell ⟨w.heap.size + 1, t % 16, none⟩ (.int .u32 (v : Int))) := by
          have h := HF.out j
          rw [ring_new b t h16, ← hv]
          exact ⟨blk_setCell_ne h.1 _ (by simp), by have := blk_setCell h.2.1 (t % 16) (.int .u32 (v : Int)); rw [cl_set] at this; exact this, blk_setCell_ne h.2.2.1 _ (by simp), blk_setCell_ne h.2.2.2.1 _ (by simp), bel_setCell h.2.2.2.2 (by simp) _⟩
        simp [ringNew, sg1, sg0, hr, m2, m15] at hv
        rw [← hv]
        have Hv := Lib.hid hv
        clear hv l1 l2 l3 l4 l5 HF HI H0
        generalize (F j).setCell ⟨w.heap.size + 1, t % 16, none⟩ (.int .u32 (v : Int)) = W1 at hA ⊢
        clear hne i j F ι
        obtain ⟨ι, F, hF, hin⟩ := class_of (At w s b (ring b (t + 1)) t)
        have l1 : ∀ i, bk (F i) (w.heap.size + 1 + 1 + 1) = some (cl .u32 (st s b t)).toArray := fun i => bk_of (hF i).2.2.2.1
        have l2 : ∀ i, (F i).cell? ⟨w.heap.size + 1, t % 16, none⟩ = some (.int .u32 (((ring b (t + 1)).getD (t % 16) 0 : Nat) : Int)) := fun i => (blk_cell (hF i).2.1 _).trans (cl_get _ _ _ (by rw [ring_length b Hb.out]; omega))
        have h0 := hin _ hA.drew
        have hne : Nonempty ι := ⟨h0.choose⟩
        refine wp_region_tail F 6 (by kernel_rfl) (by kernel_rfl) h0 ?_
        clear h0
        have HF := Lib.hid hF
        have HI := Lib.hid hin
        have hst : (st s b t).length = 8 := st_length s b Hs.out t
        clear hF hin hA
        simp only [List.take_succ_cons, List.take_zero, List.drop_succ_cons, List.drop_zero]
        repeat (go_big_quiet_step ((go_at_call 144; exact quiet_below HF.out HI.out (fun _ _ => At.keep) (round_any _ hst _ _ _))))
        refine wpQuiet_nil ?_
        intro i
        go_wp2
        go_roundw
        case rel =>
          refine ⟨t + 1, by omega, by go_num, blk_setRow_ne (HF.out i).1 _ (by omega), blk_setRow_ne (HF.out i).2.1 _ (by omega), blk_setRow_ne (HF.out i).2.2.1 _ (by omega), ?_, bel_setRow (HF.out i).2.2.2.2 (by omega) _⟩
          have h := blk_setRow (HF.out i).2.2.2.1 (cl .u32 (st s b (t + 1)))
          have e : st s b (t + 1) = rnd (st s b t) kon[t] ((ring b (t + 1)).getD (t % 16) 0) := by
            have ek : kon.getD t 0 = kon[t] := by rw [List.getD_eq_getElem?_getD, List.getElem?_eq_getElem (by omega)]; rfl
            rw [← ek]
            rfl
          rw [e] at h ⊢
          simp only [List.getD_eq_getElem?_getD] at h ⊢
          exact h
        case measure => simp [intOf]; omega
    · obtain rfl : t = 64 := by omega
      have hst : (st s b 64).length = 8 := st_length s b Hs.out 64
      have c1 := bk_of hA.1
      have c2 := bk_of hA.2.2.1
      have c3 : bk wr (w.heap.size + 1 + 1 + 1) = some (cl .u32 (st s b 64)).toArray := bk_of hA.2.2.2.1
      go_wp2_with fail
      refine (plus_any _ _ hst hs _).mono ?_
      rintro e w2 ⟨rfl, hb2⟩
      have c4 : bk w2 (w.heap.size + 1 + 1) = some (cl .u32 (zs 8)).toArray := bk_of (blk_keep hA.2.2.1 hb2)
      go_wp2
      exact ret_words rfl rfl (blk_setRow (blk_keep hA.2.2.1 hb2) (cl .u32 (process s b))) rfl rfl ⟨rfl, bel_setRow (bel_trans hA.2.2.2.2 hb2 hA.2.2.2.2.size) (by omega) _⟩
end Go.Proofs.Ytlgpipdeckdmjaa.Sha
