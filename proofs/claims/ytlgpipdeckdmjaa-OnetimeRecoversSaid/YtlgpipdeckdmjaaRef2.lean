/-
  SHA-256 as the reference has it: the schedule of a block.
-/
import Derived.Test.YtlgpipdeckdmjaaRef1
set_option linter.unusedVariables false
set_option linter.unusedSimpArgs false
namespace Go.Proofs.Ytlgpipdeckdmjaa.Ref
open Go.RowKit Base Reg Types Slice Sha
theorem upto_get (n k : Nat) (f : Nat → Nat) (j : Nat) (h : j < k) (h2 : j < n) : (upto n k f).getD j 0 = f j := by
  rw [List.getD_eq_getElem?_getD, List.getElem?_eq_getElem (by rw [upto_length]; exact h2)]
  simp [upto, h]
/-- Word t of the schedule. -/
def ww (b : List Nat) (t : Nat) : Nat := (ring b (t + 1)).getD (t % 16) 0
theorem ww_old (b : List Nat) (t : Nat) (h : t < 16) : ww b t = b.getD t 0 := by
  have e : ∀ k, k ≤ 16 → ring b k = b := by
    intro k
    induction k with
    | zero => intro _; rfl
    | succ k ih => intro hk; rw [ring_old b k (by omega)]; exact ih (by omega)
  unfold ww
  rw [e _ (by omega), Nat.mod_eq_of_lt h]
theorem ring_keeps (b : List Nat) (hb : b.length = 16) (j d : Nat) (hd : d < 16) : (ring b (j + d + 1)).getD (j % 16) 0 = ww b j := by
  induction d with
  | zero => rfl
  | succ d ih =>
    by_cases h : j + (d + 1) < 16
    · rw [ring_old b _ h]; exact ih (by omega)
    · rw [ring_new b _ h, List.getD_eq_getElem?_getD, List.getElem?_set_ne (by omega), ← List.getD_eq_getElem?_getD]; exact ih (by omega)
theorem ad_comm (a b : Nat) : ad a b = ad b a := by unfold ad; rw [Nat.add_comm]
theorem ww_new (b : List Nat) (hb : b.length = 16) (t : Nat) (h : 16 ≤ t) : ww b t = ad (ad (ad (sg1 (ww b (t - 2))) (ww b (t - 7))) (sg0 (ww b (t - 15)))) (ww b (t - 16)) := by
  have hr : (ring b t).length = 16 := ring_length b hb t
  have e2 : (ring b t).getD ((t - 2) % 16) 0 = ww b (t - 2) := by have := ring_keeps b hb (t - 2) 1 (by omega); rwa [show t - 2 + 1 + 1 = t by omega] at this
  have e7 : (ring b t).getD ((t - 7) % 16) 0 = ww b (t - 7) := by have := ring_keeps b hb (t - 7) 6 (by omega); rwa [show t - 7 + 6 + 1 = t by omega] at this
  have e15 : (ring b t).getD ((t - 15) % 16) 0 = ww b (t - 15) := by have := ring_keeps b hb (t - 15) 14 (by omega); rwa [show t - 15 + 14 + 1 = t by omega] at this
  have e16 : (ring b t).getD (t % 16) 0 = ww b (t - 16) := by have := ring_keeps b hb (t - 16) 15 (by omega); rwa [show t - 16 + 15 + 1 = t by omega, show (t - 16) % 16 = t % 16 by omega] at this
  have h1 : ww b t = ringNew (ring b t) t := by
    unfold ww
    rw [ring_new b t (by omega), List.getD_eq_getElem?_getD, List.getElem?_set_self (by omega), Option.getD_some]
  rw [h1]
  unfold ringNew
  rw [e2, e7, e15, e16, ad_comm]
theorem shr10 (a : Nat) : ((a : Int) / 1024) = ((sr a 10 : Nat) : Int) := by unfold sr; omega
theorem shr3 (a : Nat) : ((a : Int) / 8) = ((sr a 3 : Nat) : Int) := by unfold sr; omega
theorem words_get (l : List Nat) (k : Nat) (h : k < 16) : (words l).getD k 0 = wd l k := by
  unfold words
  rw [List.getD_eq_getElem?_getD, List.getElem?_map, List.getElem?_range h, Option.map_some, Option.getD_some]
theorem ww_word (l : List Nat) (k : Nat) (h : k < 16) : ww (words l) k = wd l k := (ww_old _ _ h).trans (words_get l k h)
def sch (l : List Nat) : List Nat := (List.range 64).map (ww (words l))
attribute [local go_sem high] wrap_ad bits_xo bits_an bits_orr bits_nt shr10 shr3 wrap_cv shl24 shl16 shl8
set_option maxRecDepth 20000 in
theorem schedule (w : World) (l : List Nat) (x : Value) (hx : Sl w x l) (h64 : 64 ≤ l.length) (hm : l.length ≤ 1048576) :
    Calls Try.prog 103 #[x] w fun e w' => e = .returned (agg .u32 (sch l)) ∧ Below w.heap.size w w' := by
  obtain ⟨A, c, rfl, hc, -, hn, hr⟩ := hx
  cases A with
  | none => have := hn rfl; omega
  | some ad =>
  obtain ⟨b, o, rfl, hlt, hcell⟩ := hr _ rfl
  have HC := Lib.hid hcell
  clear hcell hr hn
  obtain ⟨n, hN⟩ : ∃ n, n = l.length := ⟨_, rfl⟩
  rw [← hN] at h64 hm hc ⊢
  have HN := Lib.hid hN
  clear hN
  go_enter Try.func103, Try.ntmps103
  go_wp2
  go_loopw [4] (fun i wr => ∃ k : Nat, k ≤ 64 ∧ i = .int .i64 k ∧ blk wr w.heap.size (cl .u32 (zs 64)) 152 ∧ blk wr (w.heap.size + 1) (cl .u32 (upto 64 k (ww (words l)))) 152 ∧ Below w.heap.size w wr) (fun i _ => 64 - (intOf i).toNat)
  case atStart => exact ⟨0, by omega, rfl, blk_alloc (blk_new _ _ _) _, by rw [upto_zero]; exact blk_at _ _ _ (by simp), ((Below.refl _ _).alloc (Nat.le_refl _) _).alloc (by simp) _⟩
  case round =>
    obtain ⟨k, hk, rfl, hb1, hb2, hbel⟩ := hrel
    have hl : (upto 64 k (ww (words l))).length = 64 := upto_length _ _ _
    by_cases hk2 : k < 64
    · have cb : wr.cell? ⟨w.heap.size + 1, k, none⟩ = some (.int .u32 (((upto 64 k (ww (words l))).getD k 0 : Nat) : Int)) := (blk_cell hb2 k).trans (cl_get _ _ _ (by omega))
      have fb : wr.frozen? ⟨w.heap.size + 1, k, none⟩ = false := blk_free hb2 k
      by_cases hk16 : k < 16
      · have hcc : ∀ j, j < n → wr.cell? ⟨b, o + j, none⟩ = some (.int .u8 ((l.getD j 0 : Nat) : Int)) := fun j hj => (hbel.cell (p := ⟨b, o + j, none⟩) hlt).trans (HC.out j _ (cl_get .u8 l j (by have := HN.out; omega)))
        have c0 := hcc (4 * k) (by omega)
        have c1 := hcc (4 * k + 1) (by omega)
        have c2 := hcc (4 * k + 2) (by omega)
        have c3 := hcc (4 * k + 3) (by omega)
        have HB := Lib.hid hb2
        clear hcc hb2
        have i1 : (4 * (k : Int)) < n := by omega
        have i2 : (4 * (k : Int) + 1) < n := by omega
        have i3 : (4 * (k : Int) + 2) < n := by omega
        have i4 : (4 * (k : Int) + 3) < n := by omega
        go_wp2
        refine wp_region_tail (fun n => wr.drewN n) 35 (by kernel_rfl) (by kernel_rfl) ⟨1, rfl⟩ ?_
        simp only [List.take_succ_cons, List.take_zero, List.drop_succ_cons, List.drop_zero]
        repeat (go_big_quiet_step (fail))
        refine wpQuiet_nil ?_
        intro nq
        go_wp2
        go_roundw
        case rel =>
          refine ⟨k + 1, by omega, by go_num, blk_setCell_ne (blk_drewN hb1) _ (by simp), ?_, bel_setCell (bel_drewN hbel nq) (by simp) _⟩
          have e0 := ww_word l k hk16
          have h := blk_setCell (blk_drewN (n := nq) HB.out) k (.int .u32 ((ww (words l) k : Nat) : Int))
          rw [cl_set, upto_set 64 k _ hk2, e0] at h
          have e : wd l k = orr (orr (orr (sl (cv (l[4 * k]?.getD 0)) 24) (sl (cv (l[4 * k + 1]?.getD 0)) 16)) (sl (cv (l[4 * k + 2]?.getD 0)) 8)) (cv (l[4 * k + 3]?.getD 0)) := by simp only [wd, List.getD_eq_getElem?_getD]
          rw [← e]
          exact h
        case measure => simp [intOf]; omega
      · obtain ⟨ι, F, hF, hin⟩ := class_of (fun W => blk W w.heap.size (cl .u32 (zs 64)) 152 ∧ blk W (w.heap.size + 1) (cl .u32 (upto 64 k (ww (words l)))) 152 ∧ Below w.heap.size w W)
        have g2 : ∀ i, (F i).cell? ⟨w.heap.size + 1, k - 2, none⟩ = some (.int .u32 ((ww (words l) (k - 2) : Nat) : Int)) := fun i => (blk_cell (hF i).2.1 _).trans (by rw [cl_get _ _ _ (by omega), upto_get _ _ _ _ (by omega) (by omega)])
        have g7 : ∀ i, (F i).cell? ⟨w.heap.size + 1, k - 7, none⟩ = some (.int .u32 ((ww (words l) (k - 7) : Nat) : Int)) := fun i => (blk_cell (hF i).2.1 _).trans (by rw [cl_get _ _ _ (by omega), upto_get _ _ _ _ (by omega) (by omega)])
        have g15 : ∀ i, (F i).cell? ⟨w.heap.size + 1, k - 15, none⟩ = some (.int .u32 ((ww (words l) (k - 15) : Nat) : Int)) := fun i => (blk_cell (hF i).2.1 _).trans (by rw [cl_get _ _ _ (by omega), upto_get _ _ _ _ (by omega) (by omega)])
        have g16 : ∀ i, (F i).cell? ⟨w.heap.size + 1, k - 16, none⟩ = some (.int .u32 ((ww (words l) (k - 16) : Nat) : Int)) := fun i => (blk_cell (hF i).2.1 _).trans (by rw [cl_get _ _ _ (by omega), upto_get _ _ _ _ (by omega) (by omega)])
        have gb : ∀ i, (F i).cell? ⟨w.heap.size + 1, k, none⟩ = some (.int .u32 (((upto 64 k (ww (words l))).getD k 0 : Nat) : Int)) := fun i => (blk_cell (hF i).2.1 k).trans (cl_get _ _ _ (by omega))
        have fF : ∀ i, (F i).frozen? ⟨w.heap.size + 1, k, none⟩ = false := fun i => blk_free (hF i).2.1 k
        have h0 := hin wr.drew ⟨blk_drew hb1, blk_drew hb2, hbel.drew⟩
        have hne : Nonempty ι := ⟨h0.choose⟩
        have HF := Lib.hid hF
        have HI := Lib.hid hin
        have H0 := Lib.hid h0
        clear hF hin hb1 hb2 h0 cb fb
        have j2 : (0 : Int) ≤ (k : Int) - 2 := by omega
        have j7 : (0 : Int) ≤ (k : Int) - 7 := by omega
        have j15 : (0 : Int) ≤ (k : Int) - 15 := by omega
        have j16 : (0 : Int) ≤ (k : Int) - 16 := by omega
        have l2 : (k : Int) - 2 < 64 := by omega
        have l7 : (k : Int) - 7 < 64 := by omega
        have l15 : (k : Int) - 15 < 64 := by omega
        have l16 : (k : Int) - 16 < 64 := by omega
        go_wp2
        refine wp_region_all F (by kernel_rfl) (by kernel_rfl) H0.out ?_
        repeat (go_big_quiet_step (fail))
        refine wpQuiet_nil ?_
        intro i
        have H1 := Lib.hid (HI.out (F i).drew ⟨blk_drew (HF.out i).1, blk_drew (HF.out i).2.1, (HF.out i).2.2.drew⟩)
        go_wp2
        refine wp_region_tail F 29 (by kernel_rfl) (by kernel_rfl) H1.out ?_
        simp only [List.take_succ_cons, List.take_zero, List.drop_succ_cons, List.drop_zero]
        repeat (go_big_quiet_step ((go_at_call 104; exact quiet_below HF.out HI.out (fun _ _ h hb => ⟨blk_keep h.1 hb, blk_keep h.2.1 hb, bel_trans h.2.2 hb h.2.2.size⟩) (rotate _ _ (by decide) (by decide) _))))
        refine wpQuiet_nil ?_
        intro j
        go_wp2
        have e := ww_new (words l) (words_length l) k (by omega)
        unfold sg1 sg0 at e
        rw [← e]
        refine ⟨⟨k + 1, by omega, by go_num, blk_setCell_ne (HF.out j).1 _ (by simp), ?_, bel_setCell (HF.out j).2.2 (by simp) _⟩, by simp [intOf]; omega⟩
        have h := blk_setCell (HF.out j).2.1 k (.int .u32 ((ww (words l) k : Nat) : Int))
        rw [cl_set, upto_set 64 k _ hk2] at h
        exact h
    · obtain rfl : k = 64 := by omega
      rw [upto_full 64 (ww (words l)), show (List.range 64).map (ww (words l)) = sch l from rfl] at hb2
      have hl : (sch l).length = 64 := by simp [sch]
      have hb3 := bk_of hb1
      have hb4 := bk_of hb2
      go_wp2
      refine ret_w64 rfl rfl (blk_setRow hb1 (cl .u32 (sch l))) hl rfl ⟨rfl, bel_setRow hbel (Nat.le_refl _) _⟩
end Go.Proofs.Ytlgpipdeckdmjaa.Ref
