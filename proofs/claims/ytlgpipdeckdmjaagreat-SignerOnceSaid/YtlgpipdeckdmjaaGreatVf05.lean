/-
  Several texts laid into one (merge.py): Ref1, Ref2, Ref3.
-/
import Derived.Test.YtlgpipdeckdmjaaGreatVf04
/-
  SHA-256 as the reference has it: rotation, constants, padding.
-/
set_option linter.unusedVariables false
set_option linter.unusedSimpArgs false
namespace Go.Proofs.YtlgpipdeckdmjaaGreat.Ref
open Go.RowKit Base Reg Types Slice Sha
theorem rot_bits (x n : Nat) : bits BinOp.or IntKind.u32 ((x : Int) / 2 ^ n) ((x : Int) * 2 ^ (32 - n) % 4294967296) = ((ro x n : Nat) : Int) := by
  have h1 : ((x : Int) * 2 ^ (32 - n) % 4294967296) = ((sl x (32 - n) : Nat) : Int) := by
    unfold sl
    rw [show ((x : Int) * 2 ^ (32 - n)) = ((x * 2 ^ (32 - n) : Nat) : Int) by rw [Int.natCast_mul, Int.natCast_pow]; rfl]
    exact mod32 _
  have h2 : ((x : Int) / 2 ^ n) = ((sr x n : Nat) : Int) := by
    unfold sr
    rw [Int.natCast_ediv, Int.natCast_pow]; rfl
  rw [h1, h2, bits_orr]
  unfold ro orr
  rw [Nat.or_comm]
theorem rotate (x : Nat) (m : Int) (h1 : 1 ≤ m) (h2 : m ≤ 31) (w : World) : Calls Tryz.prog 105 #[.int .u32 (x : Int), .int .i64 m] w fun e w' => e = .returned (.int .u32 (ro x m.toNat : Int)) ∧ Below w.heap.size w w' := by
  obtain ⟨n, rfl⟩ := Int.eq_ofNat_of_zero_le (by omega : 0 ≤ m)
  go_enter Tryz.func105, Tryz.ntmps105
  go_wp2_with fail
  refine wp_region_all (fun n => w.drewN n) (by kernel_rfl) (by kernel_rfl) ⟨1, rfl⟩ ?_
  repeat (go_big_quiet_step (fail))
  refine wpQuiet_nil ?_
  intro i
  go_wp2
  go_ret
  exact ⟨by rw [rot_bits]; simp, bel_drewN (Below.refl _ _) i⟩
set_option maxRecDepth 100000 in
theorem constants (w : World) : Calls Tryz.prog 102 #[] w fun e w' => e = .returned (agg .u32 kon) ∧ Below w.heap.size w w' := by
  have hb := build_kon
  have hl : kon.length = 64 := rfl
  go_enter Tryz.func102, Tryz.ntmps102
  go_wp2
  exact ret_w64 rfl rfl (blk_new w (cl .u32 kon) _) rfl rfl ⟨rfl, (Below.refl _ _).alloc (Nat.le_refl _) _⟩
theorem padded (w : World) (M : List Nat) (x : Value) (hx : Sl w x M) (hM : M.length ≤ 1000000) :
    Calls Tryz.prog 103 #[x] w fun e w' => ∃ v, e = .returned v ∧ Own w' w.heap.size v (M ++ pad M.length) ∧ Below w.heap.size w w' := by
  have HX := Lib.hid hx
  obtain ⟨A0, c0, rfl, -⟩ := hx
  have hbz := zc_le M.length
  go_enter Tryz.func103, Tryz.ntmps103
  go_wp2_with (first
    | (at_builtin
       (refine wpList_append_bytes rfl (.tmp 6) (.tmp 7) rfl rfl rfl (own_empty w) (HX.out.keep ((Below.refl _ _).alloc (Nat.le_refl _) _)) (by simp; omega) (by simp) ?_; intro v1 w1 ho1 hg1)
       rw [List.nil_append] at ho1
       have hb1 : Below w.heap.size w w1 := ((Below.refl w.heap.size w).alloc (Nat.le_refl _) (.cells #[] 5)).grown hg1 (by simp only [alloc_size]; omega) (by intro k hk; have : w.heap.size = k := (by simpa [Act.eval, Value.ownBlock] using hk); omega)
       have H1 := Lib.hid ho1
       have HB1 := Lib.hid hb1
       clear ho1 hg1 hb1)
    | (at_builtin
       (refine wpList_append_bytes rfl (.tmp 8) (.tmp 9) rfl rfl rfl (own_keep H1.out ((Below.refl _ _).alloc (Nat.le_refl _) _)) (sl_lit w1 [128] 1 rfl (by simp) rfl) (by simp; omega) (by simp only [alloc_size]; have := HB1.out.size; omega) ?_; intro v2 w2 ho2 hg2)
       have hb2 : Below w.heap.size w w2 := (bel_trans HB1.out ((Below.refl _ w1).alloc (Nat.le_refl _) (.cells #[.int .u8 128] 5)) HB1.out.size).grown hg2 (by simp only [alloc_size]; have := HB1.out.size; omega) (by intro k hk; exact own_block H1.out k (by simpa [Act.eval] using hk))
       clear hg2))
  have A0 : Own w2 w.heap.size v2 (M ++ zeros M.length 0) := ho2
  clear ho2 H1 HB1
  go_loopw [3] (fun v wr => ∃ k, k ≤ zc M.length ∧ Own wr w.heap.size v (M ++ zeros M.length k) ∧ Below w.heap.size w wr) (fun v _ => M.length + zc M.length + 1 - slen v)
  case atStart => exact ⟨0, by omega, A0, hb2⟩
  case round =>
    obtain ⟨k, hk, ho, hb⟩ := hrel
    clear A0 hb2
    obtain ⟨A, c, rfl⟩ := own_slice ho
    have HO := Lib.hid ho
    obtain ⟨L, hL⟩ : ∃ L, L = M ++ zeros M.length k := ⟨_, rfl⟩
    have hl : L.length = M.length + (k + 1) := by rw [hL, List.length_append, zeros_length]
    rw [← hL] at HO
    rw [← hL]
    have HL := Lib.hid hL
    clear ho hL
    by_cases hkz : k < zc M.length
    · have ht : ((M.length : Int) + ((k : Int) + 1)) % 64 ≠ 56 := by have := zc_before M.length k hkz; omega
      go_wp2_with (
        at_builtin
        (refine wpList_append_bytes rfl (.tmp 15) (.tmp 16) rfl rfl rfl (own_keep HO.out ((Below.refl _ _).alloc (Nat.le_refl _) _)) (sl_lit wr [0] 1 rfl (by simp) rfl) (by simp; omega) (by simp only [alloc_size]; have := hb.size; omega) ?_; intro v1 w2 ho1 hg1))
      have hb2 := (bel_trans hb ((Below.refl _ wr).alloc (Nat.le_refl _) (.cells #[.int .u8 0] 5)) hb.size).grown hg1 (by simp only [alloc_size]; have := hb.size; omega) (fun k hk => own_block HO.out k (by simpa [Act.eval] using hk))
      rw [HL.out, List.append_assoc, zeros_succ] at ho1
      refine ⟨⟨k + 1, by omega, ho1, hb2⟩, ?_⟩
      rw [slen_own ho1, slen_own HO.out, hl, List.length_append, zeros_length]
      omega
    · obtain rfl : k = zc M.length := by omega
      have ht : ((M.length : Int) + ((zc M.length : Int) + 1)) % 64 = 56 := by have := zc_at M.length; omega
      clear hkz
      go_wp2_with fail
      go_loopw [3, 5] (fun v i wr => ∃ k : Nat, k ≤ 8 ∧ i = .int .i64 (7 - (k : Int)) ∧ Own wr w.heap.size v (M ++ (zeros M.length (zc M.length) ++ lbs M.length k)) ∧ Below w.heap.size w wr) (fun _ i _ => (intOf i + 1).toNat)
      case atStart =>
        have h := HO.out
        rw [HL.out] at h
        exact ⟨0, by omega, rfl, by simpa [lbs, ← HL.out] using HO.out, hb⟩
      case round =>
        clear HO hb ht hl hk HL
        obtain ⟨k, hk, rfl, ho, hb⟩ := hrel
        obtain ⟨A2, c2, rfl⟩ := own_slice ho
        have HO := Lib.hid ho
        obtain ⟨L, hL⟩ : ∃ L, L = M ++ (zeros M.length (zc M.length) ++ lbs M.length k) := ⟨_, rfl⟩
        have hl : L.length = M.length + (zc M.length + 1 + k) := by rw [hL, List.length_append, List.length_append, zeros_length, lbs_length]
        rw [← hL] at HO
        rw [← hL]
        have HL := Lib.hid hL
        have HN := Lib.hid hl
        clear ho hL hl
        by_cases hk8 : k < 8
        · have i1 : (0 : Int) ≤ 7 - (k : Int) := by omega
          have hlb : ((M.length : Int) * 8 / 2 ^ (8 * (7 - k)) % 256) = ((lb M.length (7 - k) : Nat) : Int) := by simp [lb]
          go_wp2_with (
            at_builtin
            (refine wpList_append_bytes rfl (.tmp 26) (.tmp 32) rfl rfl rfl (own_keep HO.out ((Below.refl _ _).alloc (Nat.le_refl _) _)) (sl_lit wr [lb M.length (7 - k)] 1 rfl (by simp) rfl) (by have := HN.out; simp only [List.length_cons, List.length_nil]; omega) (by simp only [alloc_size]; have := hb.size; omega) ?_; intro v1 w2 ho1 hg1))
          have hb2 := (bel_trans hb ((Below.refl _ wr).alloc (Nat.le_refl _) (.cells #[.int .u8 ((lb M.length (7 - k) : Nat) : Int)] 5)) hb.size).grown hg1 (by simp only [alloc_size]; have := hb.size; omega) (fun k hk => own_block HO.out k (by simpa [Act.eval] using hk))
          rw [HL.out, List.append_assoc, List.append_assoc, lbs_succ] at ho1
          go_roundw
          case rel => exact ⟨k + 1, by omega, by go_num, ho1, hb2⟩
          case measure => simp [intOf]; omega
        · obtain rfl : k = 8 := by omega
          have i1 : (7 : Int) - ((8 : Nat) : Int) = -1 := by omega
          go_wp2_with fail
          go_ret
          have e : L = M ++ pad M.length := HL.out
          refine ⟨.slice A2 L.length c2, rfl, ?_, hb⟩
          rw [← e]
          exact HO.out
end Go.Proofs.YtlgpipdeckdmjaaGreat.Ref
/-
  SHA-256 as the reference has it: the schedule of a block.
-/
set_option linter.unusedVariables false
set_option linter.unusedSimpArgs false
namespace Go.Proofs.YtlgpipdeckdmjaaGreat.Ref
open Go.RowKit Base Reg Types Slice Sha
theorem upto_get (n k : Nat) (f : Nat → Nat) (j : Nat) (h : j < k) (h2 : j < n) : (upto n k f).getD j 0 = f j := by
  rw [List.getD_eq_getElem?_getD, List.getElem?_eq_getElem (by rw [upto_length]; exact h2)]
  simp [upto, h]
/-- Word t of the schedule. -/
def ww (b : List Nat) (t : Nat) : Nat := (ring b (t + 1)).getD (t % 16) 0
theorem ww_old (b : List Nat) (t : Nat) (h : t < 16) : ww b t = b.getD t 0 := by
  have e : ∀ k, k ≤ 16 → ring b k = b := by
    intro k
    induction k with
    | zero => intro _; rfl
    | succ k ih => intro hk; rw [ring_old b k (by omega)]; exact ih (by omega)
  unfold ww
  rw [e _ (by omega), Nat.mod_eq_of_lt h]
theorem ring_keeps (b : List Nat) (hb : b.length = 16) (j d : Nat) (hd : d < 16) : (ring b (j + d + 1)).getD (j % 16) 0 = ww b j := by
  induction d with
  | zero => rfl
  | succ d ih =>
    by_cases h : j + (d + 1) < 16
    · rw [ring_old b _ h]; exact ih (by omega)
    · rw [ring_new b _ h, List.getD_eq_getElem?_getD, List.getElem?_set_ne (by omega), ← List.getD_eq_getElem?_getD]; exact ih (by omega)
theorem ad_comm (a b : Nat) : ad a b = ad b a := by unfold ad; rw [Nat.add_comm]
theorem ww_new (b : List Nat) (hb : b.length = 16) (t : Nat) (h : 16 ≤ t) : ww b t = ad (ad (ad (sg1 (ww b (t - 2))) (ww b (t - 7))) (sg0 (ww b (t - 15)))) (ww b (t - 16)) := by
  have hr : (ring b t).length = 16 := ring_length b hb t
  have e2 : (ring b t).getD ((t - 2) % 16) 0 = ww b (t - 2) := by have := ring_keeps b hb (t - 2) 1 (by omega); rwa [show t - 2 + 1 + 1 = t by omega] at this
  have e7 : (ring b t).getD ((t - 7) % 16) 0 = ww b (t - 7) := by have := ring_keeps b hb (t - 7) 6 (by omega); rwa [show t - 7 + 6 + 1 = t by omega] at this
  have e15 : (ring b t).getD ((t - 15) % 16) 0 = ww b (t - 15) := by have := ring_keeps b hb (t - 15) 14 (by omega); rwa [show t - 15 + 14 + 1 = t by omega] at this
  have e16 : (ring b t).getD (t % 16) 0 = ww b (t - 16) := by have := ring_keeps b hb (t - 16) 15 (by omega); rwa [show t - 16 + 15 + 1 = t by omega, show (t - 16) % 16 = t % 16 by omega] at this
  have h1 : ww b t = ringNew (ring b t) t := by
    unfold ww
    rw [ring_new b t (by omega), List.getD_eq_getElem?_getD, List.getElem?_set_self (by omega), Option.getD_some]
  rw [h1]
  unfold ringNew
  rw [e2, e7, e15, e16, ad_comm]
theorem shr10 (a : Nat) : ((a : Int) / 1024) = ((sr a 10 : Nat) : Int) := by unfold sr; omega
theorem shr3 (a : Nat) : ((a : Int) / 8) = ((sr a 3 : Nat) : Int) := by unfold sr; omega
theorem words_get (l : List Nat) (k : Nat) (h : k < 16) : (words l).getD k 0 = wd l k := by
  unfold words
  rw [List.getD_eq_getElem?_getD, List.getElem?_map, List.getElem?_range h, Option.map_some, Option.getD_some]
theorem ww_word (l : List Nat) (k : Nat) (h : k < 16) : ww (words l) k = wd l k := (ww_old _ _ h).trans (words_get l k h)
def sch (l : List Nat) : List Nat := (List.range 64).map (ww (words l))
attribute [local go_sem high] wrap_ad bits_xo bits_an bits_orr bits_nt shr10 shr3 wrap_cv shl24 shl16 shl8
set_option maxRecDepth 20000 in
theorem schedule (w : World) (l : List Nat) (x : Value) (hx : Sl w x l) (h64 : 64 ≤ l.length) (hm : l.length ≤ 1048576) :
    Calls Tryz.prog 104 #[x] w fun e w' => e = .returned (agg .u32 (sch l)) ∧ Below w.heap.size w w' := by
  obtain ⟨A, c, rfl, hc, -, hn, hr⟩ := hx
  cases A with
  | none => have := hn rfl; omega
  | some ad =>
  obtain ⟨b, o, rfl, hlt, hcell⟩ := hr _ rfl
  have HC := Lib.hid hcell
  clear hcell hr hn
  obtain ⟨n, hN⟩ : ∃ n, n = l.length := ⟨_, rfl⟩
  rw [← hN] at h64 hm hc ⊢
  have HN := Lib.hid hN
  clear hN
  go_enter Tryz.func104, Tryz.ntmps104
  go_wp2
  go_loopw [4] (fun i wr => ∃ k : Nat, k ≤ 64 ∧ i = .int .i64 k ∧ blk wr w.heap.size (cl .u32 (zs 64)) 157 ∧ blk wr (w.heap.size + 1) (cl .u32 (upto 64 k (ww (words l)))) 157 ∧ Below w.heap.size w wr) (fun i _ => 64 - (intOf i).toNat)
  case atStart => exact ⟨0, by omega, rfl, blk_alloc (blk_new _ _ _) _, by rw [upto_zero]; exact blk_at _ _ _ (by simp), ((Below.refl _ _).alloc (Nat.le_refl _) _).alloc (by simp) _⟩
  case round =>
    obtain ⟨k, hk, rfl, hb1, hb2, hbel⟩ := hrel
    have hl : (upto 64 k (ww (words l))).length = 64 := upto_length _ _ _
    by_cases hk2 : k < 64
    · have cb : wr.cell? ⟨w.heap.size + 1, k, none⟩ = some (.int .u32 (((upto 64 k (ww (words l))).getD k 0 : Nat) : Int)) := (blk_cell hb2 k).trans (cl_get _ _ _ (by omega))
      have fb : wr.frozen? ⟨w.heap.size + 1, k, none⟩ = false := blk_free hb2 k
      by_cases hk16 : k < 16
      · have hcc : ∀ j, j < n → wr.cell? ⟨b, o + j, none⟩ = some (.int .u8 ((l.getD j 0 : Nat) : Int)) := fun j hj => (hbel.cell (p := ⟨b, o + j, none⟩) hlt).trans (HC.out j _ (cl_get .u8 l j (by have := HN.out; omega)))
        have c0 := hcc (4 * k) (by omega)
        have c1 := hcc (4 * k + 1) (by omega)
        have c2 := hcc (4 * k + 2) (by omega)
        have c3 := hcc (4 * k + 3) (by omega)
        have HB := Lib.hid hb2
        clear hcc hb2
        have i1 : (4 * (k : Int)) < n := by omega
        have i2 : (4 * (k : Int) + 1) < n := by omega
        have i3 : (4 * (k : Int) + 2) < n := by omega
        have i4 : (4 * (k : Int) + 3) < n := by omega
        go_wp2
        refine wp_region_tail (fun n => wr.drewN n) 35 (by kernel_rfl) (by kernel_rfl) ⟨1, rfl⟩ ?_
        simp only [List.take_succ_cons, List.take_zero, List.drop_succ_cons, List.drop_zero]
        repeat (go_big_quiet_step (fail))
        refine wpQuiet_nil ?_
        intro nq
        go_wp2
        go_roundw
        case rel =>
          refine ⟨k + 1, by omega, by go_num, blk_setCell_ne (blk_drewN hb1) _ (by simp), ?_, bel_setCell (bel_drewN hbel nq) (by simp) _⟩
          have e0 := ww_word l k hk16
          have h := blk_setCell (blk_drewN (n := nq) HB.out) k (.int .u32 ((ww (words l) k : Nat) : Int))
          rw [cl_set, upto_set 64 k _ hk2, e0] at h
          have e : wd l k = orr (orr (orr (sl (cv (l[4 * k]?.getD 0)) 24) (sl (cv (l[4 * k + 1]?.getD 0)) 16)) (sl (cv (l[4 * k + 2]?.getD 0)) 8)) (cv (l[4 * k + 3]?.getD 0)) := by simp only [wd, List.getD_eq_getElem?_getD]
          rw [← e]
          exact h
        case measure => simp [intOf]; omega
      · obtain ⟨ι, F, hF, hin⟩ := class_of (fun W => blk W w.heap.size (cl .u32 (zs 64)) 157 ∧ blk W (w.heap.size + 1) (cl .u32 (upto 64 k (ww (words l)))) 157 ∧ Below w.heap.size w W)
        have g2 : ∀ i, (F i).cell? ⟨w.heap.size + 1, k - 2, none⟩ = some (.int .u32 ((ww (words l) (k - 2) : Nat) : Int)) := fun i => (blk_cell (hF i).2.1 _).trans (by rw [cl_get _ _ _ (by omega), upto_get _ _ _ _ (by omega) (by omega)])
        have g7 : ∀ i, (F i).cell? ⟨w.heap.size + 1, k - 7, none⟩ = some (.int .u32 ((ww (words l) (k - 7) : Nat) : Int)) := fun i => (blk_cell (hF i).2.1 _).trans (by rw [cl_get _ _ _ (by omega), upto_get _ _ _ _ (by omega) (by omega)])
        have g15 : ∀ i, (F i).cell? ⟨w.heap.size + 1, k - 15, none⟩ = some (.int .u32 ((ww (words l) (k - 15) : Nat) : Int)) := fun i => (blk_cell (hF i).2.1 _).trans (by rw [cl_get _ _ _ (by omega), upto_get _ _ _ _ (by omega) (by omega)])
        have g16 : ∀ i, (F i).cell? ⟨w.heap.size + 1, k - 16, none⟩ = some (.int .u32 ((ww (words l) (k - 16) : Nat) : Int)) := fun i => (blk_cell (hF i).2.1 _).trans (by rw [cl_get _ _ _ (by omega), upto_get _ _ _ _ (by omega) (by omega)])
        have gb : ∀ i, (F i).cell? ⟨w.heap.size + 1, k, none⟩ = some (.int .u32 (((upto 64 k (ww (words l))).getD k 0 : Nat) : Int)) := fun i => (blk_cell (hF i).2.1 k).trans (cl_get _ _ _ (by omega))
        have fF : ∀ i, (F i).frozen? ⟨w.heap.size + 1, k, none⟩ = false := fun i => blk_free (hF i).2.1 k
        have h0 := hin wr.drew ⟨blk_drew hb1, blk_drew hb2, hbel.drew⟩
        have hne : Nonempty ι := ⟨h0.choose⟩
        have HF := Lib.hid hF
        have HI := Lib.hid hin
        have H0 := Lib.hid h0
        clear hF hin hb1 hb2 h0 cb fb
        have j2 : (0 : Int) ≤ (k : Int) - 2 := by omega
        have j7 : (0 : Int) ≤ (k : Int) - 7 := by omega
        have j15 : (0 : Int) ≤ (k : Int) - 15 := by omega
        have j16 : (0 : Int) ≤ (k : Int) - 16 := by omega
        have l2 : (k : Int) - 2 < 64 := by omega
        have l7 : (k : Int) - 7 < 64 := by omega
        have l15 : (k : Int) - 15 < 64 := by omega
        have l16 : (k : Int) - 16 < 64 := by omega
        go_wp2
        refine wp_region_all F (by kernel_rfl) (by kernel_rfl) H0.out ?_
        repeat (go_big_quiet_step (fail))
        refine wpQuiet_nil ?_
        intro i
        have H1 := Lib.hid (HI.out (F i).drew ⟨blk_drew (HF.out i).1, blk_drew (HF.out i).2.1, (HF.out i).2.2.drew⟩)
        go_wp2
        refine wp_region_tail F 29 (by kernel_rfl) (by kernel_rfl) H1.out ?_
        simp only [List.take_succ_cons, List.take_zero, List.drop_succ_cons, List.drop_zero]
        repeat (go_big_quiet_step ((go_at_call 105; exact quiet_below HF.out HI.out (fun _ _ h hb => ⟨blk_keep h.1 hb, blk_keep h.2.1 hb, bel_trans h.2.2 hb h.2.2.size⟩) (rotate _ _ (by decide) (by decide) _))))
        refine wpQuiet_nil ?_
        intro j
        go_wp2
        have e := ww_new (words l) (words_length l) k (by omega)
        unfold sg1 sg0 at e
        rw [← e]
        refine ⟨⟨k + 1, by omega, by go_num, blk_setCell_ne (HF.out j).1 _ (by simp), ?_, bel_setCell (HF.out j).2.2 (by simp) _⟩, by simp [intOf]; omega⟩
        have h := blk_setCell (HF.out j).2.1 k (.int .u32 ((ww (words l) k : Nat) : Int))
        rw [cl_set, upto_set 64 k _ hk2] at h
        exact h
    · obtain rfl : k = 64 := by omega
      rw [upto_full 64 (ww (words l)), show (List.range 64).map (ww (words l)) = sch l from rfl] at hb2
      have hl : (sch l).length = 64 := by simp [sch]
      have hb3 := bk_of hb1
      have hb4 := bk_of hb2
      go_wp2
      refine ret_w64 rfl rfl (blk_setRow hb1 (cl .u32 (sch l))) hl rfl ⟨rfl, bel_setRow hbel (Nat.le_refl _) _⟩
end Go.Proofs.YtlgpipdeckdmjaaGreat.Ref
/-
  SHA-256 as the reference has it: the digest.
-/
set_option linter.unusedVariables false
set_option linter.unusedSimpArgs false
namespace Go.Proofs.YtlgpipdeckdmjaaGreat.Ref
open Go.RowKit Base Reg Types Slice Sha
/-- v[k:k+m]. -/
theorem Sl.sub {w : World} {b o c k m : Nat} {l : List Nat} (h : Sl w (.slice (some ⟨b, o, none⟩) l.length c) l) (hk : k + m ≤ l.length) :
    Sl w (.slice (if c = k then some ⟨b, o, none⟩ else some ⟨b, o + k, none⟩) m (c - k)) ((l.drop k).take m) := by
  obtain ⟨A, c', hv, hc, hl, hn, hr⟩ := h
  cases hv
  obtain ⟨b', o', he, hlt, hcell⟩ := hr _ rfl
  cases he
  have hm : ((l.drop k).take m).length = m := by simp; omega
  refine ⟨_, _, by rw [hm], by omega, by rw [cl_length, Nat.mul_one], ?_, ?_⟩
  · intro h; split at h <;> cases h
  · intro ad had
    have hget : ∀ j u, (cl .u8 ((l.drop k).take m))[j]? = some u → (cl .u8 l)[k + j]? = some u := by
      intro j u hj
      have e : (cl .u8 ((l.drop k).take m)) = ((cl .u8 l).drop k).take m := by simp [cl]
      rw [e, List.getElem?_take] at hj
      split at hj
      · rwa [List.getElem?_drop] at hj
      · cases hj
    by_cases hck : c = k
    · rw [if_pos hck] at had
      cases had
      refine ⟨_, _, rfl, hlt, fun j u hj => ?_⟩
      have : m = 0 := by omega
      subst this
      simp [cl] at hj
    · rw [if_neg hck] at had
      cases had
      refine ⟨_, _, rfl, hlt, fun j u hj => ?_⟩
      have := hcell _ _ (hget j u hj)
      rwa [← Nat.add_assoc] at this
theorem words_take (l : List Nat) (h : 64 ≤ l.length) : words (l.take 64) = words l := by
  have := words_append (l.take 64) (l.drop 64) (by simp; omega)
  rw [List.take_append_drop] at this
  exact this.symm
theorem getD_at (l : List Nat) (t : Nat) (h : t < l.length) : l.getD t 0 = l[t] := by rw [List.getD_eq_getElem?_getD, List.getElem?_eq_getElem h, Option.getD_some]
theorem st_succ (s b : List Nat) (t : Nat) : st s b (t + 1) = rnd (st s b t) (kon.getD t 0) (ww b t) := by rw [st, ww]
/-- The state, its first i words added up. -/
def part (s v : List Nat) (i : Nat) : List Nat := (List.range 8).map fun j => if j < i then ad (s.getD j 0) (v.getD j 0) else s.getD j 0
theorem part_length (s v : List Nat) (i : Nat) : (part s v i).length = 8 := by simp [part]
theorem part_zero (s v : List Nat) (hs : s.length = 8) : part s v 0 = s := by
  obtain ⟨a, b, c, d, e, f, g, i, rfl⟩ := eight s hs
  rfl
theorem part_full (s v : List Nat) : part s v 8 = addS v s := by
  simp only [part, addS, ad_comm]
  rfl
theorem part_get (s v : List Nat) (i : Nat) (h : i < 8) : (part s v i).getD i 0 = s.getD i 0 := by
  rw [List.getD_eq_getElem?_getD, List.getElem?_eq_getElem (by rw [part_length]; exact h)]
  simp [part]
theorem part_set (s v : List Nat) (i : Nat) (h : i < 8) : (part s v i).set i (ad (s.getD i 0) (v.getD i 0)) = part s v (i + 1) := by
  apply List.ext_getElem (by simp [part])
  intro j h1 h2
  rw [List.getElem_set]
  simp only [part, List.getElem_map, List.getElem_range]
  by_cases hij : i = j
  · subst hij; simp
  · rw [if_neg hij]
    by_cases hj : j < i
    · rw [if_pos hj, if_pos (by omega)]
    · rw [if_neg hj, if_neg (by omega)]
theorem part_set' (s v : List Nat) (t : Nat) (h : t < 8) (h1 : t < (part s v t).length) (h2 : t < v.length) : (part s v t).set t (ad ((part s v t)[t]'h1) (v[t]'h2)) = part s v (t + 1) := by
  rw [← getD_at _ t h1, ← getD_at _ t h2, part_get s v t h, part_set s v t h]
theorem grown_trans {a b c : World} {r : Option Nat} (h : a.grownBy b r) (k : b.grownBy c r) : a.grownBy c r :=
  ⟨k.os.trans h.os, k.tape.trans h.tape, k.output.trans h.output, Nat.le_trans h.size k.size, fun i hi hr => (k.block i (Nat.lt_of_lt_of_le hi h.size) hr).trans (h.block i hi hr)⟩
theorem grown_bel {a b : World} {r : Option Nat} {B : Nat} (h : Below B a b) (hB : a.heap.size ≤ B) : a.grownBy b r := ⟨h.os, h.tape, h.output, h.size, fun i hi _ => h.block i (Nat.lt_of_lt_of_le hi hB)⟩
attribute [local go_sem high] wrap_ad bits_xo bits_an bits_orr bits_nt unary_nt
set_option maxRecDepth 20000 in
set_option maxHeartbeats 4000000 in
theorem sum_calls (w : World) (M : List Nat) (x : Value) (hx : Sl w x M) (hM : M.length ≤ 1000000) :
    Calls Tryz.prog 84 #[x] w fun e w' => e = .returned (agg .u8 (sha M)) ∧ Below w.heap.size w w' := by
  have HX := Lib.hid hx
  clear hx
  go_enter Tryz.func84, Tryz.ntmps84
  go_wp2_with fail
  refine (constants _).mono ?_
  rintro e w1 ⟨rfl, hb1⟩
  have hB0 := blk_keep (blk_alloc (blk_new w (cl .u8 (zs 32)) 22) (.cells (cl .u32 ini).toArray 156)) hb1
  have hB1 := blk_keep (blk_at (b := w.heap.size + 1) (w.alloc (.cells (cl .u8 (zs 32)).toArray 22)) (cl .u32 ini) 156 (by simp only [alloc_size])) hb1
  have hbel1 := bel_trans (((Below.refl _ w).alloc (Nat.le_refl _) _).alloc (by simp only [alloc_size]; omega) _) hb1 (by simp only [alloc_size]; omega)
  have hs1 := hb1.size
  simp only [alloc_size] at hs1
  have hl : kon.length = 64 := rfl
  have HB0 := Lib.hid hB0
  have HB1 := Lib.hid hB1
  clear hb1 hB0 hB1
  go_wp2_with fail
  refine (padded _ M x (HX.out.keep (bel_trans hbel1 ((Below.refl _ w1).alloc (Nat.le_refl _) _) hbel1.size)) hM).mono ?_
  rintro e w2 ⟨v, rfl, ho, hb2⟩
  have hB2 := blk_keep (blk_new w1 (cl .u32 kon) 157) hb2
  have hbel2 := bel_trans (bel_trans hbel1 ((Below.refl _ w1).alloc (Nat.le_refl _) _) hbel1.size) hb2 (by simp only [alloc_size]; omega)
  have hs2 := hb2.size
  rw [alloc_size] at ho hs2
  have hB0 := blk_below (blk_alloc HB0.out (.cells (cl .u32 kon).toArray 157)) hb2 (by simp only [alloc_size]; omega)
  have hB1 := blk_below (blk_alloc HB1.out (.cells (cl .u32 kon).toArray 157)) hb2 (by simp only [alloc_size]; omega)
  have G0 := Lib.hid hB0
  have G1 := Lib.hid hB1
  have G2 := Lib.hid hB2
  have HP := Lib.hid (SlC.of_own ho)
  have HV := Lib.hid (own_block ho)
  obtain ⟨p, hp⟩ : ∃ p, p = M ++ pad M.length := ⟨_, rfl⟩
  rw [← hp] at ho HP
  obtain ⟨A, c, rfl⟩ := own_slice ho
  have HPE := Lib.hid hp
  have hpl : p.length % 64 = 0 ∧ p.length ≤ 1000200 := by
    have h1 := zc_at M.length
    have h2 := zc_le M.length
    rw [hp, List.length_append]
    simp only [pad, List.length_append, zeros_length, lbs_length]
    omega
  clear ho hb2 hB0 hB1 hB2 HB0 HB1 hp
  go_wp2_with fail
  go_loopw [6] (fun i wr => ∃ (j : Nat) (s : List Nat), i = .int .i64 ((64 * j : Nat) : Int) ∧ 64 * j ≤ p.length ∧ s.length = 8 ∧ (absorb s (p.drop (64 * j))).1 = (absorb ini p).1 ∧ blk wr (w.heap.size + 1) (cl .u32 s) 156 ∧ w2.grownBy wr (some (w.heap.size + 1))) (fun i _ => p.length - (intOf i).toNat)
  case atStart => exact ⟨0, ini, rfl, by omega, rfl, by rw [Nat.mul_zero, List.drop_zero], G1.out, ⟨rfl, rfl, rfl, Nat.le_refl _, fun _ _ _ => rfl⟩⟩
  case round =>
    obtain ⟨j, s, rfl, hj, hs, hab, hB, hg⟩ := hrel
    have hB0 : blk wr w.heap.size (cl .u8 (zs 32)) 22 := blk_grown G0.out hg (by simp)
    have hB2 : blk wr w1.heap.size (cl .u32 kon) 157 := blk_grown G2.out hg (by simp; omega)
    have hsl : Sl wr (.slice A p.length c) p := HP.out.keepBy hg.size (fun b hb => hg.block b (by
      have := HV.out b hb
      obtain ⟨A', c', he, -, -, -, hr⟩ := HP.out
      cases he
      cases A with
      | none => cases hb
      | some ad =>
        obtain ⟨b', o', rfl, hlt, -⟩ := hr _ rfl
        cases hb
        exact hlt) (by have := HV.out b hb; simp; omega))
    have hgs := hg.size
    by_cases hend : 64 * j < p.length
    · have h64 : 64 * j + 64 ≤ p.length := by omega
      have i1 : ((64 * j : Nat) : Int) + 64 ≤ (p.length : Int) := by omega
      have i2 : ((64 * j : Nat) : Int) < (p.length : Int) := by omega
      cases A with
      | none =>
        obtain ⟨A', c', he, hc0, -, hn, -⟩ := hsl
        cases he
        have := hn rfl
        omega
      | some ad =>
        obtain ⟨A', c', he, hcp, -, -, hr⟩ := id hsl
        cases he
        obtain ⟨b, o, rfl, hlt, -⟩ := hr _ rfl
        have hsub := Sl.sub (k := 64 * j) (m := 64) hsl h64
        rw [if_neg (by omega)] at hsub
        have Hsub := Lib.hid hsub
        have HSL := Lib.hid hsl
        have HB0 := Lib.hid hB0
        have HB2 := Lib.hid hB2
        have HB := Lib.hid hB
        have HG := Lib.hid hg
        clear hsub hsl hB0 hB2 hB hg hr
        go_wp2_with fail
        refine (schedule wr _ _ Hsub.out (by simp; omega) (by simp; omega)).mono ?_
        rintro e w3 ⟨rfl, hb3⟩
        obtain ⟨L, hL⟩ : ∃ L, L = sch ((p.drop (64 * j)).take 64) := ⟨_, rfl⟩
        rw [← hL]
        have hLl : L.length = 64 := by rw [hL]; simp [sch]
        have HL := Lib.hid hL
        have hB3 := blk_keep HB.out hb3
        have hk3 := bk_of hB3
        have hs3 := hb3.size
        have hlt1 : w.heap.size + 1 < w3.heap.size := by omega
        have hlt2 : w1.heap.size < w3.heap.size := by omega
        have Hb3 := Lib.hid hb3
        have HB3 := Lib.hid hB3
        clear hL hb3 hB3 HB i1 i2
        go_wp2_with fail
        obtain ⟨bb, hbb⟩ : ∃ bb, bb = words (p.drop (64 * j)) := ⟨_, rfl⟩
        have hLw : L = (List.range 64).map (ww bb) := by rw [hbb, HL.out, sch, words_take _ (by simp; omega)]
        have hbl : bb.length = 16 := by rw [hbb, words_length]
        have HBB := Lib.hid hbb
        have HLW := Lib.hid hLw
        clear hbb hLw
        go_loopw [9] (fun i W => ∃ t : Nat, t ≤ 64 ∧ i = .int .i64 t ∧ blk W (w3.heap.size + 1) (cl .u32 (st s bb t)) 156 ∧ Below (w3.heap.size + 1) ((w3.alloc (.cells (cl .u32 L).toArray 157)).alloc (.cells (cl .u32 s).toArray 156)) W) (fun i _ => 64 - (intOf i).toNat)
        case atStart => exact ⟨0, by omega, rfl, blk_at _ _ _ (by simp only [alloc_size]), Below.refl _ _⟩
        case round =>
          obtain ⟨t, ht, rfl, hv, hbel⟩ := hrel
          by_cases h64 : t < 64
          · obtain ⟨va, vb, vc, vd, ve, vf, vg, vh, e8⟩ := eight (st s bb t) (st_length s bb hs t)
            rw [e8] at hv
            have E8 := Lib.hid e8
            have hL0 := blk_alloc (blk_new w3 (cl .u32 L) 157) (.cells (cl .u32 s).toArray 156)
            have hK0 := blk_alloc (blk_alloc (blk_keep HB2.out Hb3.out) (.cells (cl .u32 L).toArray 157)) (.cells (cl .u32 s).toArray 156)
            have hL1 := blk_below hL0 hbel (by omega)
            have hK1 := blk_below hK0 hbel (by omega)
            obtain ⟨ι, F, hF, hin⟩ := class_of (fun W => blk W (w3.heap.size + 1) (cl .u32 [va, vb, vc, vd, ve, vf, vg, vh]) 156 ∧ blk W w3.heap.size (cl .u32 L) 157 ∧ blk W w1.heap.size (cl .u32 kon) 157 ∧ Below (w3.heap.size + 1) ((w3.alloc (.cells (cl .u32 L).toArray 157)).alloc (.cells (cl .u32 s).toArray 156)) W)
            have hc1 : ∀ i j, (F i).cell? ⟨w3.heap.size + 1, j, none⟩ = (cl .u32 [va, vb, vc, vd, ve, vf, vg, vh])[j]? := fun i j => blk_cell (hF i).1 j
            have hc2 : ∀ i, (F i).cell? ⟨w3.heap.size, t, none⟩ = some (.int .u32 ((L.getD t 0 : Nat) : Int)) := fun i => (blk_cell (hF i).2.1 _).trans (cl_get _ _ _ (by omega))
            have hc3 : ∀ i, (F i).cell? ⟨w1.heap.size, t, none⟩ = some (.int .u32 ((kon.getD t 0 : Nat) : Int)) := fun i => (blk_cell (hF i).2.2.1 _).trans (cl_get _ _ _ (by omega))
            have h0 := hin wr.drew ⟨blk_drew hv, blk_drew hL1, blk_drew hK1, hbel.drew⟩
            have hne : Nonempty ι := ⟨h0.choose⟩
            have hkeep : ∀ W W' : World, (blk W (w3.heap.size + 1) (cl .u32 [va, vb, vc, vd, ve, vf, vg, vh]) 156 ∧ blk W w3.heap.size (cl .u32 L) 157 ∧ blk W w1.heap.size (cl .u32 kon) 157 ∧ Below (w3.heap.size + 1) ((w3.alloc (.cells (cl .u32 L).toArray 157)).alloc (.cells (cl .u32 s).toArray 156)) W) → Below W.heap.size W W' → (blk W' (w3.heap.size + 1) (cl .u32 [va, vb, vc, vd, ve, vf, vg, vh]) 156 ∧ blk W' w3.heap.size (cl .u32 L) 157 ∧ blk W' w1.heap.size (cl .u32 kon) 157 ∧ Below (w3.heap.size + 1) ((w3.alloc (.cells (cl .u32 L).toArray 157)).alloc (.cells (cl .u32 s).toArray 156)) W') :=
              fun _ _ h hb => ⟨blk_keep h.1 hb, blk_keep h.2.1 hb, blk_keep h.2.2.1 hb, bel_trans h.2.2.2 hb (by have := h.2.2.2.size; simp only [alloc_size] at this; omega)⟩
            have HF := Lib.hid hF
            have HI := Lib.hid hin
            have HK := Lib.hid hkeep
            have H0 := Lib.hid h0
            clear hF hin hkeep h0 hv hL0 hK0 hL1 hK1 hbel e8
            go_wp2_with fail
            refine wp_region_all F (by kernel_rfl) (by kernel_rfl) H0.out ?_
            repeat (go_big_quiet_step ((go_at_call 105; exact quiet_below HF.out HI.out HK.out (rotate _ _ (by decide) (by decide) _))))
            refine wpQuiet_nil ?_
            intro i
            have H1 := Lib.hid (HI.out (F i).drew ⟨blk_drew (HF.out i).1, blk_drew (HF.out i).2.1, blk_drew (HF.out i).2.2.1, (HF.out i).2.2.2.drew⟩)
            go_wp2_with fail
            refine wp_region_all F (by kernel_rfl) (by kernel_rfl) H1.out ?_
            repeat (go_big_quiet_step ((go_at_call 105; exact quiet_below HF.out HI.out HK.out (rotate _ _ (by decide) (by decide) _))))
            refine wpQuiet_nil ?_
            intro i2
            have hb5 := bk_of (HF.out i2).1
            go_wp2_with fail
            have ek : kon.getD t 0 = kon[t] := getD_at kon t _
            have el : L.getD t 0 = L[t] := getD_at L t _
            have ew : L.getD t 0 = ww bb t := by rw [HLW.out, List.getD_eq_getElem?_getD, List.getElem?_map, List.getElem?_range h64, Option.map_some, Option.getD_some]
            have es : st s bb (t + 1) = rnd [va, vb, vc, vd, ve, vf, vg, vh] kon[t] L[t] := by
              rw [st_succ, E8.out, ← ew, ek, el]
            refine ⟨⟨t + 1, by omega, by go_num, ?_, bel_setRow (HF.out i2).2.2.2 (Nat.le_refl _) _⟩, by simp [intOf]; omega⟩
            rw [es]
            exact blk_setRow (HF.out i2).1 (cl .u32 (rnd [va, vb, vc, vd, ve, vf, vg, vh] kon[t] L[t]))
          · obtain rfl : t = 64 := by omega
            obtain ⟨v8, hv8⟩ : ∃ v8, v8 = st s bb 64 := ⟨_, rfl⟩
            rw [← hv8] at hv
            have hv8l : v8.length = 8 := by rw [hv8]; exact st_length s bb hs 64
            have HV8 := Lib.hid hv8
            have hH := blk_below (blk_alloc (blk_alloc HB3.out (.cells (cl .u32 L).toArray 157)) (.cells (cl .u32 s).toArray 156)) hbel (by omega)
            have HVV := Lib.hid hv
            have HHH := Lib.hid hH
            clear hv8 hv hH
            go_wp2_with fail
            go_loopw [12] (fun i W => ∃ t : Nat, t ≤ 8 ∧ i = .int .i64 t ∧ blk W (w.heap.size + 1) (cl .u32 (part s v8 t)) 156 ∧ wr.grownBy W (some (w.heap.size + 1))) (fun i _ => 8 - (intOf i).toNat)
            case atStart => exact ⟨0, by omega, rfl, by rw [part_zero s v8 hs]; exact HHH.out, ⟨rfl, rfl, rfl, Nat.le_refl _, fun _ _ _ => rfl⟩⟩
            case round =>
              obtain ⟨t, ht, rfl, hh, hg3⟩ := hrel
              have hpl8 := part_length s v8 t
              by_cases h8 : t < 8
              · have hvw := blk_grown HVV.out hg3 (by simp; omega)
                have c1 : ∀ n, (wr.drewN n).cell? ⟨w3.heap.size + 1, t, none⟩ = some (.int .u32 ((v8.getD t 0 : Nat) : Int)) := fun n => (blk_cell (blk_drewN hvw) _).trans (cl_get _ _ _ (by omega))
                have c2 : ∀ n, (wr.drewN n).cell? ⟨w.heap.size + 1, t, none⟩ = some (.int .u32 (((part s v8 t).getD t 0 : Nat) : Int)) := fun n => (blk_cell (blk_drewN hh) _).trans (cl_get _ _ _ (by omega))
                have c3 : ∀ n, (wr.drewN n).frozen? ⟨w.heap.size + 1, t, none⟩ = false := fun n => blk_free (blk_drewN hh) _
                have HVW := Lib.hid hvw
                have HHW := Lib.hid hh
                clear hvw hh
                go_wp2_with fail
                refine wp_region_tail (fun n => wr.drewN n) 9 (by kernel_rfl) (by kernel_rfl) ⟨1, rfl⟩ ?_
                simp only [List.take_succ_cons, List.take_zero, List.drop_succ_cons, List.drop_zero]
                repeat (go_big_quiet_step (fail))
                refine wpQuiet_nil ?_
                intro nq
                go_wp2_with fail
                refine ⟨⟨t + 1, by omega, by go_num, ?_, ⟨hg3.os, hg3.tape, hg3.output, by simpa using hg3.size, fun k hk hr => (Below.heap_setCell _ _ _ _ (by simp at hr; simpa using hr)).trans (hg3.block k hk hr)⟩⟩, by simp [intOf]; omega⟩
                have h := blk_setCell (blk_drewN (n := nq) HHW.out) t (.int .u32 ((ad ((part s v8 t)[t]'(by omega)) (v8[t]'(by omega)) : Nat) : Int))
                rw [cl_set, part_set' s v8 t h8 (by omega) (by omega)] at h
                exact h
              · obtain rfl : t = 8 := by omega
                rw [part_full, HV8.out] at hh
                have eP : addS (st s bb 64) s = process s bb := by rw [process]
                rw [eP] at hh
                have HHH2 := Lib.hid hh
                clear hh
                go_wp2_with fail
                have eab := absorb_step s (p.drop (64 * j)) (by simp; omega)
                rw [List.drop_drop, ← HBB.out] at eab
                have hg4 : w3.grownBy _ (some (w.heap.size + 1)) := grown_bel ((((Below.refl w3.heap.size w3).alloc (Nat.le_refl _) (.cells (cl .u32 L).toArray 157)).alloc (by simp only [alloc_size]; omega) (.cells (cl .u32 s).toArray 156)).trans (hbel.mono (by omega))) (Nat.le_refl _)
                refine ⟨⟨j + 1, process s bb, by go_num, by omega, process_length _ _, ?_, HHH2.out, grown_trans (grown_trans (grown_trans HG.out (grown_bel Hb3.out (Nat.le_refl _))) hg4) hg3⟩, by simp [intOf]; omega⟩
                rw [← hab, eab, show 64 * (j + 1) = 64 * j + 64 by omega]
    · have hje : 64 * j = p.length := by omega
      rw [hje, List.drop_length, absorb_end s [] (by simp)] at hab
      have hab' : s = (absorb ini (M ++ pad M.length)).1 := by rw [← HPE.out]; exact hab
      have es : sha M = outs s := by rw [hab']; rfl
      have i1 : ¬ ((64 * j : Nat) : Int) < (p.length : Int) := by omega
      have ES := Lib.hid es
      have HB0 := Lib.hid hB0
      have HB := Lib.hid hB
      have HG := Lib.hid hg
      clear hab hab' es hsl hB0 hB2 hB hg
      go_wp2_with fail
      have hgs2 := hgs
      go_loopw [14] (fun i W => ∃ t : Nat, t ≤ 32 ∧ i = .int .i64 t ∧ blk W wr.heap.size (cl .u8 (upto 32 t (ob s))) 22 ∧ Below wr.heap.size wr W) (fun i _ => 32 - (intOf i).toNat)
      case atStart => exact ⟨0, by omega, rfl, by rw [upto_zero]; exact blk_new _ _ _, (Below.refl _ _).alloc (Nat.le_refl _) _⟩
      case round =>
        obtain ⟨t, ht, rfl, hd, hbel⟩ := hrel
        have hu : (upto 32 t (ob s)).length = 32 := upto_length _ _ _
        by_cases h32 : t < 32
        · have f0 := blk_free hd t
          have c0 := (blk_cell hd t).trans (cl_get _ _ _ (by omega))
          have c1 := (blk_cell (blk_below HB.out hbel (blk_lt HB.out)) (t / 4)).trans (cl_get _ _ _ (by omega))
          have HD := Lib.hid hd
          clear hd
          go_wp2_with fail
          have eo : (((s[t / 4]?.getD 0 : Nat) : Int) / 2 ^ (24 - 8 * (t % 4)) % 256) = ((ob s t : Nat) : Int) := by simp [ob, List.getD_eq_getElem?_getD]
          rw [eo]
          refine ⟨⟨t + 1, by omega, by go_num, ?_, bel_setCell hbel (Nat.le_refl _) _⟩, by simp [intOf]; omega⟩
          have h := blk_setCell HD.out t (.int .u8 ((ob s t : Nat) : Int))
          rw [cl_set, upto_set 32 t _ h32] at h
          exact h
        · obtain rfl : t = 32 := by omega
          rw [upto_full, show (List.range 32).map (ob s) = outs s from rfl] at hd
          have hou : (outs s).length = 32 := by simp [outs]
          have hb3 := bk_of hd
          have hb4 := blk_below HB0.out hbel (blk_lt HB0.out)
          have hb5 := bk_of hb4
          have hbelr : Below w.heap.size w _ := hbel2.trans ((⟨HG.out.os, HG.out.tape, HG.out.output, HG.out.size, fun k hk => HG.out.block k (by have := hbel2.size; omega) (by simp; omega)⟩ : Below w.heap.size w2 _))
          have hbelf := hbelr.trans (hbel.mono hbelr.size)
          go_wp2_with fail
          refine ret_b32 rfl rfl (blk_setRow hb4 (cl .u8 (outs s))) hou rfl ⟨by rw [ES.out], bel_setRow hbelf (Nat.le_refl _) _⟩
end Go.Proofs.YtlgpipdeckdmjaaGreat.Ref
