/-
  Several texts laid into one (merge.py): Rm8, Sgn6, Ver1.
-/
import Derived.Test.YtlgpipdeckdmjaaGreatVf16
import Derived.Test.YtlgpipdeckdmjaaGreatVf17
/-
  The reference of layer 8: Reach. Printed by gen_reach8.py.
-/
set_option linter.unusedVariables false
set_option linter.unusedSimpArgs false
namespace Go.Proofs.YtlgpipdeckdmjaaGreat.Rm
open Go.RowKit Base Reg Types Slice Sha
open Go.Proofs.YtlgpipdeckdmjaaGreat.One
open Go.Proofs.YtlgpipdeckdmjaaGreat.Str
open Go.Proofs.YtlgpipdeckdmjaaGreat.Mer
open Go.Proofs.YtlgpipdeckdmjaaGreat.Sgn
def AtE (w w1 : World) (leaf : Nat) (ch V : List Nat) (p : Value) (ps : List (List Nat)) (W : World) : Prop :=
  blk W (w.heap.size + 1) (sigV (leaf : Int) ch p) 36 ∧ blk W (w.heap.size + 1 + 1) (cl .u8 (zs 16)) 23 ∧ blk W w1.heap.size (cl .u8 V) 23 ∧ SlN W p ps ∧ Below w.heap.size w W ∧ w1.heap.size + 1 ≤ W.heap.size
theorem AtE_keep {w w1 : World} {leaf : Nat} {ch V : List Nat} {p : Value} {ps : List (List Nat)} {W W' : World} (h : AtE w w1 leaf ch V p ps W) (hb : Below W.heap.size W W') : AtE w w1 leaf ch V p ps W' :=
  ⟨blk_keep h.1 hb, blk_keep h.2.1 hb, blk_keep h.2.2.1 hb, h.2.2.2.1.keep hb, bel_trans h.2.2.2.2.1 hb h.2.2.2.2.1.size, Nat.le_trans h.2.2.2.2.2 hb.size⟩
theorem joinK (W : World) (k : Nat) (a b : List Nat) (ha : a.length = 16) (hb : b.length = 16) (hk : k ≤ 100) :
    Calls Tryz.prog 51 #[.int .i64 ((k : Int) + 1), agg .u8 a, agg .u8 b] W fun e w' => e = .returned (agg .u8 (joinN (k + 1) a b)) ∧ Below W.heap.size W w' := by
  have h := join W (k + 1) a b ha hb (by omega)
  rw [show ((k + 1 : Nat) : Int) = (k : Int) + 1 by push_cast; rfl] at h
  exact h
def ReP (w w1 : World) (leaf : Nat) (L : List Nat) (i : Nat) (v : Value) (W : World) : Prop := match i with
  | 0 => v = .pointer (some ⟨w.heap.size + 1, 0, none⟩)
  | 1 => v = .int .i64 (leaf : Int)
  | 2 => v = .slice (some ⟨w1.heap.size, 0, none⟩) 16 16
  | 3 => v = agg .u8 L
  | 4 => ∃ q, v = .pointer (some ⟨q, 0, none⟩) ∧ w1.heap.size + 1 ≤ q ∧ blk W q (cl .u8 (zs 16)) 93
  | _ => True
theorem ReP_mono (w w1 : World) (leaf : Nat) (L : List Nat) (i : Nat) (v : Value) (W W' : World) (hb : Below W.heap.size W W') (h : ReP w w1 leaf L i v W) : ReP w w1 leaf L i v W' := by
  unfold ReP at h ⊢
  split at h
  · exact h
  · exact h
  · exact h
  · exact h
  · obtain ⟨q, h1, h2⟩ := h
    exact ⟨q, h1, h2.1, blk_keep h2.2 hb⟩
  · exact h
attribute [local go_sem ↓ high] run_shr64
set_option maxRecDepth 20000 in
set_option maxHeartbeats 4000000 in
theorem reach8 (w : World) (leaf : Nat) (ch d : List Nat) (p : Value) (ps : List (List Nat)) (hc : ch.length = 560) (hd : d.length = 16) (bd : By d) (hp : SlN w p ps) (hN : N16 ps) (hn1 : 1 ≤ ps.length) (hn8 : ps.length ≤ 8) (hl : leaf < 2 ^ ps.length) :
    Calls Tryz.prog 21 #[agg .u8 d, .agg (sigV (leaf : Int) ch p).toArray] w fun e w' => e = .returned (agg .u8 (reach ch d leaf ps)) ∧ Below w.heap.size w w' := by
  have hleaf : leaf ≤ 65535 := by
    have p8 : 2 ^ ps.length ≤ 2 ^ 8 := Nat.pow_le_pow_right (by omega) hn8
    omega
  obtain ⟨A, c, rfl, -⟩ := id hp
  have lL := leafN_length leaf (valN ch d leaf)
  have lV := valN_length ch d leaf
  have LF := Lib.hid (climbF_length lL leaf ps)
  have CV : Hid (∀ W, Calls Tryz.prog 49 #[agg .u8 d, .agg (sigV (leaf : Int) ch (.slice A ps.length c)).toArray] W fun e w' => e = .returned (agg .u8 (valN ch d leaf)) ∧ Below W.heap.size W w') := Lib.hid fun W => value8 W leaf ch d A ps.length c hc hd bd hleaf
  have CL : Hid (∀ (W : World) (pv : Nat), blk W pv (cl .u8 (valN ch d leaf)) 23 → Calls Tryz.prog 50 #[.int .i64 (leaf : Int), .slice (some ⟨pv, 0, none⟩) 16 16] W fun e w' => e = .returned (agg .u8 (leafN leaf (valN ch d leaf))) ∧ Below W.heap.size W w') := Lib.hid fun W pv hB => Rm.leaf W leaf _ _ (sl_whole hB lV.symm (Nat.le_refl _)) (by omega) hleaf
  have HRE := Lib.hid (show reach ch d leaf ps = climbF (leafN leaf (valN ch d leaf)) leaf ps ps.length from rfl)
  obtain ⟨V, hV⟩ : ∃ V, V = valN ch d leaf := ⟨_, rfl⟩
  rw [← hV] at lL lV LF CV CL HRE
  obtain ⟨L, hL⟩ : ∃ L, L = leafN leaf V := ⟨_, rfl⟩
  rw [← hL] at lL LF CL HRE
  obtain ⟨n, hn⟩ : ∃ n, n = ps.length := ⟨_, rfl⟩
  have HE := Lib.hid hn
  rw [← hn] at hn1 hn8 CV HRE ⊢
  have HP := Lib.hid (show SlN w (.slice A n c) ps by rw [hn]; exact hp)
  have HP2 := Lib.hid (show SlC w 16 (.slice A n c) n (cl .u8 ps.flatten) by rw [hn]; exact hp)
  have HN := Lib.hid hN
  have HC := Lib.hid hc
  clear hV hL hn hp hN hl
  obtain ⟨W0, hW0⟩ : ∃ W0, W0 = ((w.alloc (.cells (cl .u8 d).toArray 23)).alloc (.cells (sigV (leaf : Int) ch (.slice A n c)).toArray 36)).alloc (.cells (cl .u8 (zs 16)).toArray 23) := ⟨_, rfl⟩
  have b1 : blk W0 (w.heap.size + 1) (sigV (leaf : Int) ch (.slice A n c)) 36 := by rw [hW0]; exact blk_alloc (blk_at _ _ _ (by simp only [alloc_size])) _
  have b2 : blk W0 (w.heap.size + 1 + 1) (cl .u8 (zs 16)) 23 := by rw [hW0]; exact blk_at _ _ _ (by simp only [alloc_size])
  have bl : Below w.heap.size w W0 := by rw [hW0]; exact (((Below.refl w.heap.size w).alloc (Nat.le_refl _) _).alloc (by simp only [alloc_size]; omega) _).alloc (by simp only [alloc_size]; omega) _
  have hz : W0.heap.size = w.heap.size + 1 + 1 + 1 := by rw [hW0]; simp only [alloc_size]
  have D0 := Lib.hid (And.intro b1 (And.intro b2 (And.intro bl hz)))
  have HW := Lib.hid hW0
  clear b1 b2 bl hz hW0
  go_enter Tryz.func21, Tryz.ntmps21
  go_wp2_with fail
  rw [← HW.out]
  refine (CV.out _).mono ?_
  rintro e w1 ⟨rfl, hb1⟩
  have S1 := Lib.hid (show blk (w1.alloc (.cells (cl .u8 V).toArray 23)) (w.heap.size + 1) (sigV (leaf : Int) ch (.slice A n c)) 36 ∧ blk (w1.alloc (.cells (cl .u8 V).toArray 23)) (w.heap.size + 1 + 1) (cl .u8 (zs 16)) 23 ∧ blk (w1.alloc (.cells (cl .u8 V).toArray 23)) w1.heap.size (cl .u8 V) 23 ∧ SlN (w1.alloc (.cells (cl .u8 V).toArray 23)) (.slice A n c) ps ∧ Below w.heap.size w (w1.alloc (.cells (cl .u8 V).toArray 23)) from by
    have hbel := bel_trans D0.out.2.2.1 hb1 D0.out.2.2.1.size
    have hbel2 := hbel.alloc hbel.size (.cells (cl .u8 V).toArray 23)
    exact ⟨blk_alloc (blk_keep D0.out.1 hb1) _, blk_alloc (blk_keep D0.out.2.1 hb1) _, blk_new _ _ _, HP.out.keep hbel2, hbel2⟩)
  have hsz : w.heap.size + 1 + 1 + 1 ≤ w1.heap.size := by have h1 := hb1.size; have h2 := D0.out.2.2.2; omega
  clear hb1
  go_wp2_with fail
  refine Ord.wp_region_tab2 5 [11, 12, 13, 14, 6] [agg .u8 d, .agg (sigV (leaf : Int) ch (.slice A n c)).toArray, .pointer (some ⟨w.heap.size, 0, none⟩), .pointer (some ⟨w.heap.size + 1, 0, none⟩), .pointer (some ⟨w.heap.size + 1 + 1, 0, none⟩), .pointer (some ⟨w1.heap.size, 0, none⟩), undef, undef, agg .u8 d, .agg (sigV (leaf : Int) ch (.slice A n c)).toArray, agg .u8 V, undef, undef, undef, undef, undef, undef, undef, undef, undef, undef, undef, undef, undef, undef, undef, undef, undef, undef, undef, undef, undef, undef, undef, undef, undef, undef, undef, undef, undef, undef, undef, undef, undef, undef, undef, undef] (fun W => AtE w w1 leaf ch V (.slice A n c) ps W) (ReP w w1 leaf L) (by kernel_rfl) (by kernel_rfl) (by rfl) ⟨blk_drew S1.out.1, blk_drew S1.out.2.1, blk_drew S1.out.2.2.1, S1.out.2.2.2.1.keep (Below.refl _ _).drew, S1.out.2.2.2.2.drew, by simp only [World.drew]; simp⟩ (fun i v W W' _ hb h => ReP_mono w w1 leaf L i v W W' hb h) ?_ ?_
  · intro i o hi ho a W K hS hF hG hK
    have q1 := sig_leaf hS.1
    match i, hi with
    | 0, _ =>
      cases ho
      have s3 : a.tmps.getD 3 undef = .pointer (some ⟨w.heap.size + 1, 0, none⟩) := hF.slots 3 (by simp) (by decide)
      go_wp2_with fail
      exact hK _ _ hS (Below.refl _ _) (by first | rfl | (show _ = _; simp))
    | 1, _ =>
      cases ho
      have s11 : a.tmps.getD 11 undef = .pointer (some ⟨w.heap.size + 1, 0, none⟩) := hG { on := 0, ground := .data } (by simp) rfl
      go_wp2_with fail
      exact hK _ _ hS (Below.refl _ _) (by first | rfl | (show _ = _; simp))
    | 2, _ =>
      cases ho
      have s5 : a.tmps.getD 5 undef = .pointer (some ⟨w1.heap.size, 0, none⟩) := hF.slots 5 (by simp) (by decide)
      go_wp2_with fail
      exact hK _ _ hS (Below.refl _ _) (by first | rfl | (show _ = _; simp))
    | 3, _ =>
      cases ho
      have s12 : a.tmps.getD 12 undef = .int .i64 (leaf : Int) := hG { on := 1, ground := .data } (by simp) rfl
      have s13 : a.tmps.getD 13 undef = .slice (some ⟨w1.heap.size, 0, none⟩) 16 16 := hG { on := 2, ground := .data } (by simp) rfl
      go_wp2_with fail
      refine (CL.out W _ hS.2.2.1).mono ?_
      rintro e W2 ⟨rfl, hb2⟩
      go_wp2_with fail
      exact hK _ _ (AtE_keep hS hb2) hb2 rfl
    | 4, _ =>
      cases ho
      go_wp2_with fail
      have hb2 := (Below.refl W.heap.size W).alloc (Nat.le_refl _) (.cells (cl .u8 (zs 16)).toArray 93)
      exact hK _ _ (AtE_keep hS hb2) hb2 ⟨_, rfl, hS.2.2.2.2.2, blk_new _ _ _⟩
    | i + 5, hi => exact absurd hi (by omega)
  · intro a W hS hF hG
    have t11 : a.tmps.getD 11 undef = .pointer (some ⟨w.heap.size + 1, 0, none⟩) := hG 0 (by omega)
    have t12 : a.tmps.getD 12 undef = .int .i64 (leaf : Int) := hG 1 (by omega)
    have t13 : a.tmps.getD 13 undef = .slice (some ⟨w1.heap.size, 0, none⟩) 16 16 := hG 2 (by omega)
    have t14 : a.tmps.getD 14 undef = agg .u8 L := hG 3 (by omega)
    obtain ⟨q6, t6, hp6⟩ : ReP w w1 leaf L 4 (a.tmps.getD 6 undef) W := hG 4 (by omega)
    have fr := Ord.frame_of (L := [agg .u8 d, .agg (sigV (leaf : Int) ch (.slice A n c)).toArray, .pointer (some ⟨w.heap.size, 0, none⟩), .pointer (some ⟨w.heap.size + 1, 0, none⟩), .pointer (some ⟨w.heap.size + 1 + 1, 0, none⟩), .pointer (some ⟨w1.heap.size, 0, none⟩), .pointer (some ⟨q6, 0, none⟩), undef, agg .u8 d, .agg (sigV (leaf : Int) ch (.slice A n c)).toArray, agg .u8 V, .pointer (some ⟨w.heap.size + 1, 0, none⟩), .int .i64 (leaf : Int), .slice (some ⟨w1.heap.size, 0, none⟩) 16 16, agg .u8 L, undef, undef, undef, undef, undef, undef, undef, undef, undef, undef, undef, undef, undef, undef, undef, undef, undef, undef, undef, undef, undef, undef, undef, undef, undef, undef, undef, undef, undef, undef, undef, undef]) hF.defers hF.size (fun k hk => match k, hk with
      | 0, _ => hF.slots 0 (by simp) (by decide)
      | 1, _ => hF.slots 1 (by simp) (by decide)
      | 2, _ => hF.slots 2 (by simp) (by decide)
      | 3, _ => hF.slots 3 (by simp) (by decide)
      | 4, _ => hF.slots 4 (by simp) (by decide)
      | 5, _ => hF.slots 5 (by simp) (by decide)
      | 6, _ => t6
      | 7, _ => hF.slots 7 (by simp) (by decide)
      | 8, _ => hF.slots 8 (by simp) (by decide)
      | 9, _ => hF.slots 9 (by simp) (by decide)
      | 10, _ => hF.slots 10 (by simp) (by decide)
      | 11, _ => t11
      | 12, _ => t12
      | 13, _ => t13
      | 14, _ => t14
      | 15, _ => hF.slots 15 (by simp) (by decide)
      | 16, _ => hF.slots 16 (by simp) (by decide)
      | 17, _ => hF.slots 17 (by simp) (by decide)
      | 18, _ => hF.slots 18 (by simp) (by decide)
      | 19, _ => hF.slots 19 (by simp) (by decide)
      | 20, _ => hF.slots 20 (by simp) (by decide)
      | 21, _ => hF.slots 21 (by simp) (by decide)
      | 22, _ => hF.slots 22 (by simp) (by decide)
      | 23, _ => hF.slots 23 (by simp) (by decide)
      | 24, _ => hF.slots 24 (by simp) (by decide)
      | 25, _ => hF.slots 25 (by simp) (by decide)
      | 26, _ => hF.slots 26 (by simp) (by decide)
      | 27, _ => hF.slots 27 (by simp) (by decide)
      | 28, _ => hF.slots 28 (by simp) (by decide)
      | 29, _ => hF.slots 29 (by simp) (by decide)
      | 30, _ => hF.slots 30 (by simp) (by decide)
      | 31, _ => hF.slots 31 (by simp) (by decide)
      | 32, _ => hF.slots 32 (by simp) (by decide)
      | 33, _ => hF.slots 33 (by simp) (by decide)
      | 34, _ => hF.slots 34 (by simp) (by decide)
      | 35, _ => hF.slots 35 (by simp) (by decide)
      | 36, _ => hF.slots 36 (by simp) (by decide)
      | 37, _ => hF.slots 37 (by simp) (by decide)
      | 38, _ => hF.slots 38 (by simp) (by decide)
      | 39, _ => hF.slots 39 (by simp) (by decide)
      | 40, _ => hF.slots 40 (by simp) (by decide)
      | 41, _ => hF.slots 41 (by simp) (by decide)
      | 42, _ => hF.slots 42 (by simp) (by decide)
      | 43, _ => hF.slots 43 (by simp) (by decide)
      | 44, _ => hF.slots 44 (by simp) (by decide)
      | 45, _ => hF.slots 45 (by simp) (by decide)
      | 46, _ => hF.slots 46 (by simp) (by decide)
      | k + 47, hk => absurd hk (by simp))
    subst fr
    clear hF hG t11 t12 t13 t14 t6
    simp only [List.drop_succ_cons, List.drop_zero]
    obtain ⟨hq, hqb⟩ := hp6
    have k6 := bk_of hqb
    have HS2 := Lib.hid (show blk (W.setRow q6 (cl .u8 L).toArray) (w.heap.size + 1) (sigV (leaf : Int) ch (.slice A n c)) 36 ∧ blk (W.setRow q6 (cl .u8 L).toArray) (w.heap.size + 1 + 1) (cl .u8 (zs 16)) 23 ∧ blk (W.setRow q6 (cl .u8 L).toArray) q6 (cl .u8 L) 93 ∧ Below w.heap.size w (W.setRow q6 (cl .u8 L).toArray) from ⟨blk_setRow_ne hS.1 _ (by omega), blk_setRow_ne hS.2.1 _ (by omega), blk_setRow hqb _, bel_setRow hS.2.2.2.2.1 (by omega) _⟩)
    clear hS hqb
    go_wp2_with fail
    go_loopw [7] (fun i wr => ∃ k : Nat, k ≤ n ∧ i = .int .i64 (k : Int) ∧ blk wr (w.heap.size + 1) (sigV (leaf : Int) ch (.slice A n c)) 36 ∧ blk wr (w.heap.size + 1 + 1) (cl .u8 (zs 16)) 23 ∧ blk wr q6 (cl .u8 (climbF L leaf ps k)) 93 ∧ Below w.heap.size w wr) (fun i _ => n - (intOf i).toNat)
    case atStart => exact ⟨0, by omega, rfl, HS2.out⟩
    case round =>
      clear HS2
      obtain ⟨k, hk, rfl, hb0, hb1, hb2, hbel⟩ := hrel
      have q0 := sig_path HC.out hb0
      by_cases hk2 : k < n
      · obtain ⟨b, o, c', hbo, hmc, hlt, hcl⟩ := slc_addr HP2.out (by omega)
        cases hbo
        have lS := HN.out.getD (i := k) (by rw [← HE.out]; omega)
        have lC := LF.out k
        obtain ⟨q, hq⟩ : ∃ q, q = leaf / 2 ^ k := ⟨_, rfl⟩
        have hq2 : q ≤ 65535 := by rw [hq]; exact Nat.le_trans (Nat.div_le_self _ _) hleaf
        have eq1 : (leaf : Int) / 2 ^ k = (q : Int) := by rw [hq]; norm_cast
        have q9 := sig_leaf hb0
        have ecl : climbF L leaf ps (k + 1) = if q % 2 = 1 then joinN (k + 1) (ps.getD k []) (climbF L leaf ps k) else joinN (k + 1) (climbF L leaf ps k) (ps.getD k []) := by rw [climbF, ← hq]
        obtain ⟨ι, G, hG, hin⟩ := class_of (fun W => blk W (w.heap.size + 1) (sigV (leaf : Int) ch (.slice (some ⟨b, o, none⟩) n c)) 36 ∧ blk W (w.heap.size + 1 + 1) (cl .u8 (zs 16)) 23 ∧ blk W q6 (cl .u8 (climbF L leaf ps k)) 93 ∧ Below w.heap.size w W)
        have h0 := hin wr.drew ⟨blk_drew hb0, blk_drew hb1, blk_drew hb2, hbel.drew⟩
        have hne : Nonempty ι := ⟨h0.choose⟩
        have r1 : ∀ i, (G i).cell? ⟨w.heap.size + 1, 561, none⟩ = some (.slice (some ⟨b, o, none⟩) n c) := fun i => sig_path HC.out (hG i).1
        have r2 : ∀ i, bk (G i) q6 = some (cl .u8 (climbF L leaf ps k)).toArray := fun i => bk_of (hG i).2.2.1
        have r3 : ∀ i, (ldA 23 (.pointer (some ⟨b, o + k * 16, none⟩))).run Tryz.prog (G i) = .ok (agg .u8 (ps.getD k [])) (G i) := fun i => ld_val (i := k) HN.out (by rw [← HE.out]; omega) (fun j u hj => ((hG i).2.2.2.cell (p := ⟨b, o + j, none⟩) hlt).trans (hcl j u hj))
        have ln : ∀ x y, (joinN (k + 1) x y).length = 16 := fun x y => joinN_length _ _ _
        have hne1 : w.heap.size + 1 ≠ q6 := by omega
        have hne2 : w.heap.size + 1 + 1 ≠ q6 := by omega
        obtain ⟨X, hX⟩ : ∃ X, X = ps.getD k [] := ⟨_, rfl⟩
        obtain ⟨C, hC⟩ : ∃ C, C = climbF L leaf ps k := ⟨_, rfl⟩
        rw [← hX] at ecl lS r3
        rw [← hC] at ecl r2 lC hb2 hG hin
        have HG := Lib.hid hG
        have HI := Lib.hid hin
        have H0 := Lib.hid h0
        have EC := Lib.hid ecl
        have EQ := Lib.hid eq1
        clear hG hin h0 hb0 hb1 hb2 ecl hq hX hC hcl eq1
        have J1 := Lib.hid (fun W => joinK W k X C lS lC (by omega))
        have J2 := Lib.hid (fun W => joinK W k C X lC lS (by omega))
        by_cases hodd : q % 2 = 1
        · rw [if_pos hodd] at EC
          have d1 : (((leaf : Int) / 2 ^ k).tmod 2 == 1) = true := by rw [EQ.out, Int.tmod_eq_emod_of_nonneg (by omega)]; simp; omega
          have LJ := ln X C
          obtain ⟨z, hz⟩ : ∃ z, z = joinN (k + 1) X C := ⟨_, rfl⟩
          rw [← hz] at EC LJ J1
          clear ln hodd hz
          go_wp2_with fail
          refine wp_region_tail G 9 (by kernel_rfl) (by kernel_rfl) H0.out ?_
          simp only [List.take_succ_cons, List.take_zero, List.drop_succ_cons, List.drop_zero]
          repeat (go_big_quiet_step ((go_at_call 51; exact quiet_below HG.out HI.out (fun _ _ h hb => ⟨blk_keep h.1 hb, blk_keep h.2.1 hb, blk_keep h.2.2.1 hb, bel_trans h.2.2.2 hb h.2.2.2.size⟩) (J1.out _))))
          refine wpQuiet_nil ?_
          intro i
          go_wp2_with fail
          go_roundw
          case rel => exact ⟨k + 1, by omega, by go_num, blk_setRow_ne (HG.out i).1 _ hne1, blk_setRow_ne (HG.out i).2.1 _ hne2, by rw [EC.out]; exact blk_setRow (HG.out i).2.2.1 (cl .u8 z), bel_setRow (HG.out i).2.2.2 (by omega) _⟩
          case measure => simp [intOf]; omega
        · rw [if_neg hodd] at EC
          have d1 : (((leaf : Int) / 2 ^ k).tmod 2 == 1) = false := by rw [EQ.out, Int.tmod_eq_emod_of_nonneg (by omega)]; simp; omega
          have LJ := ln C X
          obtain ⟨z, hz⟩ : ∃ z, z = joinN (k + 1) C X := ⟨_, rfl⟩
          rw [← hz] at EC LJ J2
          clear ln hodd hz
          go_wp2_with fail
          refine wp_region_tail G 9 (by kernel_rfl) (by kernel_rfl) H0.out ?_
          simp only [List.take_succ_cons, List.take_zero, List.drop_succ_cons, List.drop_zero]
          repeat (go_big_quiet_step ((go_at_call 51; exact quiet_below HG.out HI.out (fun _ _ h hb => ⟨blk_keep h.1 hb, blk_keep h.2.1 hb, blk_keep h.2.2.1 hb, bel_trans h.2.2.2 hb h.2.2.2.size⟩) (J2.out _))))
          refine wpQuiet_nil ?_
          intro i
          go_wp2_with fail
          go_roundw
          case rel => exact ⟨k + 1, by omega, by go_num, blk_setRow_ne (HG.out i).1 _ hne1, blk_setRow_ne (HG.out i).2.1 _ hne2, by rw [EC.out]; exact blk_setRow (HG.out i).2.2.1 (cl .u8 z), bel_setRow (HG.out i).2.2.2 (by omega) _⟩
          case measure => simp [intOf]; omega
      · obtain rfl : k = n := by omega
        have lR := LF.out k
        obtain ⟨R, hR⟩ : ∃ R, R = climbF L leaf ps k := ⟨_, rfl⟩
        rw [← hR] at lR hb2
        have HR := Lib.hid hR
        have k1 := bk_of hb1
        have k2 := bk_of hb2
        have HB := Lib.hid (And.intro hb1 hbel)
        clear hR hb0 hb1 hb2 hbel
        go_wp2_with fail
        refine ret_b16 rfl rfl (blk_setRow HB.out.1 (cl .u8 R)) lR rfl ⟨by rw [HR.out, HRE.out], bel_setRow HB.out.2 (by omega) _⟩
end Go.Proofs.YtlgpipdeckdmjaaGreat.Rm
/-
  signer.Verify of a signature that fits.
-/
set_option linter.unusedVariables false
set_option linter.unusedSimpArgs false
namespace Go.Proofs.YtlgpipdeckdmjaaGreat.Sgn
open Go.RowKit Base Reg Types Slice Sha
open Go.Proofs.YtlgpipdeckdmjaaGreat.One
open Go.Proofs.YtlgpipdeckdmjaaGreat.Str
open Go.Proofs.YtlgpipdeckdmjaaGreat.Mer
open Go.Proofs.YtlgpipdeckdmjaaGreat.Signed
/-- The root within a public key. -/
theorem ld_root {W : World} {g : Nat} {h : Int} {r : List Nat} {t : TypeId} (hr : r.length = 16) (hB : blk W g (pubV h r) t) : (ldA 23 (.pointer (some ⟨g, 1, none⟩))).run Tryz.prog W = .ok (agg .u8 r) W := by
  have h1 := run_loadAt_part (P := Tryz.prog) (ty := 23) hB 1 16 (d := (Tryz.prog.underlying 23).get (by kernel_rfl)) (by kernel_rfl) (by kernel_rfl) (by kernel_rfl) (by rw [pubV_length, hr]; omega)
  rw [show ((pubV h r).drop 1).take 16 = cl .u8 r by unfold pubV; rw [List.drop_succ_cons, List.drop_zero, List.take_of_length_le (by rw [cl_length, hr]; omega)]] at h1
  exact h1
set_option maxRecDepth 20000 in
set_option maxHeartbeats 4000000 in
theorem verify_in (w : World) (h leaf : Nat) (root ch d : List Nat) (p : Value) (ps : List (List Nat)) (hr : root.length = 16) (h1 : 1 ≤ h) (h8 : h ≤ 8) (hc : ch.length = 560) (hd : d.length = 16) (bd : By d) (hp : SlN w p ps) (hN : N16 ps) (hn1 : 1 ≤ ps.length) (hn8 : ps.length ≤ 8) (hl : leaf < 2 ^ ps.length) :
    Calls Tryz.prog 14 #[.agg (pubV (h : Int) root).toArray, agg .u8 d, .agg (sigV (leaf : Int) ch p).toArray] w fun e w' => e = .returned (.int .i64 (if ps.length = h ∧ reach ch d leaf ps = root then 0 else 17)) ∧ Below w.heap.size w w' := by
  obtain ⟨R, hR⟩ : ∃ R, R = reach ch d leaf ps := ⟨_, rfl⟩
  have lR : R.length = 16 := by rw [hR]; exact reach_length _ _ _ _
  obtain ⟨A, c, hpA, -⟩ := id hp
  obtain ⟨n, hne⟩ : ∃ n, n = ps.length := ⟨_, rfl⟩
  have c1 := Lib.hid fun W => public_check W root (h : Int) (by omega) (by omega)
  have c2 : Hid (∀ W, Below w.heap.size w W → Calls Tryz.prog 17 #[agg .u8 d, .agg (sigV (leaf : Int) ch p).toArray] W fun e w' => e = .returned (.tuple #[agg .u8 R, .int .i64 0]) ∧ Below W.heap.size W w') := Lib.hid fun W hW => by
    rw [hR]
    exact root_in W leaf ch d p ps hc hd bd (hp.keep hW) hN hn1 hn8 hl
  rw [← hR, ← hne]
  rw [← hne] at hn8 hn1 hpA
  obtain ⟨E, hE⟩ : ∃ E : Int, E = if n = h ∧ R = root then 0 else 17 := ⟨_, rfl⟩
  rw [← hE]
  have HE := Lib.hid hE
  clear hR hl hne hN hp bd hE
  subst hpA
  obtain ⟨W0, hW0⟩ : ∃ W0, W0 = ((w.alloc (.cells (pubV (h : Int) root).toArray 39)).alloc (.cells (cl .u8 d).toArray 23)).alloc (.cells (sigV (leaf : Int) ch (.slice A n c)).toArray 31) := ⟨_, rfl⟩
  have b0 : blk W0 w.heap.size (pubV (h : Int) root) 39 := by rw [hW0]; exact blk_alloc (blk_alloc (blk_new _ _ _) _) _
  have b1 : blk W0 (w.heap.size + 1) (cl .u8 d) 23 := by rw [hW0]; exact blk_alloc (blk_at _ _ _ (by simp only [alloc_size])) _
  have b2 : blk W0 (w.heap.size + 1 + 1) (sigV (leaf : Int) ch (.slice A n c)) 31 := by rw [hW0]; exact blk_at _ _ _ (by simp only [alloc_size])
  have bl : Below w.heap.size w W0 := by rw [hW0]; exact (((Below.refl w.heap.size w).alloc (Nat.le_refl _) _).alloc (by simp only [alloc_size]; omega) _).alloc (by simp only [alloc_size]; omega) _
  have S0 := Lib.hid (And.intro b0 (And.intro b1 (And.intro b2 bl)))
  have HW := Lib.hid hW0
  clear b0 b1 b2 bl hW0
  go_enter Tryz.func14, Tryz.ntmps14
  go_wp2_with fail
  rw [← HW.out]
  refine (c1.out _).mono ?_
  rintro e w1 ⟨rfl, hb1⟩
  have S1 := Lib.hid (And.intro (blk_keep S0.out.1 hb1) (And.intro (blk_keep S0.out.2.1 hb1) (And.intro (blk_keep S0.out.2.2.1 hb1) (bel_trans S0.out.2.2.2 hb1 S0.out.2.2.2.size))))
  have k1 := bk_of S1.out.2.1
  have k2 := bk_of S1.out.2.2.1
  clear hb1
  go_wp2_with fail
  refine (c2.out _ S1.out.2.2.2).mono ?_
  rintro e w2 ⟨rfl, hb2⟩
  have S2 := Lib.hid (And.intro (blk_alloc (blk_keep S1.out.1 hb2) (.cells (cl .u8 R).toArray 23)) (And.intro (blk_alloc (blk_keep S1.out.2.2.1 hb2) (.cells (cl .u8 R).toArray 23)) ((bel_trans S1.out.2.2.2 hb2 S1.out.2.2.2.size).alloc (by have := bel_trans S1.out.2.2.2 hb2 S1.out.2.2.2.size; exact this.size) (.cells (cl .u8 R).toArray 23))))
  have q1 := pub_cell0 S2.out.1
  have q2 := sig_path hc S2.out.2.1
  have q3 := ld_root hr S2.out.1
  clear hb2 k1 k2
  by_cases hnh : n = h
  · subst hnh
    by_cases hRr : R = root
    · subst hRr
      have E0 : Hid (E = 0) := Lib.hid (by rw [HE.out, if_pos ⟨rfl, rfl⟩])
      clear HE
      go_wp2_with fail
      go_ret
      exact ⟨by rw [E0.out]; rfl, S2.out.2.2⟩
    · have hd1 : decide (R = root) = false := decide_eq_false hRr
      have E0 : Hid (E = 17) := Lib.hid (by rw [HE.out, if_neg (fun h => hRr h.2)])
      clear hRr HE
      go_wp2_with fail
      go_ret
      exact ⟨by rw [E0.out]; rfl, S2.out.2.2⟩
  · have hd1 : ((n : Int) != (h : Int)) = true := by simp; omega
    have E0 : Hid (E = 17) := Lib.hid (by rw [HE.out, if_neg (fun h => hnh h.1)])
    clear hnh HE
    go_wp2_with fail
    go_ret
    exact ⟨by rw [E0.out]; rfl, S2.out.2.2⟩
end Go.Proofs.YtlgpipdeckdmjaaGreat.Sgn
/-
  Root, Verify, and the reference's Verify, at what is out of range.
-/
set_option linter.unusedVariables false
set_option linter.unusedSimpArgs false
namespace Go.Proofs.YtlgpipdeckdmjaaGreat.Rm
open Go.RowKit Base Reg Types Slice Sha
open Go.Proofs.YtlgpipdeckdmjaaGreat.One
open Go.Proofs.YtlgpipdeckdmjaaGreat.Str
open Go.Proofs.YtlgpipdeckdmjaaGreat.Mer
open Go.Proofs.YtlgpipdeckdmjaaGreat.Sgn
abbrev GOk (l : Int) (n : Nat) : Prop := (1 ≤ n ∧ n ≤ 8) ∧ 0 ≤ l ∧ l < 2 ^ n
theorem root_out (w : World) (l : Int) (ch d : List Nat) (A : Option Addr) (n c : Nat) (hc : ch.length = 560) (hd : d.length = 16) (ho : ¬ GOk l n) :
    Calls Tryz.prog 17 #[agg .u8 d, .agg (sigV l ch (.slice A n c)).toArray] w fun e w' => e = .returned (.tuple #[agg .u8 (zs 16), .int .i64 2]) ∧ Below w.heap.size w w' := by
  have c1 := Lib.hid (fun W => sig_check_out W l ch A n c hc ho)
  obtain ⟨W0, hW0⟩ : ∃ W0, W0 = ((w.alloc (.cells (cl .u8 d).toArray 23)).alloc (.cells (sigV l ch (.slice A n c)).toArray 31)).alloc (.cells (cl .u8 (zs 16)).toArray 23) := ⟨_, rfl⟩
  have b2 : blk W0 (w.heap.size + 1 + 1) (cl .u8 (zs 16)) 23 := by rw [hW0]; exact blk_at _ _ _ (by simp only [alloc_size])
  have bl : Below w.heap.size w W0 := by rw [hW0]; exact (((Below.refl w.heap.size w).alloc (Nat.le_refl _) _).alloc (by simp only [alloc_size]; omega) _).alloc (by simp only [alloc_size]; omega) _
  have S0 := Lib.hid (And.intro b2 bl)
  have HW := Lib.hid hW0
  clear b2 bl hW0 ho
  go_enter Tryz.func17, Tryz.ntmps17
  go_wp2_with fail
  rw [← HW.out]
  refine (c1.out _).mono ?_
  rintro e w1 ⟨rfl, hb1⟩
  have S1 := Lib.hid (And.intro (blk_keep S0.out.1 hb1) (bel_trans S0.out.2 hb1 S0.out.2.size))
  have k1 := bk_of S1.out.1
  have lz := zs_length 16
  have bz := Signed.bl16_0
  clear hb1
  go_wp2_with fail
  refine ret2_b16 rfl rfl rfl (blk_setRow S1.out.1 (cl .u8 (zs 16))) lz rfl ⟨rfl, bel_setRow S1.out.2 (by omega) _⟩
theorem verify_hout (w : World) (h l : Int) (root ch d : List Nat) (A : Option Addr) (n c : Nat) (hr : root.length = 16) (ho : ¬ (1 ≤ h ∧ h ≤ 8)) (hc : ch.length = 560) (hd : d.length = 16) :
    Calls Tryz.prog 14 #[.agg (pubV h root).toArray, agg .u8 d, .agg (sigV l ch (.slice A n c)).toArray] w fun e w' => e = .returned (.int .i64 2) ∧ Below w.heap.size w w' := by
  have c1 := Lib.hid (fun W => public_check_out W root h ho)
  obtain ⟨W0, hW0⟩ : ∃ W0, W0 = ((w.alloc (.cells (pubV h root).toArray 39)).alloc (.cells (cl .u8 d).toArray 23)).alloc (.cells (sigV l ch (.slice A n c)).toArray 31) := ⟨_, rfl⟩
  have bl : Below w.heap.size w W0 := by rw [hW0]; exact (((Below.refl w.heap.size w).alloc (Nat.le_refl _) _).alloc (by simp only [alloc_size]; omega) _).alloc (by simp only [alloc_size]; omega) _
  have S0 := Lib.hid bl
  have HW := Lib.hid hW0
  clear bl hW0 ho
  go_enter Tryz.func14, Tryz.ntmps14
  go_wp2_with fail
  rw [← HW.out]
  refine (c1.out _).mono ?_
  rintro e w1 ⟨rfl, hb1⟩
  have S1 := Lib.hid (bel_trans S0.out hb1 S0.out.size)
  clear hb1
  go_wp2_with fail
  go_ret
  exact ⟨rfl, S1.out⟩
theorem verify_gout (w : World) (h l : Int) (root ch d : List Nat) (A : Option Addr) (n c : Nat) (hr : root.length = 16) (h1 : 1 ≤ h) (h8 : h ≤ 8) (ho : ¬ GOk l n) (hc : ch.length = 560) (hd : d.length = 16) :
    Calls Tryz.prog 14 #[.agg (pubV h root).toArray, agg .u8 d, .agg (sigV l ch (.slice A n c)).toArray] w fun e w' => e = .returned (.int .i64 2) ∧ Below w.heap.size w w' := by
  have c1 := Lib.hid (fun W => public_check W root h h1 h8)
  have c2 := Lib.hid (fun W => root_out W l ch d A n c hc hd ho)
  obtain ⟨W0, hW0⟩ : ∃ W0, W0 = ((w.alloc (.cells (pubV h root).toArray 39)).alloc (.cells (cl .u8 d).toArray 23)).alloc (.cells (sigV l ch (.slice A n c)).toArray 31) := ⟨_, rfl⟩
  have b1 : blk W0 (w.heap.size + 1) (cl .u8 d) 23 := by rw [hW0]; exact blk_alloc (blk_at _ _ _ (by simp only [alloc_size])) _
  have b2 : blk W0 (w.heap.size + 1 + 1) (sigV l ch (.slice A n c)) 31 := by rw [hW0]; exact blk_at _ _ _ (by simp only [alloc_size])
  have bl : Below w.heap.size w W0 := by rw [hW0]; exact (((Below.refl w.heap.size w).alloc (Nat.le_refl _) _).alloc (by simp only [alloc_size]; omega) _).alloc (by simp only [alloc_size]; omega) _
  have S0 := Lib.hid (And.intro b1 (And.intro b2 bl))
  have HW := Lib.hid hW0
  clear b1 b2 bl hW0 ho
  go_enter Tryz.func14, Tryz.ntmps14
  go_wp2_with fail
  rw [← HW.out]
  refine (c1.out _).mono ?_
  rintro e w1 ⟨rfl, hb1⟩
  have S1 := Lib.hid (And.intro (blk_keep S0.out.1 hb1) (And.intro (blk_keep S0.out.2.1 hb1) (bel_trans S0.out.2.2 hb1 S0.out.2.2.size)))
  have k1 := bk_of S1.out.1
  have k2 := bk_of S1.out.2.1
  have lz := zs_length 16
  clear hb1
  go_wp2_with fail
  refine (c2.out _).mono ?_
  rintro e w2 ⟨rfl, hb2⟩
  have S2 := Lib.hid (bel_trans S1.out.2.2 hb2 S1.out.2.2.size)
  clear hb2 k1 k2
  go_wp2_with fail
  go_ret
  exact ⟨rfl, S2.out.alloc S2.out.size _⟩
theorem ver8_hout (w : World) (h l : Int) (root ch d : List Nat) (A : Option Addr) (n c : Nat) (hr : root.length = 16) (ho : ¬ (1 ≤ h ∧ h ≤ 8)) (hc : ch.length = 560) (hd : d.length = 16) :
    Calls Tryz.prog 20 #[.int .i64 h, agg .u8 root, agg .u8 d, .agg (sigV l ch (.slice A n c)).toArray] w fun e w' => e = .returned (.int .i64 2) ∧ Below w.heap.size w w' := by
  have bl : Below w.heap.size w (((w.alloc (.cells (cl .u8 root).toArray 23)).alloc (.cells (cl .u8 d).toArray 23)).alloc (.cells (sigV l ch (.slice A n c)).toArray 36)) := (((Below.refl w.heap.size w).alloc (Nat.le_refl _) _).alloc (by simp only [alloc_size]; omega) _).alloc (by simp only [alloc_size]; omega) _
  have S0 := Lib.hid bl
  clear bl
  by_cases h1 : h < 1
  · go_enter Tryz.func20, Tryz.ntmps20
    clear ho
    go_wp2_with fail
    go_ret
    exact ⟨rfl, S0.out⟩
  · have h2 : 8 < h := by omega
    clear ho
    go_enter Tryz.func20, Tryz.ntmps20
    go_wp2_with fail
    go_ret
    exact ⟨rfl, S0.out⟩
theorem ver8_gout (w : World) (h l : Int) (root ch d : List Nat) (A : Option Addr) (n c : Nat) (hr : root.length = 16) (h1 : 1 ≤ h) (h8 : h ≤ 8) (ho : ¬ GOk l n) (hc : ch.length = 560) (hd : d.length = 16) :
    Calls Tryz.prog 20 #[.int .i64 h, agg .u8 root, agg .u8 d, .agg (sigV l ch (.slice A n c)).toArray] w fun e w' => e = .returned (.int .i64 2) ∧ Below w.heap.size w w' := by
  have c2 := Lib.hid (fun W => check8_out W l ch A n c hc ho)
  obtain ⟨W0, hW0⟩ : ∃ W0, W0 = ((w.alloc (.cells (cl .u8 root).toArray 23)).alloc (.cells (cl .u8 d).toArray 23)).alloc (.cells (sigV l ch (.slice A n c)).toArray 36) := ⟨_, rfl⟩
  have b2 : blk W0 (w.heap.size + 1 + 1) (sigV l ch (.slice A n c)) 36 := by rw [hW0]; exact blk_at _ _ _ (by simp only [alloc_size])
  have bl : Below w.heap.size w W0 := by rw [hW0]; exact (((Below.refl w.heap.size w).alloc (Nat.le_refl _) _).alloc (by simp only [alloc_size]; omega) _).alloc (by simp only [alloc_size]; omega) _
  have S0 := Lib.hid (And.intro b2 bl)
  have HW := Lib.hid hW0
  have k2 := bk_of b2
  rw [hW0] at k2
  clear b2 bl hW0 ho
  go_enter Tryz.func20, Tryz.ntmps20
  go_wp2_with fail
  rw [← HW.out]
  refine (c2.out _).mono ?_
  rintro e w1 ⟨rfl, hb1⟩
  have S1 := Lib.hid (bel_trans S0.out.2 hb1 S0.out.2.size)
  clear hb1 k2
  go_wp2_with fail
  go_ret
  exact ⟨rfl, S1.out⟩
end Go.Proofs.YtlgpipdeckdmjaaGreat.Rm
