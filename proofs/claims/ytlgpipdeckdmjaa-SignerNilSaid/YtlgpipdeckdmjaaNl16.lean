/-
  Several texts laid into one (merge.py): Sgn3, Sgn4.
-/
import Derived.Test.YtlgpipdeckdmjaaNl15
/-
  signer.Sign.
-/
set_option linter.unusedVariables false
set_option linter.unusedSimpArgs false
namespace Go.Proofs.Ytlgpipdeckdmjaa.Sgn
open Go.RowKit Base Reg Types Slice Sha
open Go.Proofs.Ytlgpipdeckdmjaa.One
open Go.Proofs.Ytlgpipdeckdmjaa.Str
open Go.Proofs.Ytlgpipdeckdmjaa.Mer
open Go.Proofs.Ytlgpipdeckdmjaa.Signed
theorem own_blk_ne {w : World} {base s n b : Nat} {e t : TypeId} {v : Value} {xs cs : List Value} (h1 : w.ownsRow base e s v n xs) (h2 : blk w b cs t) (he : e ≠ t) : some b ≠ v.ownBlock := by
  rcases h1.2 with ⟨rfl, _⟩ | ⟨g, cap, cur, rfl, _, hh, _⟩
  · intro h; cases h
  · intro h
    have : b = g := Option.some.inj h
    subst this
    unfold blk at h2
    rw [hh] at h2
    injection h2 with h3
    injection h3 with h4 h5
    exact he h5
theorem grown_setCell (w : World) (g j : Nat) (u : Value) : w.grownBy (w.setCell ⟨g, j, none⟩ u) (some g) := ⟨rfl, rfl, rfl, by simp, fun k _ hk => heap_setCell_other w ⟨g, j, none⟩ k u (fun e => hk (by rw [e]))⟩
theorem own_setCell {w : World} {base s n g j : Nat} {e : TypeId} {v u : Value} {xs : List Value} (h : w.ownsRow base e s v n xs) (hne : some g ≠ v.ownBlock) : (w.setCell ⟨g, j, none⟩ u).ownsRow base e s v n xs := h.kept (grown_setCell w g j u) (.inr (fun e => hne e.symm))
theorem own_setRow {w : World} {base s n g : Nat} {e : TypeId} {v : Value} {xs : List Value} {cs : Array Value} (h : w.ownsRow base e s v n xs) (hne : some g ≠ v.ownBlock) : (w.setRow g cs).ownsRow base e s v n xs :=
  h.kept (row := some g) ⟨rfl, rfl, rfl, by simp, fun k _ hk => setRow_other w g k cs (fun e => hk (by rw [e]))⟩ (.inr (fun e => hne e.symm))
theorem sigV_set (l : Int) (c : List Nat) (p q : Value) (hc : c.length = 560) : (sigV l c p).set 561 q = sigV l c q := by
  unfold sigV
  rw [List.set_cons_succ, List.set_append_right _ _ (by rw [cl_length]; omega), cl_length, hc]
  rfl
def sigPath (seed : List Nat) (h leaf : Nat) : List (List Nat) := lv0 (pathF (leavesN seed h) leaf) h
theorem sigPath_length (seed : List Nat) (h leaf : Nat) : (sigPath seed h leaf).length = h := lv0_length _ _
theorem sigPath_16 (seed : List Nat) {h leaf : Nat} (hh : h ≤ 8) (hl : leaf < 2 ^ h) : N16 (sigPath seed h leaf) := path_16 (leavesN_16 seed h) (leavesN_length seed h) hh hl
theorem take_getD (ps : List (List Nat)) {k : Nat} (hk : k < ps.length) : ps.take k ++ [ps.getD k []] = ps.take (k + 1) := by
  rw [List.take_succ_eq_append_getElem hk, List.getD_eq_getElem?_getD, List.getElem?_eq_getElem hk]
  rfl
set_option maxRecDepth 20000 in
set_option maxHeartbeats 8000000 in
theorem sign (w : World) (seed d : List Nat) (h leaf : Nat) (hs : seed.length = 32) (hd : d.length = 16) (bd : By d) (hh : h = 1 ∨ h = 2 ∨ h = 3) (hleaf : leaf < 2 ^ h) :
    Calls Try.prog 83 #[.agg (secV seed (h : Int)).toArray, .int .i64 (leaf : Int), agg .u8 d] w fun e w' => ∃ p, e = .returned (.tuple #[.agg (sigV (leaf : Int) (sg seed d leaf) p).toArray, .int .i64 0]) ∧ OwnN 22 w' w.heap.size p (sigPath seed h leaf) ∧ Below w.heap.size w w' := by
  have p8 : 2 ^ h ≤ 2 ^ 3 := Nat.pow_le_pow_right (by omega) (by omega)
  obtain ⟨S, hS⟩ : ∃ S, S = sg seed d leaf := ⟨_, rfl⟩
  obtain ⟨PS, hPS⟩ : ∃ PS, PS = sigPath seed h leaf := ⟨_, rfl⟩
  have lS : S.length = 560 := by rw [hS]; exact sg_length _ _ _
  have lP : PS.length = h := by rw [hPS]; exact sigPath_length _ _ _
  have nP : N16 PS := by rw [hPS]; exact sigPath_16 seed (by omega) hleaf
  have c1 := Lib.hid fun W => secret_check W seed (h : Int) hs (by omega) (by omega)
  have c2 := Lib.hid fun W => Sign_sg W seed d leaf hs hd bd (by omega)
  have c3 := Lib.hid fun W => tree W seed h hs hh
  have c4 : Hid (∀ W x base, OwnN 146 W base x (leavesN seed h) → Calls Try.prog 97 #[x, .int .i64 (leaf : Int)] W fun e w' => ∃ y, e = .returned (.tuple #[y, .int .i64 0]) ∧ OwnN 146 w' W.heap.size y PS ∧ Below W.heap.size W w') := Lib.hid fun W x base ho => by
    rw [hPS]
    exact mpath W x (leavesN seed h) h leaf (SlC.of_own ho) (leavesN_16 seed h) (leavesN_length seed h) (by omega) hleaf
  rw [← hS] at c2 ⊢
  rw [← hPS]
  have NP := Lib.hid nP
  have hi' : (leaf : Int) < 2 ^ h := by exact_mod_cast hleaf
  have hd1 : decide ((leaf : Int) < 0) = false := decide_eq_false (by omega)
  have hd2 : decide ((2 : Int) ^ h ≤ (leaf : Int)) = false := decide_eq_false (by omega)
  have p8' : (2 : Int) ^ h ≤ 8 := by exact_mod_cast p8
  have hleaf8 : leaf < 8 := by omega
  clear hS hPS nP hleaf p8
  obtain ⟨W0, hW0⟩ : ∃ W0, W0 = ((w.alloc (.cells (secV seed (h : Int)).toArray 114)).alloc (.cells (cl .u8 d).toArray 22)).alloc (.cells (sigV 0 (zs 560) (.slice none 0 0)).toArray 58) := ⟨_, rfl⟩
  have b0 : blk W0 w.heap.size (secV seed (h : Int)) 114 := by rw [hW0]; exact blk_alloc (blk_alloc (blk_new _ _ _) _) _
  have b1 : blk W0 (w.heap.size + 1) (cl .u8 d) 22 := by rw [hW0]; exact blk_alloc (blk_at _ _ _ (by simp only [alloc_size])) _
  have b2 : blk W0 (w.heap.size + 1 + 1) (sigV 0 (zs 560) (.slice none 0 0)) 58 := by rw [hW0]; exact blk_at _ _ _ (by simp only [alloc_size])
  have bl : Below w.heap.size w W0 := by rw [hW0]; exact (((Below.refl w.heap.size w).alloc (Nat.le_refl _) _).alloc (by simp only [alloc_size]; omega) _).alloc (by simp only [alloc_size]; omega) _
  have S0 := Lib.hid (And.intro b0 (And.intro b1 (And.intro b2 bl)))
  have k0 := bk_of b0
  have HW := Lib.hid hW0
  clear b0 b1 b2 bl k0 hW0
  go_enter Try.func83, Try.ntmps83
  go_wp2_with fail
  rw [← HW.out]
  refine (c1.out _).mono ?_
  rintro e w1 ⟨rfl, hb1⟩
  have S1 := Lib.hid (And.intro (blk_keep S0.out.1 hb1) (And.intro (blk_keep S0.out.2.1 hb1) (And.intro (blk_keep S0.out.2.2.1 hb1) (bel_trans S0.out.2.2.2 hb1 S0.out.2.2.2.size))))
  have q1 := sec_height hs S1.out.1
  have q2 := ld_seed hs S1.out.1
  have k2 := bk_of S1.out.2.1
  clear hb1
  go_wp2_with fail
  refine (c2.out w1).mono ?_
  rintro e w2 ⟨rfl, hb2⟩
  have S2 := Lib.hid (And.intro (blk_keep S1.out.1 hb2) (And.intro (blk_keep S1.out.2.1 hb2) (And.intro (blk_keep S1.out.2.2.1 hb2) (bel_trans S1.out.2.2.2 hb2 S1.out.2.2.2.size))))
  have k3 := bk_of S2.out.1
  have lt3 := blk_lt S2.out.1
  clear hb2 q1 q2 k2
  go_wp2_with fail
  refine (c3.out _).mono ?_
  rintro e w3 ⟨x, rfl, ho3, hb3⟩
  have HO3 := Lib.hid ho3
  have A3 := Lib.hid (blk_keep (blk_new w2 (cl .u8 S) 68) hb3)
  have S3 := Lib.hid (And.intro (blk_keep (blk_alloc S2.out.1 (.cells (cl .u8 S).toArray 68)) hb3) (And.intro (blk_keep (blk_alloc S2.out.2.2.1 (.cells (cl .u8 S).toArray 68)) hb3) (bel_trans (S2.out.2.2.2.alloc S2.out.2.2.2.size (.cells (cl .u8 S).toArray 68)) hb3 (by have := S2.out.2.2.2.size; simp only [alloc_size]; omega))))
  clear hb3 k3 lt3 ho3
  go_wp2_with fail
  refine (c4.out w3 x _ HO3.out).mono ?_
  rintro e w4 ⟨y, rfl, ho4, hb4⟩
  obtain ⟨Ay, cy, rfl⟩ := ownN_slice ho4
  have HO4 := Lib.hid (own_keep ho4 ((Below.refl _ _).alloc (Nat.le_refl _) (.cells (sigV (leaf : Int) S (.slice none 0 0)).toArray 58)))
  have A4 := blk_keep A3.out hb4
  have k4 := bk_of A4
  have S4 := Lib.hid (And.intro (blk_alloc (blk_keep S3.out.2.1 hb4) (.cells (sigV (leaf : Int) S (.slice none 0 0)).toArray 58)) (And.intro (blk_new w4 (sigV (leaf : Int) S (.slice none 0 0)) 58) ((bel_trans S3.out.2.2 hb4 S3.out.2.2.size).alloc (by have := bel_trans S3.out.2.2 hb4 S3.out.2.2.size; exact this.size) (.cells (sigV (leaf : Int) S (.slice none 0 0)).toArray 58))))
  have lw : w.heap.size + 1 + 1 < w4.heap.size := blk_lt (blk_keep S3.out.2.1 hb4)
  clear hb4 ho4 A4
  rw [lP]
  go_wp2_with fail
  clear hd1 hd2
  go_loopw [59] (fun k wr => ∃ (m : Nat) (p : Value), m ≤ h ∧ k = .int .i64 (m : Int) ∧ OwnN 22 wr w.heap.size p (PS.take m) ∧ OwnN 146 wr w.heap.size (.slice Ay h cy) PS ∧ blk wr w4.heap.size (sigV (leaf : Int) S p) 58 ∧ blk wr (w.heap.size + 1 + 1) (sigV 0 (zs 560) (.slice none 0 0)) 58 ∧ Below w.heap.size w wr) (fun k _ => h - (intOf k).toNat)
  case atStart => exact ⟨0, .slice none 0 0, by omega, rfl, ownN_nil _ _ _, by have h5 := own_mono HO4.out S3.out.2.2.size; rw [lP] at h5; unfold OwnN; rw [lP]; exact h5, S4.out.2.1, S4.out.1, S4.out.2.2⟩
  case round =>
    clear S4 HO4 k4
    obtain ⟨m, p, hm, rfl, ho, hy, hg, hr, hb⟩ := hrel
    obtain ⟨Ap, cp, rfl⟩ := ownN_slice ho
    have lt : (PS.take m).length = m := by rw [List.length_take]; omega
    by_cases hmh : m < h
    · obtain ⟨b, o, c', hbo, hmc, hlt, hcl⟩ := slc_addr (SlC.of_own hy) (by omega)
      cases hbo
      have q1 := ld_node (i := m) NP.out (by omega) hcl
      have lX := NP.out.getD (i := m) (by omega)
      have eT := take_getD PS (k := m) (by omega)
      obtain ⟨X, hX⟩ : ∃ X, X = PS.getD m [] := ⟨_, rfl⟩
      rw [← hX] at q1 lX eT
      have q2 : (wr.alloc (.cells (cl .u8 X).toArray 146)).cell? ⟨w4.heap.size, 561, none⟩ = some (.slice Ap m cp) := by
        rw [← lt]
        exact sig_path lS (blk_alloc hg _)
      rw [lt] at ho hg
      have ho' := own_keep (own_keep ho ((Below.refl _ _).alloc (Nat.le_refl _) (.cells (cl .u8 X).toArray 146))) ((Below.refl _ _).alloc (Nat.le_refl _) (.cells (cl .u8 X).toArray 22))
      have HO := Lib.hid ho'
      have HO0 := Lib.hid ho
      have HY := Lib.hid hy
      have HG := Lib.hid hg
      have HR := Lib.hid hr
      have ET := Lib.hid eT
      have l2 : (PS.take (m + 1)).length = m + 1 := by rw [List.length_take]; omega
      have L2 := Lib.hid l2
      have lg := blk_lt hg
      have hbs := hb.size
      clear l2
      clear ho ho' hy hg hr eT hX hcl
      go_wp2_with (
        at_builtin
        refine wpList_append_val (ns := PS.take m) rfl (.tmp 64) (.tmp 66) rfl rfl rfl HO.out lX (blk_at (wr.alloc (.cells (cl .u8 X).toArray 146)) (cl .u8 X) 22 (b := wr.heap.size + 1) (by simp only [alloc_size])) (by omega) (by simp only [alloc_size]; omega) ?_
        intro v2 w2 ho2 hg2
        have hG2 := blk_grown (blk_alloc (blk_alloc HG.out (.cells (cl .u8 X).toArray 146)) (.cells (cl .u8 X).toArray 22)) hg2 (own_blk_ne HO.out (blk_alloc (blk_alloc HG.out (.cells (cl .u8 X).toArray 146)) (.cells (cl .u8 X).toArray 22)) (by decide))
        have hR2 := blk_grown (blk_alloc (blk_alloc HR.out (.cells (cl .u8 X).toArray 146)) (.cells (cl .u8 X).toArray 22)) hg2 (own_blk_ne HO.out (blk_alloc (blk_alloc HR.out (.cells (cl .u8 X).toArray 146)) (.cells (cl .u8 X).toArray 22)) (by decide))
        have hy1 := own_keep (own_keep HY.out ((Below.refl _ _).alloc (Nat.le_refl _) (.cells (cl .u8 X).toArray 146))) ((Below.refl _ _).alloc (Nat.le_refl _) (.cells (cl .u8 X).toArray 22))
        have hy2 := hy1.kept hg2 (own_ne hy1 HO.out (by decide))
        have hb2 := ((hb.alloc hb.size (.cells (cl .u8 X).toArray 146)).alloc (by simp only [alloc_size]; omega) (.cells (cl .u8 X).toArray 22)).grown hg2 (by simp only [alloc_size]; omega) (fun j hj => own_blockN HO0.out j (by simpa [Act.eval] using hj))
        rw [ET.out] at ho2
        obtain ⟨A2, c2', hv2⟩ := ownN_slice ho2
        rw [L2.out] at hv2
        subst hv2
        have cg := sig_path lS hG2
        have fg := blk_free hG2 561
        have T2 := Lib.hid (And.intro ho2 (And.intro hy2 (And.intro hG2 (And.intro hR2 hb2))))
        clear ho2 hg2 hG2 hR2 hy1 hy2 hb2)
      go_roundw
      case rel =>
        have hG3 := blk_setCell T2.out.2.2.1 561 (.slice A2 (m + 1) c2')
        rw [sigV_set _ _ _ _ lS] at hG3
        exact ⟨m + 1, _, by omega, by go_num, own_setCell T2.out.1 (own_blk_ne T2.out.1 T2.out.2.2.1 (by decide)), own_setCell T2.out.2.1 (own_blk_ne T2.out.2.1 T2.out.2.2.1 (by decide)), hG3, blk_setCell_ne T2.out.2.2.2.1 _ (by simp; omega), bel_setCell T2.out.2.2.2.2 (by simp; omega) _⟩
      case measure => simp [intOf]; omega
    · obtain rfl : m = h := by omega
      rw [List.take_of_length_le (by omega)] at ho hg
      rw [lP] at hg
      have kg := bk_of hg
      have kr := bk_of hr
      have HO := Lib.hid ho
      have HR := Lib.hid hr
      clear ho hy hg hr lt
      go_wp2_with fail
      refine ret2_sg rfl rfl rfl (blk_setRow HR.out (sigV (leaf : Int) S (.slice Ap m cp))) (by rw [sigV_length, lS]) rfl ⟨_, rfl, ?_, bel_setRow hb (by omega) _⟩
      have h9 := own_setRow HO.out (cs := (sigV (leaf : Int) S (.slice Ap m cp)).toArray) (own_blk_ne HO.out HR.out (by decide))
      unfold OwnN
      rw [lP] at h9 ⊢
      exact h9
end Go.Proofs.Ytlgpipdeckdmjaa.Sgn
/-
  signer: the nodes and the value of a signature.
-/
set_option linter.unusedVariables false
set_option linter.unusedSimpArgs false
namespace Go.Proofs.Ytlgpipdeckdmjaa.Sgn
open Go.RowKit Base Reg Types Slice Sha
open Go.Proofs.Ytlgpipdeckdmjaa.One
open Go.Proofs.Ytlgpipdeckdmjaa.Str
open Go.Proofs.Ytlgpipdeckdmjaa.Mer
open Go.Proofs.Ytlgpipdeckdmjaa.Signed
set_option maxRecDepth 20000 in
set_option maxHeartbeats 4000000 in
theorem nodes (w : World) (l : Int) (ch : List Nat) (p : Value) (ps : List (List Nat)) (hc : ch.length = 560) (hp : SlN w p ps) (hN : N16 ps) (hn : ps.length ≤ 1000) :
    Calls Try.prog 109 #[.agg (sigV l ch p).toArray] w fun e w' => ∃ x, e = .returned x ∧ OwnN 146 w' w.heap.size x ps ∧ Below w.heap.size w w' := by
  obtain ⟨Ap, cp, rfl, -⟩ := id hp
  have q0 := sig_path hc (blk_new w (sigV l ch (.slice Ap ps.length cp)) 58)
  obtain ⟨n, hne⟩ : ∃ n, n = ps.length := ⟨_, rfl⟩
  have HE := Lib.hid hne
  have HP := Lib.hid hp
  have HN := Lib.hid hN
  rw [← hne] at q0 hn ⊢
  clear hp hN hne
  go_enter Try.func109, Try.ntmps109
  go_wp2_with fail
  go_loopw [3, 9] (fun x k wr => ∃ m : Nat, m ≤ n ∧ k = .int .i64 (m : Int) ∧ OwnN 146 wr w.heap.size x (ps.take m) ∧ Below w.heap.size w wr) (fun _ k _ => n - (intOf k).toNat)
  case atStart => exact ⟨0, by omega, rfl, ownN_nil _ _ _, (Below.refl w.heap.size w).alloc (Nat.le_refl _) _⟩
  case round =>
    clear q0
    obtain ⟨m, hm, rfl, ho, hb⟩ := hrel
    by_cases hmn : m < n
    · obtain ⟨b, o, c', hbo, hmc, hlt, hcl⟩ := slc_addr HP.out (by rw [← HE.out]; omega)
      cases hbo
      have q1 := ld_val (i := m) HN.out (by rw [← HE.out]; omega) (fun j u hj => (hb.cell (p := ⟨b, o + j, none⟩) hlt).trans (hcl j u hj))
      have lX := HN.out.getD (i := m) (by rw [← HE.out]; omega)
      have eT := take_getD ps (k := m) (by rw [← HE.out]; omega)
      obtain ⟨X, hX⟩ : ∃ X, X = ps.getD m [] := ⟨_, rfl⟩
      rw [← hX] at q1 lX eT
      have lt : (ps.take m).length = m := by rw [List.length_take, ← HE.out]; omega
      have HO := Lib.hid ho
      have ET := Lib.hid eT
      have LT := Lib.hid lt
      clear ho eT hX hcl lt
      go_wp2_with (
        at_builtin
        refine wpList_append_node rfl (.tmp 13) (.tmp 15) rfl rfl rfl (own_keep (own_keep HO.out ((Below.refl _ _).alloc (Nat.le_refl _) (.cells (cl .u8 X).toArray 22))) ((Below.refl _ _).alloc (Nat.le_refl _) (.cells (cl .u8 X).toArray 146))) lX (blk_at (wr.alloc (.cells (cl .u8 X).toArray 22)) (cl .u8 X) 146 (b := wr.heap.size + 1) (by simp only [alloc_size])) (by rw [LT.out]; omega) (by have := hb.size; simp only [alloc_size]; omega) ?_
        intro v2 w2 ho2 hg2)
      have hb2 := ((hb.alloc hb.size (.cells (cl .u8 X).toArray 22)).alloc (by have := hb.size; simp only [alloc_size]; omega) (.cells (cl .u8 X).toArray 146)).grown hg2 (by have := hb.size; simp only [alloc_size]; omega) (fun j hj => own_blockN HO.out j (by simpa [Act.eval] using hj))
      rw [ET.out] at ho2
      clear hg2
      go_roundw
      case rel => exact ⟨m + 1, by omega, by go_num, ho2, hb2⟩
      case measure => simp [intOf]; omega
    · obtain rfl : m = n := by omega
      rw [List.take_of_length_le (by rw [← HE.out]; omega)] at ho
      have HO := Lib.hid ho
      clear ho
      go_wp2_with fail
      go_ret
      exact ⟨_, rfl, HO.out, hb⟩
/-- The chains within a signature. -/
theorem ld_chains {W : World} {g : Nat} {l : Int} {ch : List Nat} {p : Value} {t : TypeId} (hc : ch.length = 560) (hB : blk W g (sigV l ch p) t) : (ldA 55 (.pointer (some ⟨g, 1, none⟩))).run Try.prog W = .ok (agg .u8 ch) W := by
  have h1 := run_loadAt_part (P := Try.prog) (ty := 55) hB 1 560 (d := (Try.prog.underlying 55).get (by kernel_rfl)) (by kernel_rfl) (by kernel_rfl) (by kernel_rfl) (by rw [sigV_length, hc]; omega)
  rw [show ((sigV l ch p).drop 1).take 560 = cl .u8 ch by unfold sigV; rw [List.drop_succ_cons, List.drop_zero, List.take_left' (by rw [cl_length, hc])]] at h1
  exact h1
/-- The public value that chains lead to. -/
def valN (ch d : List Nat) (leaf : Nat) : List Nat := cmp leaf (flat (endF ch d leaf) 35)
theorem valN_length (ch d : List Nat) (leaf : Nat) : (valN ch d leaf).length = 16 := cmp_length _ _
set_option maxRecDepth 20000 in
theorem value (w : World) (leaf : Nat) (ch d : List Nat) (A : Option Addr) (n c : Nat) (hc : ch.length = 560) (hd : d.length = 16) (bd : By d) (hleaf : leaf ≤ 65535) :
    Calls Try.prog 106 #[.agg (sigV (leaf : Int) ch (.slice A n c)).toArray, agg .u8 d] w fun e w' => e = .returned (agg .u8 (valN ch d leaf)) ∧ Below w.heap.size w w' := by
  obtain ⟨V, hV⟩ : ∃ V, V = valN ch d leaf := ⟨_, rfl⟩
  have lV : V.length = 16 := by rw [hV]; exact valN_length _ _ _
  have c1 : Hid (∀ W, Calls Try.prog 33 #[.int .i64 (leaf : Int), agg .u8 d, agg .u8 ch] W fun e w' => e = .returned (.tuple #[agg .u8 V, .int .i64 0]) ∧ Below W.heap.size W w') := Lib.hid fun W => by rw [hV]; exact Recover_in W leaf d ch hc hd bd hleaf
  rw [← hV]
  clear hV
  obtain ⟨W0, hW0⟩ : ∃ W0, W0 = ((w.alloc (.cells (sigV (leaf : Int) ch (.slice A n c)).toArray 58)).alloc (.cells (cl .u8 d).toArray 22)).alloc (.cells (cl .u8 (zs 16)).toArray 22) := ⟨_, rfl⟩
  have b0 : blk W0 w.heap.size (sigV (leaf : Int) ch (.slice A n c)) 58 := by rw [hW0]; exact blk_alloc (blk_alloc (blk_new _ _ _) _) _
  have b1 : blk W0 (w.heap.size + 1) (cl .u8 d) 22 := by rw [hW0]; exact blk_alloc (blk_at _ _ _ (by simp only [alloc_size])) _
  have b2 : blk W0 (w.heap.size + 1 + 1) (cl .u8 (zs 16)) 22 := by rw [hW0]; exact blk_at _ _ _ (by simp only [alloc_size])
  have bl : Below w.heap.size w W0 := by rw [hW0]; exact (((Below.refl w.heap.size w).alloc (Nat.le_refl _) _).alloc (by simp only [alloc_size]; omega) _).alloc (by simp only [alloc_size]; omega) _
  have q0 := sig_leaf b0
  have q1 := ld_chains hc b0
  have k1 := bk_of b1
  rw [hW0] at q0 q1 k1
  have S0 := Lib.hid (And.intro b2 bl)
  have HW := Lib.hid hW0
  clear b0 b1 b2 bl hW0
  go_enter Try.func106, Try.ntmps106
  go_wp2_with fail
  rw [← HW.out]
  refine (c1.out _).mono ?_
  rintro e w1 ⟨rfl, hb1⟩
  have R1 := Lib.hid (blk_keep S0.out.1 hb1)
  have L1 := Lib.hid (bel_trans S0.out.2 hb1 S0.out.2.size)
  have k2 := bk_of R1.out
  have lt := blk_lt R1.out
  clear hb1 q0 q1 k1
  go_wp2_with fail
  have hb4 := bel_setRow L1.out (by omega : w.heap.size ≤ w.heap.size + 1 + 1) (cl .u8 V).toArray
  refine ret_b16 rfl rfl (blk_alloc (blk_setRow R1.out (cl .u8 V)) _) lV rfl ⟨rfl, hb4.alloc hb4.size _⟩
end Go.Proofs.Ytlgpipdeckdmjaa.Sgn
