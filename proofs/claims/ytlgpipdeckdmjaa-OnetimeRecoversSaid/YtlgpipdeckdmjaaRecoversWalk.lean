/-
  The walk of OnetimeRecovers.
-/
import Derived.Test.YtlgpipdeckdmjaaSigned
import Derived.Test.YtlgpipdeckdmjaaOpen3
import Derived.Test.YtlgpipdeckdmjaaOrd2
set_option linter.unusedVariables false
set_option linter.unusedSimpArgs false
namespace Go.Proofs.Ytlgpipdeckdmjaa.RecoversWalk
open Go.RowKit Base Reg Types Slice Sha
open Go.Proofs.Ytlgpipdeckdmjaa.One
open Go.Proofs.Ytlgpipdeckdmjaa.Known
open Go.Proofs.Ytlgpipdeckdmjaa.Signed
open Go.Proofs.Ytlgpipdeckdmjaa.Opened
attribute [local go_sem ↓ high] rd_bl16
attribute [local go_sem] bl16_0
/-- The frame while both digests are read. -/
def Fr (w : World) (leaf : Int) (l : List Nat) (v u7 u8 u13 u14 u15 u16 : Value) : Act :=
  { tmps := #[.int .i64 leaf, agg .u8 l, v, undef, .pointer (some ⟨w.heap.size, 0, none⟩), undef, .bool false, u7, u8, undef, undef, undef, undef, u13, u14, u15, u16, undef, undef, undef, undef, undef, undef, undef, undef, undef, undef, undef, undef, undef, undef, undef, undef, undef, undef, undef, undef, undef, undef, undef, undef, undef, undef, undef, undef, undef, undef, undef, undef, undef, undef, undef, undef, undef, undef, undef, undef, undef, undef, undef, undef, undef, undef, undef, undef, undef, undef, undef, undef, undef, undef, undef, undef, undef, undef, undef, undef, undef, undef, undef, undef, undef, undef, undef, undef, undef, undef, undef, undef, undef, undef], defers := [] }
def B1 (w : World) (leaf : Int) (l : List Nat) (v : Value) (x : Act) (W : World) : Prop :=
  ∃ u7 u8 u13 u14 u15 u16, x = Fr w leaf l v u7 u8 u13 u14 u15 u16 ∧ (blk W w.heap.size (cl .u8 l) 67 ∧ Below w.heap.size w W) ∧ (∀ p, u7 = .pointer (some ⟨p, 0, none⟩) → w.heap.size + 1 ≤ p ∧ ∃ cs : List Nat, cs.length = 16 ∧ blk W p (cl .u8 cs) 22) ∧ (∀ p, u8 = .pointer (some ⟨p, 0, none⟩) → w.heap.size + 1 ≤ p ∧ blk W p (cl .u8 (zs 16)) 22) ∧ (∀ p, u7 = .pointer (some ⟨p, 0, none⟩) → u8 = .pointer (some ⟨p, 0, none⟩) → False)
def G1 (w : World) (d o : List Nat) (i : Nat) (x : Act) (W : World) : Prop := match i with
  | 0 => x.tmps.getD 13 undef = .pointer (some ⟨w.heap.size, 0, none⟩)
  | 1 => x.tmps.getD 14 undef = agg .u8 d
  | 2 => x.tmps.getD 15 undef = .pointer (some ⟨w.heap.size, 16, none⟩)
  | 3 => x.tmps.getD 16 undef = agg .u8 o
  | 4 => ∃ p, x.tmps.getD 7 undef = .pointer (some ⟨p, 0, none⟩)
  | 5 => ∃ p, x.tmps.getD 8 undef = .pointer (some ⟨p, 0, none⟩)
  | 6 => ∃ p, x.tmps.getD 7 undef = .pointer (some ⟨p, 0, none⟩) ∧ blk W p (cl .u8 d) 22
  | _ => True
def U1 (i : Nat) (x : Act) (W : World) : Prop := match i with
  | 4 => x.tmps.getD 7 undef = undef
  | _ => True
theorem rec_facts (leaf : Nat) (d o s : List Nat) (hs : s.length = 560) (hd : d.length = 16) (bd : By d) (ho : o.length = 16) (hleaf : leaf ≤ 65535) : ∃ (V E : List Nat) (b : Bool), V.length = 16 ∧ E.length = 560 ∧ decide (o = V) = b ∧
    Hid (∀ w, Calls Try.prog 33 #[.int .i64 (leaf : Int), agg .u8 d, agg .u8 s] w fun e w' => e = .returned (.tuple #[agg .u8 V, .int .i64 0]) ∧ Below w.heap.size w w') ∧
    Hid (∀ w, Calls Try.prog 34 #[agg .u8 V, .int .i64 (leaf : Int), agg .u8 d, agg .u8 s] w fun e w' => e = .returned (.bool true) ∧ Below w.heap.size w w') ∧
    Hid (∀ w, Calls Try.prog 34 #[agg .u8 o, .int .i64 (leaf : Int), agg .u8 d, agg .u8 s] w fun e w' => e = .returned (.bool b) ∧ Below w.heap.size w w') ∧
    Hid (∀ w, Calls Try.prog 37 #[agg .u8 s] w fun e w' => e = .returned (agg .u8 s) ∧ Below w.heap.size w w') ∧
    Hid (∀ w, Calls Try.prog 36 #[.int .i64 (leaf : Int), agg .u8 d, agg .u8 s] w fun e w' => e = .returned (agg .u8 E) ∧ Below w.heap.size w w') ∧
    Hid (∀ w, Calls Try.prog 35 #[.int .i64 (leaf : Int), agg .u8 E] w fun e w' => e = .returned (agg .u8 V) ∧ Below w.heap.size w w') := by
  refine ⟨cmp leaf (flat (endF s d leaf) 35), flat (endF s d leaf) 35, decide (o = cmp leaf (flat (endF s d leaf) 35)), cmp_length _ _, flat_length (endF_length hs d leaf) 35, rfl, Lib.hid fun w => Recover_in w leaf d s hs hd bd hleaf, Lib.hid fun w => ?_, Lib.hid fun w => ?_, Lib.hid fun w => Ref.to_calls w s hs, Lib.hid fun w => Ref.last w s d leaf hs hd bd hleaf, Lib.hid fun w => Ref.compress w leaf _ (flat_length (endF_length hs d leaf) 35) hleaf⟩
  · have h := Verify_in w (cmp leaf (flat (endF s d leaf) 35)) leaf d s (cmp_length _ _) hs hd bd hleaf
    rw [decide_eq_true rfl] at h
    exact h
  · have h := Verify_in w o leaf d s ho hs hd bd hleaf
    rw [show decide (cmp leaf (flat (endF s d leaf) 35) = o) = decide (o = cmp leaf (flat (endF s d leaf) 35)) from decide_eq_decide.2 eq_comm] at h
    exact h
def rowF (l : List Nat) (n c : Nat) : List Nat := if c < n then elt l c else zs 16
theorem rowF_length {l : List Nat} {n : Nat} (hl : l.length = n * 16) (c : Nat) : (rowF l n c).length = 16 := by
  unfold rowF elt
  split
  · rename_i h
    have : (c + 1) * 16 ≤ n * 16 := Nat.mul_le_mul_right 16 h
    simp
    omega
  · rfl
/-- A value of the slice is read. -/
theorem ld_row {W : World} {b o n k : Nat} {l : List Nat} (hl : l.length = n * 16) (hk : k < n) (hc : ∀ j u, (cl .u8 l)[j]? = some u → W.cell? ⟨b, o + j, none⟩ = some u) :
    (ldA 22 (.pointer (some ⟨b, o + k * 16, none⟩))).run Try.prog W = .ok (agg .u8 (rowF l n k)) W := by
  have h1 : (cl .u8 (rowF l n k)).length = 16 := by rw [cl_length, rowF_length hl]
  have h := run_loadAt_mid (P := Try.prog) W b (o + k * 16) 22 (cl .u8 (rowF l n k)) ((Try.prog.underlying 22).get (by kernel_rfl)) (fun j v hv => by
    have hj : j < 16 := by rw [← h1]; exact (List.getElem?_eq_some_iff.1 hv).1
    rw [rowF, if_pos hk, elt, ← cl_take, ← cl_drop, List.getElem?_take, if_pos hj, List.getElem?_drop] at hv
    have := hc _ _ hv
    rw [← this]
    congr 2
    omega) (by kernel_rfl) (by kernel_rfl) (by rw [h1]; kernel_rfl)
  exact h

set_option maxRecDepth 20000 in
set_option maxHeartbeats 8000000 in
theorem walk_mid (w : World) (leaf : Int) (d o : List Nat) (v : Value) (n : Nat) (l : List Nat) (hd : d.length = 16) (bd : By d) (ho16 : o.length = 16) (hr : Rd w 16 v n (cl .u8 l)) (hl : l.length = n * 16) :
    Calls Try.prog 9 #[.int .i64 leaf, agg .u8 (d ++ o), v] w fun e w' => e = .returned (.bool true) ∧ Below w.heap.size w w' := by
  obtain ⟨A, c, rfl, hnc, hcm, hl16, hA0, hr⟩ := hr
  have hn63 : n ≤ 9223372036854775807 := by unfold maxLen at hcm; omega
  obtain ⟨l1, hl1⟩ : ∃ l1, l1 = d ++ o := ⟨_, rfl⟩
  have ll1 : l1.length = 32 := by rw [hl1, List.length_append, hd, ho16]
  have td : (cl .u8 l1).take 16 = cl .u8 d := by rw [cl_take, hl1, List.take_left' hd]
  have to : ((cl .u8 l1).drop 16).take 16 = cl .u8 o := by rw [cl_drop, cl_take, hl1, List.drop_left' hd, List.take_of_length_le (by omega)]
  rw [← hl1]
  have TD := Lib.hid td
  have TO := Lib.hid to
  have HR := Lib.hid hr
  have HL := Lib.hid hl
  clear hl1 td to hr hl hl16 hA0
  go_enter Try.func9, Try.ntmps9
  go_wp2_with fail
  refine Ord.wp_region_inv2 7 (B1 w leaf l1 (.slice A n c)) (G1 w d o) U1 (by kernel_rfl) (by kernel_rfl) ⟨undef, undef, undef, undef, undef, undef, rfl, ⟨blk_drew (blk_new _ _ _), ((Below.refl w.heap.size w).alloc (Nat.le_refl _) _).drew⟩, fun p h => (by cases h), fun p h => (by cases h), fun p h => (by cases h)⟩ (fun j hj => by match j, hj with | 0, _ => trivial | 1, _ => trivial | 2, _ => trivial | 3, _ => trivial | 4, _ => rfl | 5, _ => trivial | 6, _ => trivial) ?_ ?_
  · intro i op hi ho x W hB hU hG
    obtain ⟨u7, u8, u13, u14, u15, u16, rfl, hA, h7, h8, hne⟩ := hB
    have q1 : ldGot Try.prog 22 w.heap.size 16 W (bk W w.heap.size) = .ok (agg .u8 d) W := by
      have h := ld_part (P := Try.prog) (ty := 22) (n := 16) (d := (Try.prog.underlying 22).get (by kernel_rfl)) hA.1 (by kernel_rfl) (by kernel_rfl) (by kernel_rfl) (by rw [cl_length, ll1]; omega)
      rw [TD.out] at h
      exact h
    have q2 : (ldA 22 (.pointer (some ⟨w.heap.size, 16, none⟩))).run Try.prog W = .ok (agg .u8 o) W := by
      have h := run_loadAt_part (P := Try.prog) (ty := 22) hA.1 16 16 (d := (Try.prog.underlying 22).get (by kernel_rfl)) (by kernel_rfl) (by kernel_rfl) (by kernel_rfl) (by rw [cl_length, ll1]; omega)
      rw [TO.out] at h
      exact h
    have HA := Lib.hid hA
    have H7 := Lib.hid h7
    have H8 := Lib.hid h8
    have HN := Lib.hid hne
    clear hA h7 h8 hne
    match i, hi with
    | 0, _ =>
      cases ho
      clear hG hU
      unfold Fr
      go_wp2_with fail
      refine ⟨⟨u7, u8, _, u14, u15, u16, rfl, HA.out, H7.out, H8.out, HN.out⟩, rfl, ?_⟩
      intro j hj hji
      match j, hj with
      | 0, _ => exact absurd rfl hji
      | 1, _ => exact ⟨fun h => h, fun h => h⟩
      | 2, _ => exact ⟨fun h => h, fun h => h⟩
      | 3, _ => exact ⟨fun h => h, fun h => h⟩
      | 4, _ => exact ⟨fun h => h, fun h => h⟩
      | 5, _ => exact ⟨fun h => h, fun h => h⟩
      | 6, _ => exact ⟨fun h => h, fun h => h⟩
    | 1, _ =>
      cases ho
      have g : u13 = .pointer (some ⟨w.heap.size, 0, none⟩) := hG ⟨0, .data⟩ (by simp) rfl
      subst g
      clear hG hU
      unfold Fr
      go_wp2_with fail
      refine ⟨⟨u7, u8, _, _, u15, u16, rfl, HA.out, H7.out, H8.out, HN.out⟩, rfl, ?_⟩
      intro j hj hji
      match j, hj with
      | 0, _ => exact ⟨fun h => h, fun h => h⟩
      | 1, _ => exact absurd rfl hji
      | 2, _ => exact ⟨fun h => h, fun h => h⟩
      | 3, _ => exact ⟨fun h => h, fun h => h⟩
      | 4, _ => exact ⟨fun h => h, fun h => h⟩
      | 5, _ => exact ⟨fun h => h, fun h => h⟩
      | 6, _ => exact ⟨fun h => h, fun h => h⟩
    | 2, _ =>
      cases ho
      clear hG hU
      unfold Fr
      go_wp2_with fail
      refine ⟨⟨u7, u8, u13, u14, _, u16, rfl, HA.out, H7.out, H8.out, HN.out⟩, rfl, ?_⟩
      intro j hj hji
      match j, hj with
      | 0, _ => exact ⟨fun h => h, fun h => h⟩
      | 1, _ => exact ⟨fun h => h, fun h => h⟩
      | 2, _ => exact absurd rfl hji
      | 3, _ => exact ⟨fun h => h, fun h => h⟩
      | 4, _ => exact ⟨fun h => h, fun h => h⟩
      | 5, _ => exact ⟨fun h => h, fun h => h⟩
      | 6, _ => exact ⟨fun h => h, fun h => h⟩
    | 3, _ =>
      cases ho
      have g : u15 = .pointer (some ⟨w.heap.size, 16, none⟩) := hG ⟨2, .data⟩ (by simp) rfl
      subst g
      clear hG hU
      unfold Fr
      go_wp2_with fail
      refine ⟨⟨u7, u8, u13, u14, _, _, rfl, HA.out, H7.out, H8.out, HN.out⟩, rfl, ?_⟩
      intro j hj hji
      match j, hj with
      | 0, _ => exact ⟨fun h => h, fun h => h⟩
      | 1, _ => exact ⟨fun h => h, fun h => h⟩
      | 2, _ => exact ⟨fun h => h, fun h => h⟩
      | 3, _ => exact absurd rfl hji
      | 4, _ => exact ⟨fun h => h, fun h => h⟩
      | 5, _ => exact ⟨fun h => h, fun h => h⟩
      | 6, _ => exact ⟨fun h => h, fun h => h⟩
    | 4, _ =>
      cases ho
      have g : u7 = undef := hU
      subst g
      clear hG hU
      unfold Fr
      go_wp2_with fail
      have hk : Below W.heap.size W (W.alloc (.cells (cl .u8 (zs 16)).toArray 22)) := (Below.refl _ _).alloc (Nat.le_refl _) _
      have hsz := blk_lt HA.out.1
      refine ⟨⟨_, u8, u13, u14, u15, u16, rfl, ⟨blk_keep HA.out.1 hk, bel_trans HA.out.2 hk HA.out.2.size⟩, (fun p h => by cases h; exact ⟨by omega, zs 16, rfl, blk_new _ _ _⟩), (fun p h => ⟨(H8.out p h).1, blk_keep (H8.out p h).2 hk⟩), (fun p h h' => by cases h; have := blk_lt (H8.out _ h').2; omega)⟩, ⟨_, rfl⟩, ?_⟩
      intro j hj hji
      match j, hj with
      | 0, _ => exact ⟨fun h => h, fun h => h⟩
      | 1, _ => exact ⟨fun h => h, fun h => h⟩
      | 2, _ => exact ⟨fun h => h, fun h => h⟩
      | 3, _ => exact ⟨fun h => h, fun h => h⟩
      | 4, _ => exact absurd rfl hji
      | 5, _ => exact ⟨fun h => h, fun h => h⟩
      | 6, _ => exact ⟨fun ⟨p, hp, _⟩ => (by cases hp), fun h => h⟩
    | 5, _ =>
      cases ho
      clear hG hU
      unfold Fr
      go_wp2_with fail
      have hk : Below W.heap.size W (W.alloc (.cells (cl .u8 (zs 16)).toArray 22)) := (Below.refl _ _).alloc (Nat.le_refl _) _
      have hsz := blk_lt HA.out.1
      refine ⟨⟨u7, _, u13, u14, u15, u16, rfl, ⟨blk_keep HA.out.1 hk, bel_trans HA.out.2 hk HA.out.2.size⟩, (fun p h => ⟨(H7.out p h).1, by obtain ⟨cs, hcs, hb⟩ := (H7.out p h).2; exact ⟨cs, hcs, blk_keep hb hk⟩⟩), (fun p h => by cases h; exact ⟨by omega, blk_new _ _ _⟩), (fun p h' h => by cases h; obtain ⟨cs, hcs, hb⟩ := (H7.out _ h').2; have := blk_lt hb; omega)⟩, ⟨_, rfl⟩, ?_⟩
      intro j hj hji
      match j, hj with
      | 0, _ => exact ⟨fun h => h, fun h => h⟩
      | 1, _ => exact ⟨fun h => h, fun h => h⟩
      | 2, _ => exact ⟨fun h => h, fun h => h⟩
      | 3, _ => exact ⟨fun h => h, fun h => h⟩
      | 4, _ => exact ⟨fun h => h, fun h => h⟩
      | 5, _ => exact absurd rfl hji
      | 6, _ => exact ⟨fun ⟨p, hp, hb⟩ => ⟨p, hp, blk_keep hb hk⟩, fun h => h⟩
    | 6, _ =>
      cases ho
      have g : u14 = agg .u8 d := hG ⟨1, .data⟩ (by simp) rfl
      obtain ⟨p7, g7⟩ : ∃ p, u7 = .pointer (some ⟨p, 0, none⟩) := hG ⟨4, .data⟩ (by simp) rfl
      subst g g7
      obtain ⟨hp7, cs, hcs, hB7⟩ := H7.out p7 rfl
      have k7 := bk_of hB7
      have K7 := Lib.hid hB7
      clear hG hU hB7
      unfold Fr
      go_wp2_with fail
      refine ⟨⟨_, u8, u13, _, u15, u16, rfl, ⟨blk_setRow_ne HA.out.1 _ (by omega), bel_setRow HA.out.2 (by omega) _⟩, (fun p h => by cases h; exact ⟨hp7, d, hd, blk_setRow K7.out (cl .u8 d)⟩), (fun p h => ⟨(H8.out p h).1, blk_setRow_ne (H8.out p h).2 _ (fun e => HN.out p7 rfl (by rw [h, e]))⟩), HN.out⟩, ⟨p7, rfl, blk_setRow K7.out (cl .u8 d)⟩, ?_⟩
      intro j hj hji
      match j, hj with
      | 0, _ => exact ⟨fun h => h, fun h => h⟩
      | 1, _ => exact ⟨fun h => h, fun h => h⟩
      | 2, _ => exact ⟨fun h => h, fun h => h⟩
      | 3, _ => exact ⟨fun h => h, fun h => h⟩
      | 4, _ => exact ⟨fun h => h, fun h => h⟩
      | 5, _ => exact ⟨fun h => h, fun h => h⟩
      | 6, _ => exact absurd rfl hji
  · intro x W hB hG
    obtain ⟨u7, u8, u13, u14, u15, u16, rfl, hA, h7, h8, hne⟩ := hB
    have g0 : u13 = .pointer (some ⟨w.heap.size, 0, none⟩) := hG 0 (by omega)
    have g1 : u14 = agg .u8 d := hG 1 (by omega)
    have g2 : u15 = .pointer (some ⟨w.heap.size, 16, none⟩) := hG 2 (by omega)
    have g3 : u16 = agg .u8 o := hG 3 (by omega)
    obtain ⟨p7, g4⟩ : ∃ p, u7 = .pointer (some ⟨p, 0, none⟩) := hG 4 (by omega)
    obtain ⟨p8, g5⟩ : ∃ p, u8 = .pointer (some ⟨p, 0, none⟩) := hG 5 (by omega)
    obtain ⟨hp7, _⟩ := h7 p7 g4
    have hB7 : blk W p7 (cl .u8 d) 22 := by
      obtain ⟨p, e1, e2⟩ := hG 6 (by omega)
      have e3 : u7 = .pointer (some ⟨p, 0, none⟩) := e1
      rw [g4] at e3
      cases e3
      exact e2
    obtain ⟨hp8, hB8⟩ := h8 p8 g5
    have hn78 : p7 ≠ p8 := fun e => hne p7 g4 (by rw [g5, e])
    subst g0 g1 g2 g3 g4 g5
    have hn87 : p8 ≠ p7 := fun e => hn78 e.symm
    have k8 := bk_of hB8
    have S0 := Lib.hid (And.intro (blk_setRow_ne hB7 (cl .u8 o).toArray hn78) (And.intro (blk_setRow hB8 (cl .u8 o)) (bel_setRow hA.2 (by omega : w.heap.size ≤ p8) (cl .u8 o).toArray)))
    clear hG hA h7 h8 hne hB7 hB8
    unfold Fr
    go_wp2_with fail
    obtain ⟨W1, hW1⟩ : ∃ W1, W1 = W.setRow p8 (cl .u8 o).toArray := ⟨_, rfl⟩
    have eW : W.heap.size = W1.heap.size := by rw [hW1]; simp
    rw [← hW1] at S0 ⊢
    clear hW1 k8
    have T0 := Lib.hid (And.intro (blk_alloc S0.out.1 (.cells (cl .u8 (zs 560)).toArray 68)) (And.intro (blk_alloc S0.out.2.1 (.cells (cl .u8 (zs 560)).toArray 68)) (And.intro (blk_at W1 (cl .u8 (zs 560)) 68 eW) (S0.out.2.2.alloc S0.out.2.2.size (.cells (cl .u8 (zs 560)).toArray 68)))))
    have lt7 := blk_lt S0.out.1
    have lt8 := blk_lt S0.out.2.1
    have ltw := S0.out.2.2.size
    rw [← eW] at lt7 lt8 ltw
    clear S0 eW
    go_loopw [10] (fun i wr => ∃ k : Nat, k ≤ 35 ∧ k ≤ n ∧ i = .int .i64 k ∧ blk wr p7 (cl .u8 d) 22 ∧ blk wr p8 (cl .u8 o) 22 ∧ blk wr W.heap.size (cl .u8 (fl (rowF l n) k)) 68 ∧ Below w.heap.size w wr) (fun i _ => 35 - (intOf i).toNat)
    case atStart => exact ⟨0, by omega, by omega, rfl, T0.out.1, T0.out.2.1, by rw [fl_zero]; exact T0.out.2.2.1, T0.out.2.2.2⟩
    case round =>
      clear T0
      obtain ⟨k, hk, hkn, rfl, hb7, hb8, hb9, hbel⟩ := hrel
      by_cases hk2 : k < n ∧ k < 35
      · obtain ⟨hk3, hk4⟩ := hk2
        obtain ⟨b, off, rfl, hlt, hcell⟩ := HR.out (by omega)
        have q1 := ld_row HL.out hk3 (fun j u hj => (hbel.cell (p := ⟨b, off + j, none⟩) hlt).trans (hcell j u hj))
        have q2 := st_at (rowF_length HL.out) hk4 hb9
        have H7 := Lib.hid hb7
        have H8 := Lib.hid hb8
        have H9 := Lib.hid hb9
        clear hb7 hb8 hb9 hcell
        go_wp2_with fail
        exact ⟨⟨k + 1, by omega, by omega, by go_num, blk_setRow_ne H7.out _ (by omega), blk_setRow_ne H8.out _ (by omega), blk_setRow H9.out (cl .u8 (fl (rowF l n) (k + 1))), bel_setRow hbel (by omega) _⟩, by simp [intOf]; omega⟩
      · obtain ⟨s, hs⟩ : ∃ s, s = fl (rowF l n) k := ⟨_, rfl⟩
        have ls : s.length = 560 := by rw [hs]; exact fl_length (rowF_length HL.out) hk
        rw [← hs] at hb9
        have HS := Lib.hid (And.intro hb7 (And.intro hb8 (And.intro hb9 hbel)))
        clear hb7 hb8 hb9 hbel hs
        have hcase : (k < n ∧ k = 35) ∨ (k = n) := by omega
        have hfin : ∀ (a : Act) (Q : Exit → Act → World → Prop), True := fun _ _ => trivial
        clear hfin
        by_cases hleaf : 0 ≤ leaf ∧ leaf ≤ 65535
        · obtain ⟨lf, rfl⟩ := Int.eq_ofNat_of_zero_le hleaf.1
          obtain ⟨V, E, b, lv, le, hb, c1, c2, c3, c4, c5, c6⟩ := rec_facts lf d o s ls hd bd ho16 (by omega)
          have i1 : decide ((0 : Int) ≤ (lf : Int) ∧ (lf : Int) ≤ 65535) = true := by simp; omega
          have I1 := Lib.hid i1
          clear i1 hleaf
          rcases hcase with ⟨hk3, hk4⟩ | hk3
          all_goals
            first | subst hk4 | subst hk3
            go_wp2_with fail
            refine (known _).mono ?_
            rintro e w1 ⟨rfl, hb1⟩
            have H7 := Lib.hid (blk_keep HS.out.1 hb1)
            have H8 := Lib.hid (blk_keep HS.out.2.1 hb1)
            have H9 := Lib.hid (blk_keep HS.out.2.2.1 hb1)
            have HL1 := Lib.hid (bel_trans HS.out.2.2.2 hb1 HS.out.2.2.2.size)
            have r7 := bk_of H7.out
            have r9 := bk_of H9.out
            clear hb1
            go_wp2_with fail
            refine (c1.out w1).mono ?_
            rintro e w2 ⟨rfl, hb2⟩
            have J7 := Lib.hid (blk_alloc (blk_keep H7.out hb2) (.cells (cl .u8 V).toArray 22))
            have J8 := Lib.hid (blk_alloc (blk_keep H8.out hb2) (.cells (cl .u8 V).toArray 22))
            have J9 := Lib.hid (blk_alloc (blk_keep H9.out hb2) (.cells (cl .u8 V).toArray 22))
            have JV := Lib.hid (blk_new w2 (cl .u8 V) 22)
            have JL := Lib.hid ((bel_trans HL1.out hb2 HL1.out.size).alloc (by have := bel_trans HL1.out hb2 HL1.out.size; exact this.size) (.cells (cl .u8 V).toArray 22))
            clear hb2 r7 r9
            go_wp2_with fail
            refine (isin lf 65535 _).mono ?_
            rintro e w4 ⟨rfl, rfl⟩
            rw [I1.out]
            go_wp2_with fail
            obtain ⟨ι, F, hF, hin⟩ := class_of (fun Y => blk Y p7 (cl .u8 d) 22 ∧ blk Y p8 (cl .u8 o) 22 ∧ blk Y W.heap.size (cl .u8 s) 68 ∧ blk Y w2.heap.size (cl .u8 V) 22 ∧ Below w.heap.size w Y)
            have h0 := hin (w2.alloc (.cells (cl .u8 V).toArray 22)).drew ⟨blk_drew J7.out, blk_drew J8.out, blk_drew J9.out, blk_drew JV.out, JL.out.drew⟩
            have hne : Nonempty ι := ⟨h0.choose⟩
            have q0 : ∀ i, bk (F i) p7 = some (cl .u8 d).toArray := fun i => bk_of (hF i).1
            have q1 : ∀ i, bk (F i) p8 = some (cl .u8 o).toArray := fun i => bk_of (hF i).2.1
            have q2 : ∀ i, bk (F i) W.heap.size = some (cl .u8 s).toArray := fun i => bk_of (hF i).2.2.1
            have q3 : ∀ i, bk (F i) w2.heap.size = some (cl .u8 V).toArray := fun i => bk_of (hF i).2.2.2.1
            have HF := Lib.hid hF
            have HI := Lib.hid hin
            have H0 := Lib.hid h0
            have hk : ∀ Y Y' : World, (blk Y p7 (cl .u8 d) 22 ∧ blk Y p8 (cl .u8 o) 22 ∧ blk Y W.heap.size (cl .u8 s) 68 ∧ blk Y w2.heap.size (cl .u8 V) 22 ∧ Below w.heap.size w Y) → Below Y.heap.size Y Y' →
              (blk Y' p7 (cl .u8 d) 22 ∧ blk Y' p8 (cl .u8 o) 22 ∧ blk Y' W.heap.size (cl .u8 s) 68 ∧ blk Y' w2.heap.size (cl .u8 V) 22 ∧ Below w.heap.size w Y') :=
              fun _ _ h hb => ⟨blk_keep h.1 hb, blk_keep h.2.1 hb, blk_keep h.2.2.1 hb, blk_keep h.2.2.2.1 hb, bel_trans h.2.2.2.2 hb h.2.2.2.2.size⟩
            have HK := Lib.hid hk
            clear hF hin h0 hk
            refine wp_region_all F (by kernel_rfl) (by kernel_rfl) H0.out ?_
            repeat (go_big_quiet_step (first
              | (go_at_call 37; exact quiet_below HF.out HI.out HK.out (c4.out _))
              | (go_at_call 36; exact quiet_below HF.out HI.out HK.out (c5.out _))
              | (go_at_call 35; exact quiet_below HF.out HI.out HK.out (c6.out _))
              | (go_at_call 34; first
                | (with_reducible exact quiet_below HF.out HI.out HK.out (c2.out _))
                | (with_reducible exact quiet_below HF.out HI.out HK.out (c3.out _)))))
            refine wpQuiet_nil ?_
            intro i
            go_wp2_with fail
            go_ret
            exact ⟨rfl, (HF.out i).2.2.2.2⟩
        · obtain ⟨Z, hZ⟩ : ∃ Z, Z = zs 16 := ⟨_, rfl⟩
          have lz : Z.length = 16 := by rw [hZ, zs_length]
          have c1 := Lib.hid fun w => Recover_out w leaf d s ls hd hleaf
          rw [← hZ] at c1
          have c2 := Lib.hid fun w => Verify_out w Z leaf d s lz ls hd hleaf
          have g1 := bl16_0
          rw [← hZ] at g1
          have I1 := Lib.hid (decide_eq_false hleaf)
          clear hleaf hZ
          rcases hcase with ⟨hk3, hk4⟩ | hk3
          all_goals
            first | subst hk4 | subst hk3
            go_wp2_with fail
            refine (known _).mono ?_
            rintro e w1 ⟨rfl, hb1⟩
            have H7 := Lib.hid (blk_keep HS.out.1 hb1)
            have H9 := Lib.hid (blk_keep HS.out.2.2.1 hb1)
            have HL1 := Lib.hid (bel_trans HS.out.2.2.2 hb1 HS.out.2.2.2.size)
            have r7 := bk_of H7.out
            have r9 := bk_of H9.out
            clear hb1
            go_wp2_with fail
            refine (c1.out w1).mono ?_
            rintro e w2 ⟨rfl, hb2⟩
            have s7 := bk_of (blk_keep H7.out hb2)
            have s9 := bk_of (blk_keep H9.out hb2)
            have t7 := blk_lt (blk_keep H7.out hb2)
            have t9 := blk_lt (blk_keep H9.out hb2)
            have JL := Lib.hid ((bel_trans HL1.out hb2 HL1.out.size).alloc (by have := bel_trans HL1.out hb2 HL1.out.size; exact this.size) (.cells (cl .u8 Z).toArray 22))
            clear hb2 r7 r9
            go_wp2_with fail
            refine (isin leaf 65535 _).mono ?_
            rintro e w4 ⟨rfl, rfl⟩
            rw [I1.out]
            go_wp2_with fail
            refine (c2.out _).mono ?_
            rintro e w5 ⟨rfl, hb5⟩
            have L5 := bel_trans JL.out hb5 JL.out.size
            clear hb5
            go_wp2_with fail
            go_ret
            exact ⟨rfl, L5⟩
theorem walk (w : World) (leaf : Int) (l1 : List Nat) (v : Value) (n : Nat) (l : List Nat) (hw : (Lit.int .i64 leaf).wf = true) (hl1 : l1.length = 2 * 16) (hb1 : By8 l1) (hr : Rd w 16 v n (cl .u8 l)) (hl : l.length = n * 16) (hb : By8 l) :
    Calls Try.prog 9 #[.int .i64 leaf, agg .u8 l1, v] w fun e w' => e = .returned (.bool true) ∧ Below w.heap.size w w' := by
  have h := walk_mid w leaf (l1.take 16) (l1.drop 16) v n l (by simp; omega) (fun j => by
    by_cases hj : j < 16
    · have := hb1 j
      rw [List.getD_eq_getElem?_getD, List.getElem?_take, if_pos hj, ← List.getD_eq_getElem?_getD]
      exact this
    · rw [List.getD_eq_getElem?_getD, List.getElem?_take, if_neg hj]; decide) (by simp; omega) hr hl
  rw [List.take_append_drop] at h
  exact h
end Go.Proofs.Ytlgpipdeckdmjaa.RecoversWalk
