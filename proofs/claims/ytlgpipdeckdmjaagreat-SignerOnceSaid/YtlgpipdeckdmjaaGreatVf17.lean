/-
  Several texts laid into one (merge.py): Sgn5.
-/
import Derived.Test.YtlgpipdeckdmjaaGreatVf16
/-
  signer.Root, signer.Verify.
-/
set_option linter.unusedVariables false
set_option linter.unusedSimpArgs false
namespace Go.Proofs.YtlgpipdeckdmjaaGreat.Sgn
open Go.RowKit Base Reg Types Slice Sha
open Go.Proofs.YtlgpipdeckdmjaaGreat.One
open Go.Proofs.YtlgpipdeckdmjaaGreat.Str
open Go.Proofs.YtlgpipdeckdmjaaGreat.Mer
open Go.Proofs.YtlgpipdeckdmjaaGreat.Signed
/-- The frame of Root while the leaf's node and the path are gathered. -/
def FrR (w : World) (pv leaf : Nat) (ch d V : List Nat) (p : Value) (u8 u19 u20 u21 u22 u23 u24 u25 u26 u27 u28 u29 u30 : Value) : Act :=
  { tmps := #[agg .u8 d, .agg (sigV (leaf : Int) ch p).toArray, .pointer (some ⟨w.heap.size, 0, none⟩), .pointer (some ⟨w.heap.size + 1, 0, none⟩), .pointer (some ⟨w.heap.size + 1 + 1, 0, none⟩), .int .i64 0, .int .i64 0, .pointer (some ⟨pv, 0, none⟩), u8, undef, .agg (sigV (leaf : Int) ch p).toArray, .int .i64 0, .int .i64 0, .bool false, undef, undef, .agg (sigV (leaf : Int) ch p).toArray, agg .u8 d, agg .u8 V, u19, u20, u21, u22, u23, u24, u25, u26, u27, u28, u29, u30, undef, undef], defers := [] }
def AtR (w : World) (pv leaf : Nat) (ch V : List Nat) (p : Value) (ps : List (List Nat)) (W : World) : Prop :=
  blk W (w.heap.size + 1) (sigV (leaf : Int) ch p) 31 ∧ blk W (w.heap.size + 1 + 1) (cl .u8 (zs 16)) 23 ∧ blk W pv (cl .u8 V) 23 ∧ SlN W p ps ∧ Below w.heap.size w W
theorem AtR.keep {w : World} {pv leaf : Nat} {ch V : List Nat} {p : Value} {ps : List (List Nat)} {W W' : World} (h : AtR w pv leaf ch V p ps W) (hb : Below W.heap.size W W') : AtR w pv leaf ch V p ps W' :=
  ⟨blk_keep h.1 hb, blk_keep h.2.1 hb, blk_keep h.2.2.1 hb, h.2.2.2.1.keep hb, bel_trans h.2.2.2.2 hb h.2.2.2.2.size⟩
def BR (w : World) (pv leaf : Nat) (ch d V : List Nat) (p : Value) (ps : List (List Nat)) (x : Act) (W : World) : Prop :=
  ∃ u8 u19 u20 u21 u22 u23 u24 u25 u26 u27 u28 u29 u30, x = FrR w pv leaf ch d V p u8 u19 u20 u21 u22 u23 u24 u25 u26 u27 u28 u29 u30 ∧ AtR w pv leaf ch V p ps W ∧ (∀ q, u8 = .pointer (some ⟨q, 0, none⟩) → w.heap.size ≤ q ∧ ∃ cs : List Nat, cs.length = 16 ∧ blk W q (cl .u8 cs) 81) ∧ (∀ q, u8 = .pointer (some ⟨q, 0, none⟩) → u27.ownBlock ≠ some q) ∧ (∀ q, u27.ownBlock = some q → q < W.heap.size)
def GR (w : World) (pv leaf : Nat) (ch L R : List Nat) (p : Value) (ps : List (List Nat)) (j : Nat) (x : Act) (W : World) : Prop := match j with
  | 0 => x.tmps.getD 20 undef = .pointer (some ⟨w.heap.size + 1, 0, none⟩)
  | 1 => x.tmps.getD 21 undef = .int .i64 (leaf : Int)
  | 2 => x.tmps.getD 22 undef = .slice (some ⟨pv, 0, none⟩) 16 16
  | 3 => x.tmps.getD 23 undef = agg .u8 L
  | 4 => x.tmps.getD 24 undef = .pointer (some ⟨w.heap.size + 1, 0, none⟩)
  | 5 => x.tmps.getD 25 undef = .int .i64 (leaf : Int)
  | 6 => x.tmps.getD 26 undef = .agg (sigV (leaf : Int) ch p).toArray
  | 7 => ∃ y, x.tmps.getD 27 undef = y ∧ OwnN 81 W w.heap.size y ps
  | 8 => x.tmps.getD 28 undef = .tuple #[agg .u8 R, .int .i64 0]
  | 9 => x.tmps.getD 19 undef = .tuple #[agg .u8 R, .int .i64 0]
  | 10 => x.tmps.getD 29 undef = agg .u8 R
  | 11 => x.tmps.getD 30 undef = .int .i64 0
  | 12 => ∃ q, x.tmps.getD 8 undef = .pointer (some ⟨q, 0, none⟩)
  | 13 => ∃ q, x.tmps.getD 8 undef = .pointer (some ⟨q, 0, none⟩) ∧ blk W q (cl .u8 R) 81
  | _ => True
def UR (j : Nat) (x : Act) (W : World) : Prop := match j with
  | 12 => x.tmps.getD 8 undef = undef
  | _ => True
theorem blk_ne {W : World} {b g : Nat} {cs ds : List Value} {t e : TypeId} (h : blk W b cs t) (k : blk W g ds e) (he : t ≠ e) : b ≠ g := fun hb => he (blk_fun h (by rw [hb]; exact k)).2
/-- The root that a signature leads to. -/
def reach (ch d : List Nat) (leaf : Nat) (ps : List (List Nat)) : List Nat := climbF (leafN leaf (valN ch d leaf)) leaf ps ps.length
theorem reach_length (ch d : List Nat) (leaf : Nat) (ps : List (List Nat)) : (reach ch d leaf ps).length = 16 := climbF_length (leafN_length _ _) _ _ _
set_option maxRecDepth 20000 in
set_option maxHeartbeats 8000000 in
theorem root_in (w : World) (leaf : Nat) (ch d : List Nat) (p : Value) (ps : List (List Nat)) (hc : ch.length = 560) (hd : d.length = 16) (bd : By d) (hp : SlN w p ps) (hN : N16 ps) (hn1 : 1 ≤ ps.length) (hn8 : ps.length ≤ 8) (hl : leaf < 2 ^ ps.length) :
    Calls Tryz.prog 17 #[agg .u8 d, .agg (sigV (leaf : Int) ch p).toArray] w fun e w' => e = .returned (.tuple #[agg .u8 (reach ch d leaf ps), .int .i64 0]) ∧ Below w.heap.size w w' := by
  have p8 : 2 ^ ps.length ≤ 2 ^ 8 := Nat.pow_le_pow_right (by omega) hn8
  have hl' : (leaf : Int) < 2 ^ ps.length := by exact_mod_cast hl
  obtain ⟨R, hR⟩ : ∃ R, R = reach ch d leaf ps := ⟨_, rfl⟩
  obtain ⟨V, hV⟩ : ∃ V, V = valN ch d leaf := ⟨_, rfl⟩
  obtain ⟨L, hL⟩ : ∃ L, L = leafN leaf V := ⟨_, rfl⟩
  have lR : R.length = 16 := by rw [hR]; exact reach_length _ _ _ _
  have lV : V.length = 16 := by rw [hV]; exact valN_length _ _ _
  have lL : L.length = 16 := by rw [hL]; exact leafN_length _ _
  have eR : climbF L leaf ps ps.length = R := by rw [hR, hL, hV]; rfl
  obtain ⟨A, c, hpA, -⟩ := id hp
  have c1 : Hid (∀ W, Calls Tryz.prog 19 #[.agg (sigV (leaf : Int) ch p).toArray] W fun e w' => e = .returned (.int .i64 0) ∧ Below W.heap.size W w') := Lib.hid fun W => by rw [hpA]; exact sig_check W leaf ch A ps.length c hc hn1 hn8 (by omega) hl'
  have c2 : Hid (∀ W, Calls Tryz.prog 44 #[.agg (sigV (leaf : Int) ch p).toArray, agg .u8 d] W fun e w' => e = .returned (agg .u8 V) ∧ Below W.heap.size W w') := Lib.hid fun W => by rw [hpA, hV]; exact value W leaf ch d A ps.length c hc hd bd (by omega)
  have CL : Hid (∀ (W : World) (pv : Nat), blk W pv (cl .u8 V) 23 → Calls Tryz.prog 46 #[.int .i64 (leaf : Int), .slice (some ⟨pv, 0, none⟩) 16 16] W fun e w' => e = .returned (agg .u8 L) ∧ Below W.heap.size W w') := Lib.hid fun W pv hB => by rw [hL]; exact mleaf W leaf V _ (sl_whole hB lV.symm (Nat.le_refl _)) (by omega) (by omega)
  have CN : Hid (∀ (W : World), SlN W p ps → Calls Tryz.prog 47 #[.agg (sigV (leaf : Int) ch p).toArray] W fun e w' => ∃ x, e = .returned x ∧ OwnN 81 w' W.heap.size x ps ∧ Below W.heap.size W w') := Lib.hid fun W hW => nodes W leaf ch p ps hc hW hN (by omega)
  have CF : Hid (∀ (W : World) x base, OwnN 81 W base x ps → Calls Tryz.prog 45 #[agg .u8 L, .int .i64 (leaf : Int), x] W fun e w' => e = .returned (.tuple #[agg .u8 R, .int .i64 0]) ∧ Below W.heap.size W w') := Lib.hid fun W x base hx => by
    have h := from_in W L leaf x ps lL (SlC.of_own hx) hN hn8 hl
    rw [eR] at h
    exact h
  rw [← hR]
  have HP := Lib.hid hp
  clear hpA hp hN hR hV hL eR hl hl' p8
  obtain ⟨W0, hW0⟩ : ∃ W0, W0 = ((w.alloc (.cells (cl .u8 d).toArray 23)).alloc (.cells (sigV (leaf : Int) ch p).toArray 31)).alloc (.cells (cl .u8 (zs 16)).toArray 23) := ⟨_, rfl⟩
  have b0 : blk W0 w.heap.size (cl .u8 d) 23 := by rw [hW0]; exact blk_alloc (blk_alloc (blk_new _ _ _) _) _
  have b1 : blk W0 (w.heap.size + 1) (sigV (leaf : Int) ch p) 31 := by rw [hW0]; exact blk_alloc (blk_at _ _ _ (by simp only [alloc_size])) _
  have b2 : blk W0 (w.heap.size + 1 + 1) (cl .u8 (zs 16)) 23 := by rw [hW0]; exact blk_at _ _ _ (by simp only [alloc_size])
  have bl : Below w.heap.size w W0 := by rw [hW0]; exact (((Below.refl w.heap.size w).alloc (Nat.le_refl _) _).alloc (by simp only [alloc_size]; omega) _).alloc (by simp only [alloc_size]; omega) _
  have hp0 : SlN W0 p ps := HP.out.keep bl
  have S0 := Lib.hid (And.intro b0 (And.intro b1 (And.intro b2 (And.intro hp0 bl))))
  have HW := Lib.hid hW0
  clear b0 b1 b2 bl hp0 hW0
  go_enter Tryz.func17, Tryz.ntmps17
  go_wp2_with fail
  rw [← HW.out]
  refine (c1.out _).mono ?_
  rintro e w1 ⟨rfl, hb1⟩
  have S1 := Lib.hid (And.intro (blk_keep S0.out.1 hb1) (And.intro (blk_keep S0.out.2.1 hb1) (And.intro (blk_keep S0.out.2.2.1 hb1) (And.intro (SlC.keep S0.out.2.2.2.1 hb1) (bel_trans S0.out.2.2.2.2 hb1 S0.out.2.2.2.2.size)))))
  have k1 := bk_of S1.out.2.1
  have k0 := bk_of S1.out.1
  clear hb1
  go_wp2_with fail
  refine (c2.out _).mono ?_
  rintro e w2 ⟨rfl, hb2⟩
  have S2 : Hid (AtR w w2.heap.size leaf ch V p ps (w2.alloc (.cells (cl .u8 V).toArray 23))) := Lib.hid ⟨blk_alloc (blk_keep S1.out.2.1 hb2) _, blk_alloc (blk_keep S1.out.2.2.1 hb2) _, blk_new _ _ _, SlC.keep (SlC.keep S1.out.2.2.2.1 hb2) ((Below.refl _ _).alloc (Nat.le_refl _) _), (bel_trans S1.out.2.2.2.2 hb2 S1.out.2.2.2.2.size).alloc (by have := bel_trans S1.out.2.2.2.2 hb2 S1.out.2.2.2.2.size; exact this.size) _⟩
  have lw : w.heap.size + 1 + 1 < w2.heap.size := blk_lt (blk_keep S1.out.2.2.1 hb2)
  clear hb2 k0 k1
  go_wp2_with fail
  refine Ord.wp_region_inv2 14 (BR w w2.heap.size leaf ch d V p ps) (GR w w2.heap.size leaf ch L R p ps) UR (by kernel_rfl) (by kernel_rfl) ⟨undef, undef, undef, undef, undef, undef, undef, undef, undef, undef, undef, undef, undef, rfl, S2.out.keep (Below.refl _ _).drew, fun q h => (by cases h), fun q h => (by cases h), fun q h => (by cases h)⟩ (fun j hj => by match j, hj with | 0, _ => trivial | 1, _ => trivial | 2, _ => trivial | 3, _ => trivial | 4, _ => trivial | 5, _ => trivial | 6, _ => trivial | 7, _ => trivial | 8, _ => trivial | 9, _ => trivial | 10, _ => trivial | 11, _ => trivial | 12, _ => rfl | 13, _ => trivial) ?_ ?_
  · intro i op hi ho x W hB hU hG
    obtain ⟨u8, u19, u20, u21, u22, u23, u24, u25, u26, u27, u28, u29, u30, rfl, hA, hc1, hc2, hc3⟩ := hB
    have HC1 := Lib.hid hc1
    have HC2 := Lib.hid hc2
    have HC3 := Lib.hid hc3
    clear hc1 hc2 hc3
    have z0 := sig_leaf hA.1
    have z1 := bk_of hA.1
    have HA := Lib.hid hA
    clear hA
    generalize w2.heap.size = pv at HA hG ⊢
    match i, hi with

    | 0, _ =>
      cases ho
      clear hG hU
      unfold FrR
      go_wp2_with fail
      refine ⟨⟨u8, u19, _, u21, u22, u23, u24, u25, u26, u27, u28, u29, u30, rfl, HA.out, HC1.out, HC2.out, HC3.out⟩, rfl, ?_⟩
      intro j hj hji
      match j, hj with
      | 0, _ => exact absurd rfl hji
      | 1, _ => exact ⟨fun h => h, fun h => h⟩
      | 2, _ => exact ⟨fun h => h, fun h => h⟩
      | 3, _ => exact ⟨fun h => h, fun h => h⟩
      | 4, _ => exact ⟨fun h => h, fun h => h⟩
      | 5, _ => exact ⟨fun h => h, fun h => h⟩
      | 6, _ => exact ⟨fun h => h, fun h => h⟩
      | 7, _ => exact ⟨fun h => h, fun h => h⟩
      | 8, _ => exact ⟨fun h => h, fun h => h⟩
      | 9, _ => exact ⟨fun h => h, fun h => h⟩
      | 10, _ => exact ⟨fun h => h, fun h => h⟩
      | 11, _ => exact ⟨fun h => h, fun h => h⟩
      | 12, _ => exact ⟨fun h => h, fun h => h⟩
      | 13, _ => exact ⟨fun h => h, fun h => h⟩
    | 1, _ =>
      cases ho
      have g0 : u20 = .pointer (some ⟨w.heap.size + 1, 0, none⟩) := hG ⟨0, .data⟩ (by simp) rfl
      subst g0
      clear hG hU
      unfold FrR
      go_wp2_with fail
      refine ⟨⟨u8, u19, _, _, u22, u23, u24, u25, u26, u27, u28, u29, u30, rfl, HA.out, HC1.out, HC2.out, HC3.out⟩, rfl, ?_⟩
      intro j hj hji
      match j, hj with
      | 0, _ => exact ⟨fun h => h, fun h => h⟩
      | 1, _ => exact absurd rfl hji
      | 2, _ => exact ⟨fun h => h, fun h => h⟩
      | 3, _ => exact ⟨fun h => h, fun h => h⟩
      | 4, _ => exact ⟨fun h => h, fun h => h⟩
      | 5, _ => exact ⟨fun h => h, fun h => h⟩
      | 6, _ => exact ⟨fun h => h, fun h => h⟩
      | 7, _ => exact ⟨fun h => h, fun h => h⟩
      | 8, _ => exact ⟨fun h => h, fun h => h⟩
      | 9, _ => exact ⟨fun h => h, fun h => h⟩
      | 10, _ => exact ⟨fun h => h, fun h => h⟩
      | 11, _ => exact ⟨fun h => h, fun h => h⟩
      | 12, _ => exact ⟨fun h => h, fun h => h⟩
      | 13, _ => exact ⟨fun h => h, fun h => h⟩
    | 2, _ =>
      cases ho
      clear hG hU
      unfold FrR
      go_wp2_with fail
      refine ⟨⟨u8, u19, u20, u21, _, u23, u24, u25, u26, u27, u28, u29, u30, rfl, HA.out, HC1.out, HC2.out, HC3.out⟩, rfl, ?_⟩
      intro j hj hji
      match j, hj with
      | 0, _ => exact ⟨fun h => h, fun h => h⟩
      | 1, _ => exact ⟨fun h => h, fun h => h⟩
      | 2, _ => exact absurd rfl hji
      | 3, _ => exact ⟨fun h => h, fun h => h⟩
      | 4, _ => exact ⟨fun h => h, fun h => h⟩
      | 5, _ => exact ⟨fun h => h, fun h => h⟩
      | 6, _ => exact ⟨fun h => h, fun h => h⟩
      | 7, _ => exact ⟨fun h => h, fun h => h⟩
      | 8, _ => exact ⟨fun h => h, fun h => h⟩
      | 9, _ => exact ⟨fun h => h, fun h => h⟩
      | 10, _ => exact ⟨fun h => h, fun h => h⟩
      | 11, _ => exact ⟨fun h => h, fun h => h⟩
      | 12, _ => exact ⟨fun h => h, fun h => h⟩
      | 13, _ => exact ⟨fun h => h, fun h => h⟩
    | 3, _ =>
      cases ho
      have g1 : u21 = .int .i64 (leaf : Int) := hG ⟨1, .data⟩ (by simp) rfl
      subst g1
      have g2 : u22 = .slice (some ⟨pv, 0, none⟩) 16 16 := hG ⟨2, .data⟩ (by simp) rfl
      subst g2
      clear hG hU
      unfold FrR
      go_wp2_with fail
      refine (CL.out _ pv HA.out.2.2.1).mono ?_
      rintro e w1 ⟨rfl, hw1⟩
      have HK := Lib.hid hw1
      have HA1 := Lib.hid (AtR.keep HA.out hw1)
      clear hw1
      go_wp2_with fail
      refine ⟨⟨u8, u19, u20, _, _, _, u24, u25, u26, u27, u28, u29, u30, rfl, HA1.out, (fun q h => by obtain ⟨hq, cs, hcs, hb⟩ := HC1.out q h; exact ⟨hq, cs, hcs, blk_keep hb HK.out⟩), HC2.out, (fun q h => Nat.lt_of_lt_of_le (HC3.out q h) HK.out.size)⟩, rfl, ?_⟩
      intro j hj hji
      match j, hj with
      | 0, _ => exact ⟨fun h => h, fun h => h⟩
      | 1, _ => exact ⟨fun h => h, fun h => h⟩
      | 2, _ => exact ⟨fun h => h, fun h => h⟩
      | 3, _ => exact absurd rfl hji
      | 4, _ => exact ⟨fun h => h, fun h => h⟩
      | 5, _ => exact ⟨fun h => h, fun h => h⟩
      | 6, _ => exact ⟨fun h => h, fun h => h⟩
      | 7, _ => exact ⟨fun h => (by obtain ⟨y, h1, h2⟩ := h; exact ⟨y, h1, own_keep h2 HK.out⟩), fun h => h⟩
      | 8, _ => exact ⟨fun h => h, fun h => h⟩
      | 9, _ => exact ⟨fun h => h, fun h => h⟩
      | 10, _ => exact ⟨fun h => h, fun h => h⟩
      | 11, _ => exact ⟨fun h => h, fun h => h⟩
      | 12, _ => exact ⟨fun h => h, fun h => h⟩
      | 13, _ => exact ⟨fun h => (by obtain ⟨y, h1, h2⟩ := h; exact ⟨y, h1, blk_keep h2 HK.out⟩), fun h => h⟩
    | 4, _ =>
      cases ho
      clear hG hU
      unfold FrR
      go_wp2_with fail
      refine ⟨⟨u8, u19, u20, u21, u22, u23, _, u25, u26, u27, u28, u29, u30, rfl, HA.out, HC1.out, HC2.out, HC3.out⟩, rfl, ?_⟩
      intro j hj hji
      match j, hj with
      | 0, _ => exact ⟨fun h => h, fun h => h⟩
      | 1, _ => exact ⟨fun h => h, fun h => h⟩
      | 2, _ => exact ⟨fun h => h, fun h => h⟩
      | 3, _ => exact ⟨fun h => h, fun h => h⟩
      | 4, _ => exact absurd rfl hji
      | 5, _ => exact ⟨fun h => h, fun h => h⟩
      | 6, _ => exact ⟨fun h => h, fun h => h⟩
      | 7, _ => exact ⟨fun h => h, fun h => h⟩
      | 8, _ => exact ⟨fun h => h, fun h => h⟩
      | 9, _ => exact ⟨fun h => h, fun h => h⟩
      | 10, _ => exact ⟨fun h => h, fun h => h⟩
      | 11, _ => exact ⟨fun h => h, fun h => h⟩
      | 12, _ => exact ⟨fun h => h, fun h => h⟩
      | 13, _ => exact ⟨fun h => h, fun h => h⟩
    | 5, _ =>
      cases ho
      have g4 : u24 = .pointer (some ⟨w.heap.size + 1, 0, none⟩) := hG ⟨4, .data⟩ (by simp) rfl
      subst g4
      clear hG hU
      unfold FrR
      go_wp2_with fail
      refine ⟨⟨u8, u19, u20, u21, u22, u23, _, _, u26, u27, u28, u29, u30, rfl, HA.out, HC1.out, HC2.out, HC3.out⟩, rfl, ?_⟩
      intro j hj hji
      match j, hj with
      | 0, _ => exact ⟨fun h => h, fun h => h⟩
      | 1, _ => exact ⟨fun h => h, fun h => h⟩
      | 2, _ => exact ⟨fun h => h, fun h => h⟩
      | 3, _ => exact ⟨fun h => h, fun h => h⟩
      | 4, _ => exact ⟨fun h => h, fun h => h⟩
      | 5, _ => exact absurd rfl hji
      | 6, _ => exact ⟨fun h => h, fun h => h⟩
      | 7, _ => exact ⟨fun h => h, fun h => h⟩
      | 8, _ => exact ⟨fun h => h, fun h => h⟩
      | 9, _ => exact ⟨fun h => h, fun h => h⟩
      | 10, _ => exact ⟨fun h => h, fun h => h⟩
      | 11, _ => exact ⟨fun h => h, fun h => h⟩
      | 12, _ => exact ⟨fun h => h, fun h => h⟩
      | 13, _ => exact ⟨fun h => h, fun h => h⟩
    | 6, _ =>
      cases ho
      clear hG hU
      unfold FrR
      go_wp2_with fail
      refine ⟨⟨u8, u19, u20, u21, u22, u23, u24, u25, _, u27, u28, u29, u30, rfl, HA.out, HC1.out, HC2.out, HC3.out⟩, rfl, ?_⟩
      intro j hj hji
      match j, hj with
      | 0, _ => exact ⟨fun h => h, fun h => h⟩
      | 1, _ => exact ⟨fun h => h, fun h => h⟩
      | 2, _ => exact ⟨fun h => h, fun h => h⟩
      | 3, _ => exact ⟨fun h => h, fun h => h⟩
      | 4, _ => exact ⟨fun h => h, fun h => h⟩
      | 5, _ => exact ⟨fun h => h, fun h => h⟩
      | 6, _ => exact absurd rfl hji
      | 7, _ => exact ⟨fun h => h, fun h => h⟩
      | 8, _ => exact ⟨fun h => h, fun h => h⟩
      | 9, _ => exact ⟨fun h => h, fun h => h⟩
      | 10, _ => exact ⟨fun h => h, fun h => h⟩
      | 11, _ => exact ⟨fun h => h, fun h => h⟩
      | 12, _ => exact ⟨fun h => h, fun h => h⟩
      | 13, _ => exact ⟨fun h => h, fun h => h⟩
    | 7, _ =>
      cases ho
      have g6 : u26 = .agg (sigV (leaf : Int) ch p).toArray := hG ⟨6, .data⟩ (by simp) rfl
      subst g6
      clear hG hU
      unfold FrR
      go_wp2_with fail
      refine (CN.out _ HA.out.2.2.2.1).mono ?_
      rintro e w1 ⟨y, rfl, ho1, hw1⟩
      have HK := Lib.hid hw1
      have HA1 := Lib.hid (AtR.keep HA.out hw1)
      have HO1 := Lib.hid ho1
      clear ho1
      clear hw1
      go_wp2_with fail
      refine ⟨⟨u8, u19, u20, u21, u22, u23, u24, u25, _, _, u28, u29, u30, rfl, HA1.out, (fun q h => by obtain ⟨hq, cs, hcs, hb⟩ := HC1.out q h; exact ⟨hq, cs, hcs, blk_keep hb HK.out⟩), (fun q h e => by obtain ⟨hq, cs, hcs, hb⟩ := HC1.out q h; have := own_blockN HO1.out q e; have := blk_lt hb; omega), (fun q h => (World.ownsRow.lt HO1.out q h).2)⟩, ⟨_, rfl, own_mono HO1.out HA.out.2.2.2.2.size⟩, ?_⟩
      intro j hj hji
      match j, hj with
      | 0, _ => exact ⟨fun h => h, fun h => h⟩
      | 1, _ => exact ⟨fun h => h, fun h => h⟩
      | 2, _ => exact ⟨fun h => h, fun h => h⟩
      | 3, _ => exact ⟨fun h => h, fun h => h⟩
      | 4, _ => exact ⟨fun h => h, fun h => h⟩
      | 5, _ => exact ⟨fun h => h, fun h => h⟩
      | 6, _ => exact ⟨fun h => h, fun h => h⟩
      | 7, _ => exact absurd rfl hji
      | 8, _ => exact ⟨fun h => h, fun h => h⟩
      | 9, _ => exact ⟨fun h => h, fun h => h⟩
      | 10, _ => exact ⟨fun h => h, fun h => h⟩
      | 11, _ => exact ⟨fun h => h, fun h => h⟩
      | 12, _ => exact ⟨fun h => h, fun h => h⟩
      | 13, _ => exact ⟨fun h => (by obtain ⟨y, h1, h2⟩ := h; exact ⟨y, h1, blk_keep h2 HK.out⟩), fun h => h⟩
    | 8, _ =>
      cases ho
      have g3 : u23 = agg .u8 L := hG ⟨3, .data⟩ (by simp) rfl
      subst g3
      have g5 : u25 = .int .i64 (leaf : Int) := hG ⟨5, .data⟩ (by simp) rfl
      subst g5
      obtain ⟨y, g7, ho7⟩ : ∃ y, u27 = y ∧ OwnN 81 W w.heap.size y ps := hG ⟨7, .data⟩ (by simp) rfl
      subst g7
      have HO7 := Lib.hid ho7
      clear ho7
      clear hG hU
      unfold FrR
      go_wp2_with fail
      refine (CF.out _ _ _ HO7.out).mono ?_
      rintro e w1 ⟨rfl, hw1⟩
      have HK := Lib.hid hw1
      have HA1 := Lib.hid (AtR.keep HA.out hw1)
      clear hw1
      go_wp2_with fail
      refine ⟨⟨u8, u19, u20, u21, u22, _, u24, _, u26, _, _, u29, u30, rfl, HA1.out, (fun q h => by obtain ⟨hq, cs, hcs, hb⟩ := HC1.out q h; exact ⟨hq, cs, hcs, blk_keep hb HK.out⟩), HC2.out, (fun q h => Nat.lt_of_lt_of_le (HC3.out q h) HK.out.size)⟩, rfl, ?_⟩
      intro j hj hji
      match j, hj with
      | 0, _ => exact ⟨fun h => h, fun h => h⟩
      | 1, _ => exact ⟨fun h => h, fun h => h⟩
      | 2, _ => exact ⟨fun h => h, fun h => h⟩
      | 3, _ => exact ⟨fun h => h, fun h => h⟩
      | 4, _ => exact ⟨fun h => h, fun h => h⟩
      | 5, _ => exact ⟨fun h => h, fun h => h⟩
      | 6, _ => exact ⟨fun h => h, fun h => h⟩
      | 7, _ => exact ⟨fun h => (by obtain ⟨y, h1, h2⟩ := h; exact ⟨y, h1, own_keep h2 HK.out⟩), fun h => h⟩
      | 8, _ => exact absurd rfl hji
      | 9, _ => exact ⟨fun h => h, fun h => h⟩
      | 10, _ => exact ⟨fun h => h, fun h => h⟩
      | 11, _ => exact ⟨fun h => h, fun h => h⟩
      | 12, _ => exact ⟨fun h => h, fun h => h⟩
      | 13, _ => exact ⟨fun h => (by obtain ⟨y, h1, h2⟩ := h; exact ⟨y, h1, blk_keep h2 HK.out⟩), fun h => h⟩
    | 9, _ =>
      cases ho
      have g8 : u28 = .tuple #[agg .u8 R, .int .i64 0] := hG ⟨8, .data⟩ (by simp) rfl
      subst g8
      clear hG hU
      unfold FrR
      go_wp2_with fail
      refine ⟨⟨u8, _, u20, u21, u22, u23, u24, u25, u26, u27, _, u29, u30, rfl, HA.out, HC1.out, HC2.out, HC3.out⟩, rfl, ?_⟩
      intro j hj hji
      match j, hj with
      | 0, _ => exact ⟨fun h => h, fun h => h⟩
      | 1, _ => exact ⟨fun h => h, fun h => h⟩
      | 2, _ => exact ⟨fun h => h, fun h => h⟩
      | 3, _ => exact ⟨fun h => h, fun h => h⟩
      | 4, _ => exact ⟨fun h => h, fun h => h⟩
      | 5, _ => exact ⟨fun h => h, fun h => h⟩
      | 6, _ => exact ⟨fun h => h, fun h => h⟩
      | 7, _ => exact ⟨fun h => h, fun h => h⟩
      | 8, _ => exact ⟨fun h => h, fun h => h⟩
      | 9, _ => exact absurd rfl hji
      | 10, _ => exact ⟨fun h => h, fun h => h⟩
      | 11, _ => exact ⟨fun h => h, fun h => h⟩
      | 12, _ => exact ⟨fun h => h, fun h => h⟩
      | 13, _ => exact ⟨fun h => h, fun h => h⟩
    | 10, _ =>
      cases ho
      have g9 : u19 = .tuple #[agg .u8 R, .int .i64 0] := hG ⟨9, .data⟩ (by simp) rfl
      subst g9
      clear hG hU
      unfold FrR
      go_wp2_with fail
      refine ⟨⟨u8, _, u20, u21, u22, u23, u24, u25, u26, u27, u28, _, u30, rfl, HA.out, HC1.out, HC2.out, HC3.out⟩, rfl, ?_⟩
      intro j hj hji
      match j, hj with
      | 0, _ => exact ⟨fun h => h, fun h => h⟩
      | 1, _ => exact ⟨fun h => h, fun h => h⟩
      | 2, _ => exact ⟨fun h => h, fun h => h⟩
      | 3, _ => exact ⟨fun h => h, fun h => h⟩
      | 4, _ => exact ⟨fun h => h, fun h => h⟩
      | 5, _ => exact ⟨fun h => h, fun h => h⟩
      | 6, _ => exact ⟨fun h => h, fun h => h⟩
      | 7, _ => exact ⟨fun h => h, fun h => h⟩
      | 8, _ => exact ⟨fun h => h, fun h => h⟩
      | 9, _ => exact ⟨fun h => h, fun h => h⟩
      | 10, _ => exact absurd rfl hji
      | 11, _ => exact ⟨fun h => h, fun h => h⟩
      | 12, _ => exact ⟨fun h => h, fun h => h⟩
      | 13, _ => exact ⟨fun h => h, fun h => h⟩
    | 11, _ =>
      cases ho
      have g9 : u19 = .tuple #[agg .u8 R, .int .i64 0] := hG ⟨9, .data⟩ (by simp) rfl
      subst g9
      clear hG hU
      unfold FrR
      go_wp2_with fail
      refine ⟨⟨u8, _, u20, u21, u22, u23, u24, u25, u26, u27, u28, u29, _, rfl, HA.out, HC1.out, HC2.out, HC3.out⟩, rfl, ?_⟩
      intro j hj hji
      match j, hj with
      | 0, _ => exact ⟨fun h => h, fun h => h⟩
      | 1, _ => exact ⟨fun h => h, fun h => h⟩
      | 2, _ => exact ⟨fun h => h, fun h => h⟩
      | 3, _ => exact ⟨fun h => h, fun h => h⟩
      | 4, _ => exact ⟨fun h => h, fun h => h⟩
      | 5, _ => exact ⟨fun h => h, fun h => h⟩
      | 6, _ => exact ⟨fun h => h, fun h => h⟩
      | 7, _ => exact ⟨fun h => h, fun h => h⟩
      | 8, _ => exact ⟨fun h => h, fun h => h⟩
      | 9, _ => exact ⟨fun h => h, fun h => h⟩
      | 10, _ => exact ⟨fun h => h, fun h => h⟩
      | 11, _ => exact absurd rfl hji
      | 12, _ => exact ⟨fun h => h, fun h => h⟩
      | 13, _ => exact ⟨fun h => h, fun h => h⟩
    | 12, _ =>
      cases ho
      have g12 : u8 = undef := hU
      subst g12
      clear hG hU
      unfold FrR
      go_wp2_with fail
      have HK := Lib.hid ((Below.refl W.heap.size W).alloc (Nat.le_refl _) (.cells (cl .u8 (zs 16)).toArray 81))
      refine ⟨⟨_, u19, u20, u21, u22, u23, u24, u25, u26, u27, u28, u29, u30, rfl, AtR.keep HA.out HK.out, (fun q h => by cases h; exact ⟨HA.out.2.2.2.2.size, zs 16, rfl, blk_new _ _ _⟩), (fun q h e => by cases h; have := HC3.out _ e; omega), (fun q h => Nat.lt_of_lt_of_le (HC3.out q h) HK.out.size)⟩, ⟨_, rfl⟩, ?_⟩
      intro j hj hji
      match j, hj with
      | 0, _ => exact ⟨fun h => h, fun h => h⟩
      | 1, _ => exact ⟨fun h => h, fun h => h⟩
      | 2, _ => exact ⟨fun h => h, fun h => h⟩
      | 3, _ => exact ⟨fun h => h, fun h => h⟩
      | 4, _ => exact ⟨fun h => h, fun h => h⟩
      | 5, _ => exact ⟨fun h => h, fun h => h⟩
      | 6, _ => exact ⟨fun h => h, fun h => h⟩
      | 7, _ => exact ⟨fun h => (by obtain ⟨y, h1, h2⟩ := h; exact ⟨y, h1, own_keep h2 HK.out⟩), fun h => h⟩
      | 8, _ => exact ⟨fun h => h, fun h => h⟩
      | 9, _ => exact ⟨fun h => h, fun h => h⟩
      | 10, _ => exact ⟨fun h => h, fun h => h⟩
      | 11, _ => exact ⟨fun h => h, fun h => h⟩
      | 12, _ => exact absurd rfl hji
      | 13, _ => exact ⟨fun h => (by obtain ⟨y, h1, h2⟩ := h; cases h1), fun h => h⟩
    | 13, _ =>
      cases ho
      have g10 : u29 = agg .u8 R := hG ⟨10, .data⟩ (by simp) rfl
      subst g10
      obtain ⟨p8, g12⟩ : ∃ p, u8 = .pointer (some ⟨p, 0, none⟩) := hG ⟨12, .data⟩ (by simp) rfl
      subst g12
      obtain ⟨hq8, cs, hcs, hB8⟩ := HC1.out p8 rfl
      have z8 := bk_of hB8
      have HB8 := Lib.hid hB8
      clear hB8
      clear hG hU
      unfold FrR
      go_wp2_with fail
      have n1 := blk_ne HA.out.1 HB8.out (by decide)
      have n2 := blk_ne HA.out.2.1 HB8.out (by decide)
      have n3 := blk_ne HA.out.2.2.1 HB8.out (by decide)
      refine ⟨⟨_, u19, u20, u21, u22, u23, u24, u25, u26, u27, u28, _, u30, rfl, ⟨blk_setRow_ne HA.out.1 _ n1, blk_setRow_ne HA.out.2.1 _ n2, blk_setRow_ne HA.out.2.2.1 _ n3, SlC.keep HP.out (bel_setRow HA.out.2.2.2.2 hq8 _), bel_setRow HA.out.2.2.2.2 hq8 _⟩, (fun q h => by cases h; exact ⟨hq8, R, lR, blk_setRow HB8.out (cl .u8 R)⟩), HC2.out, (fun q h => by have := HC3.out q h; simpa using this)⟩, ⟨p8, rfl, blk_setRow HB8.out (cl .u8 R)⟩, ?_⟩
      intro j hj hji
      match j, hj with
      | 0, _ => exact ⟨fun h => h, fun h => h⟩
      | 1, _ => exact ⟨fun h => h, fun h => h⟩
      | 2, _ => exact ⟨fun h => h, fun h => h⟩
      | 3, _ => exact ⟨fun h => h, fun h => h⟩
      | 4, _ => exact ⟨fun h => h, fun h => h⟩
      | 5, _ => exact ⟨fun h => h, fun h => h⟩
      | 6, _ => exact ⟨fun h => h, fun h => h⟩
      | 7, _ => exact ⟨fun h => (by obtain ⟨y, h1, h2⟩ := h; exact ⟨y, h1, own_setRow h2 (fun e => HC2.out p8 rfl (by subst h1; exact e.symm))⟩), fun h => h⟩
      | 8, _ => exact ⟨fun h => h, fun h => h⟩
      | 9, _ => exact ⟨fun h => h, fun h => h⟩
      | 10, _ => exact ⟨fun h => h, fun h => h⟩
      | 11, _ => exact ⟨fun h => h, fun h => h⟩
      | 12, _ => exact ⟨fun h => h, fun h => h⟩
      | 13, _ => exact absurd rfl hji
  · intro x W hB hG
    obtain ⟨u8, u19, u20, u21, u22, u23, u24, u25, u26, u27, u28, u29, u30, rfl, hA, hc1, hc2, hc3⟩ := hB
    have g11 : u30 = .int .i64 0 := hG 11 (by omega)
    obtain ⟨p8, g13, hB8⟩ : ∃ q, u8 = .pointer (some ⟨q, 0, none⟩) ∧ blk W q (cl .u8 R) 81 := hG 13 (by omega)
    subst g11 g13
    have z8 := bk_of hB8
    have k3 := bk_of hA.2.1
    have HA := Lib.hid hA
    clear hG hA hc1 hc2 hc3 hB8
    unfold FrR
    go_wp2_with fail
    refine ret2_b16 rfl rfl rfl (blk_setRow HA.out.2.1 (cl .u8 R)) lR rfl ⟨rfl, bel_setRow HA.out.2.2.2.2 (by omega) _⟩
end Go.Proofs.YtlgpipdeckdmjaaGreat.Sgn
