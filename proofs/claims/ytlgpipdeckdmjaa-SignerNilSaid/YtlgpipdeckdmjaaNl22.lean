/-
  Several texts laid into one (merge.py): Nil6.
-/
import Derived.Test.YtlgpipdeckdmjaaNl21
/-
  The walk of SignerNil. Its last region is printed by gen_nil.py (nil_walk.txt: what stands ahead of it).
-/
set_option linter.unusedVariables false
set_option linter.unusedSimpArgs false
namespace Go.Proofs.Ytlgpipdeckdmjaa.Nil
open Go.RowKit Base Reg Types Slice Sha
open Go.Proofs.Ytlgpipdeckdmjaa.One
open Go.Proofs.Ytlgpipdeckdmjaa.Str
open Go.Proofs.Ytlgpipdeckdmjaa.Mer
open Go.Proofs.Ytlgpipdeckdmjaa.Sgn
open Go.Proofs.Ytlgpipdeckdmjaa.Known8 (known)
open Go.Proofs.Ytlgpipdeckdmjaa.Signed (rd_bl16 bl16_0)
theorem rd_eq_pub (x y : Value) : binOp .eql 50 x y = eqA 50 x y := rfl
theorem eq_pub0 (w : World) : (eqA 50 (.agg (pubV 0 (zs 16)).toArray) (.agg (pubV 0 (zs 16)).toArray)).run Try.prog w = .ok (.bool true) w := by kernel_rfl
attribute [local go_sem ↓ high] rd_bl16 rd_eq_pub
def AtN (w w4 w5 : World) (l1 l2 : Int) (x1 x2 Z : List Nat) (A1 A2 : Option Addr) (n1 n2 c1 c2 : Nat) (W : World) : Prop := blk W w.heap.size (sigV l1 x1 (.slice A1 n1 c1)) 61 ∧ blk W (w.heap.size + 1) (sigV l2 x2 (.slice A2 n2 c2)) 61 ∧ blk W w4.heap.size (sigV 0 Z (.slice none 0 0)) 58 ∧ blk W w5.heap.size (sigV 0 Z (.slice none 0 0)) 58 ∧ Below w.heap.size w W
theorem AtN_keep {w w4 w5 W W' : World} {l1 l2 : Int} {x1 x2 Z : List Nat} {A1 A2 : Option Addr} {n1 n2 c1 c2 : Nat} (h : AtN w w4 w5 l1 l2 x1 x2 Z A1 A2 n1 n2 c1 c2 W) (hb : Below W.heap.size W W') : AtN w w4 w5 l1 l2 x1 x2 Z A1 A2 n1 n2 c1 c2 W' := ⟨blk_keep h.1 hb, blk_keep h.2.1 hb, blk_keep h.2.2.1 hb, blk_keep h.2.2.2.1 hb, bel_trans h.2.2.2.2 hb h.2.2.2.2.size⟩
def Pn (l1 l2 k : Int) (Z z16 x1 x2 : List Nat) (A1 A2 : Option Addr) (n1 n2 c1 c2 : Nat) (ps qs : List (List Nat)) (i : Nat) (v : Value) (W : World) : Prop := match i with
  | 0 => v = .agg (sigV 0 Z (.slice none 0 0)).toArray
  | 1 => ∃ p, v = .agg (sigV 0 Z p).toArray ∧ SlN W p ([] : List (List Nat))
  | 2 => v = .agg (sigV 0 Z (.slice none 0 0)).toArray
  | 3 => v = .bool true
  | 4 => v = .bool true
  | 5 => v = .int .i64 1
  | 6 => v = .bool true
  | 7 => v = .bool true
  | 8 => v = .bool true
  | 9 => v = .agg (sigV 0 Z (.slice none 0 0)).toArray
  | 10 => ∃ p, v = .agg (sigV 0 Z p).toArray ∧ SlN W p ([] : List (List Nat))
  | 11 => v = .agg (sigV 0 Z (.slice none 0 0)).toArray
  | 12 => v = .bool true
  | 13 => v = .bool true
  | 14 => v = .bool true
  | 15 => v = .int .i64 1
  | 16 => v = .bool true
  | 17 => v = .bool true
  | 18 => v = .bool true
  | 19 => v = .pointer none
  | 20 => v = .int .i64 k
  | 21 => v = .int .i64 1
  | 22 => v = .bool true
  | 23 => v = .bool true
  | 24 => v = .bool true
  | 25 => v = .pointer none
  | 26 => v = .int .i64 0
  | 27 => v = .bool true
  | 28 => v = .bool true
  | 29 => v = .bool true
  | 30 => v = .pointer none
  | 31 => v = .int .i64 0
  | 32 => v = .bool true
  | 33 => v = .bool true
  | 34 => v = .bool true
  | 35 => v = .pointer none
  | 36 => v = .agg (pubV 0 z16).toArray
  | 37 => v = .agg (pubV 0 z16).toArray
  | 38 => v = .bool true
  | 39 => v = .bool true
  | 40 => v = .bool true
  | 41 => v = .agg (sigV l1 x1 (.slice A1 n1 c1)).toArray
  | 42 => ∃ p, v = .agg (sigV l1 x1 p).toArray ∧ SlN W p ps
  | 43 => v = .agg (sigV l2 x2 (.slice A2 n2 c2)).toArray
  | 44 => ∃ p, v = .agg (sigV l2 x2 p).toArray ∧ SlN W p qs
  | 45 => v = .bool (decide (l1 = l2 ∧ x1 = x2 ∧ ps = qs))
  | 46 => v = .agg (sigV l1 x1 (.slice A1 n1 c1)).toArray
  | 47 => v = .agg (sigV l2 x2 (.slice A2 n2 c2)).toArray
  | 48 => v = .bool (decide (l1 = l2 ∧ x1 = x2 ∧ ps = qs))
  | 49 => v = .bool true
  | 50 => v = .bool true
  | 51 => v = .bool true
  | 52 => v = .agg (sigV l1 x1 (.slice A1 n1 c1)).toArray
  | 53 => ∃ p, v = .agg (sigV l1 x1 p).toArray ∧ SlN W p ps
  | 54 => v = .agg (sigV l1 x1 (.slice A1 n1 c1)).toArray
  | 55 => ∃ p, v = .agg (sigV l1 x1 p).toArray ∧ SlN W p ps
  | 56 => v = .bool true
  | 57 => v = .bool true
  | _ => True
theorem Pn_mono {l1 l2 k : Int} {Z z16 x1 x2 : List Nat} {A1 A2 : Option Addr} {n1 n2 c1 c2 : Nat} {ps qs : List (List Nat)} (i : Nat) (v : Value) (W W' : World) (hb : Below W.heap.size W W') (h : Pn l1 l2 k Z z16 x1 x2 A1 A2 n1 n2 c1 c2 ps qs i v W) : Pn l1 l2 k Z z16 x1 x2 A1 A2 n1 n2 c1 c2 ps qs i v W' := by
  unfold Pn at h ⊢
  split at h
  · exact h
  · obtain ⟨p, h1, h2⟩ := h; exact ⟨p, h1, h2.keep hb⟩
  · exact h
  · exact h
  · exact h
  · exact h
  · exact h
  · exact h
  · exact h
  · exact h
  · obtain ⟨p, h1, h2⟩ := h; exact ⟨p, h1, h2.keep hb⟩
  · exact h
  · exact h
  · exact h
  · exact h
  · exact h
  · exact h
  · exact h
  · exact h
  · exact h
  · exact h
  · exact h
  · exact h
  · exact h
  · exact h
  · exact h
  · exact h
  · exact h
  · exact h
  · exact h
  · exact h
  · exact h
  · exact h
  · exact h
  · exact h
  · exact h
  · exact h
  · exact h
  · exact h
  · exact h
  · exact h
  · exact h
  · obtain ⟨p, h1, h2⟩ := h; exact ⟨p, h1, h2.keep hb⟩
  · exact h
  · obtain ⟨p, h1, h2⟩ := h; exact ⟨p, h1, h2.keep hb⟩
  · exact h
  · exact h
  · exact h
  · exact h
  · exact h
  · exact h
  · exact h
  · exact h
  · obtain ⟨p, h1, h2⟩ := h; exact ⟨p, h1, h2.keep hb⟩
  · exact h
  · obtain ⟨p, h1, h2⟩ := h; exact ⟨p, h1, h2.keep hb⟩
  · exact h
  · exact h
  · exact h
set_option maxRecDepth 20000 in
set_option maxHeartbeats 4000000 in
theorem walk_in (w : World) (l1 l2 k : Int) (x1 x2 : List Nat) (v1 v2 : Value) (ps qs : List (List Nat)) (h1 : x1.length = 560) (h2 : x2.length = 560) (hp : SlN w v1 ps) (hq : SlN w v2 qs) (N1 : N16 ps) (N2 : N16 qs) (m1 : ps.length ≤ 20) (m2 : qs.length ≤ 20) :
    Calls Try.prog 12 #[.agg (sigV l1 x1 v1).toArray, .agg (sigV l2 x2 v2).toArray, .int .i64 k] w fun e w' => e = .returned (.bool true) ∧ Below w.heap.size w w' := by
  obtain ⟨A1, c1, rfl, -⟩ := id hp
  obtain ⟨A2, c2, rfl, -⟩ := id hq
  obtain ⟨n1, hn1⟩ : ∃ n1, n1 = ps.length := ⟨_, rfl⟩
  obtain ⟨n2, hn2⟩ : ∃ n2, n2 = qs.length := ⟨_, rfl⟩
  have HP := Lib.hid (show SlN w (.slice A1 n1 c1) ps by rw [hn1]; exact hp)
  have HQ := Lib.hid (show SlN w (.slice A2 n2 c2) qs by rw [hn2]; exact hq)
  have NP := Lib.hid N1
  have NQ := Lib.hid N2
  have M1 := Lib.hid m1
  have M2 := Lib.hid m2
  rw [← hn1] at m1
  rw [← hn2] at m2
  rw [← hn1, ← hn2]
  clear hp hq N1 N2 hn1 hn2
  obtain ⟨W0, hW0⟩ : ∃ W0, W0 = (w.alloc (.cells (sigV l1 x1 (.slice A1 n1 c1)).toArray 61)).alloc (.cells (sigV l2 x2 (.slice A2 n2 c2)).toArray 61) := ⟨_, rfl⟩
  have b1 : blk W0 w.heap.size (sigV l1 x1 (.slice A1 n1 c1)) 61 := by rw [hW0]; exact blk_alloc (blk_new _ _ _) _
  have b2 : blk W0 (w.heap.size + 1) (sigV l2 x2 (.slice A2 n2 c2)) 61 := by rw [hW0]; exact blk_at _ _ _ (by simp only [alloc_size])
  have bl : Below w.heap.size w W0 := by rw [hW0]; exact ((Below.refl w.heap.size w).alloc (Nat.le_refl _) _).alloc (by simp only [alloc_size]; omega) _
  have HW := Lib.hid hW0
  have S0 := Lib.hid (And.intro b1 (And.intro b2 bl))
  clear b1 b2 bl hW0
  obtain ⟨Z, hZ⟩ : ∃ Z, Z = zs 560 := ⟨_, rfl⟩
  obtain ⟨z16, hz16⟩ : ∃ z16, z16 = zs 16 := ⟨_, rfl⟩
  have lZ : Z.length = 560 := by rw [hZ, zs_length]
  have lz : z16.length = 16 := by rw [hz16, zs_length]
  have bl0 : ∀ W, (blA 22 #[]).run Try.prog W = .ok (agg .u8 z16) W := fun W => by rw [hz16]; exact bl16_0 W
  have cs : Hid (∀ W, Calls Try.prog 44 #[.pointer none, agg .u8 z16] W fun e w' => e = .returned (.tuple #[.agg (sigV 0 Z (.slice none 0 0)).toArray, .int .i64 1]) ∧ Below W.heap.size W w') := Lib.hid fun W => by rw [hZ]; exact sign_nil W z16 lz
  have cl' : Hid (∀ W, Calls Try.prog 45 #[.pointer none, agg .u8 z16] W fun e w' => e = .returned (.tuple #[.agg (sigV 0 Z (.slice none 0 0)).toArray, .int .i64 1]) ∧ Below W.heap.size W w') := Lib.hid fun W => by rw [hZ]; exact last_nil W z16 lz
  have HZ := Lib.hid hZ
  have Z16 := Lib.hid hz16
  clear hZ hz16
  go_enter Try.func12, Try.ntmps12
  go_wp2_with fail
  rw [← HW.out]
  refine (known W0).mono ?_
  rintro e w1 ⟨rfl, hb1⟩
  have S1 := Lib.hid (And.intro (blk_keep S0.out.1 hb1) (And.intro (blk_keep S0.out.2.1 hb1) (bel_trans S0.out.2.2 hb1 S0.out.2.2.size)))
  have k1 := bk_of S1.out.1
  clear hb1
  go_wp2_with fail
  refine (few w1 l1 x1 A1 n1 c1 h1).mono ?_
  rintro e w2 ⟨rfl, hb2⟩
  have S2 := Lib.hid (And.intro (blk_keep S1.out.1 hb2) (And.intro (blk_keep S1.out.2.1 hb2) (bel_trans S1.out.2.2 hb2 S1.out.2.2.size)))
  have k2 := bk_of S2.out.2.1
  clear hb2 k1
  go_wp2_with fail
  refine (few w2 l2 x2 A2 n2 c2 h2).mono ?_
  rintro e w3 ⟨rfl, hb3⟩
  have S3 := Lib.hid (And.intro (blk_keep S2.out.1 hb3) (And.intro (blk_keep S2.out.2.1 hb3) (bel_trans S2.out.2.2 hb3 S2.out.2.2.size)))
  clear hb3 k2
  go_wp2_with fail
  refine (cs.out w3).mono ?_
  rintro e w4 ⟨rfl, hb4⟩
  have S4 := Lib.hid (And.intro (blk_alloc (blk_keep S3.out.1 hb4) (.cells (sigV 0 Z (.slice none 0 0)).toArray 58)) (And.intro (blk_alloc (blk_keep S3.out.2.1 hb4) (.cells (sigV 0 Z (.slice none 0 0)).toArray 58)) (And.intro (blk_new w4 (sigV 0 Z (.slice none 0 0)) 58) ((bel_trans S3.out.2.2 hb4 S3.out.2.2.size).alloc (by have := (bel_trans S3.out.2.2 hb4 S3.out.2.2.size).size; exact this) (.cells (sigV 0 Z (.slice none 0 0)).toArray 58)))))
  have a0 := al_sg
  rw [← HZ.out] at a0
  clear hb4
  go_wp2_with fail
  refine (cl'.out _).mono ?_
  rintro e w5 ⟨rfl, hb5⟩
  have S5 := Lib.hid (And.intro (blk_alloc (blk_keep S4.out.1 hb5) (.cells (sigV 0 Z (.slice none 0 0)).toArray 58)) (And.intro (blk_alloc (blk_keep S4.out.2.1 hb5) (.cells (sigV 0 Z (.slice none 0 0)).toArray 58)) (And.intro (blk_alloc (blk_keep S4.out.2.2.1 hb5) (.cells (sigV 0 Z (.slice none 0 0)).toArray 58)) (And.intro (blk_new w5 (sigV 0 Z (.slice none 0 0)) 58) ((bel_trans S4.out.2.2.2 hb5 S4.out.2.2.2.size).alloc (by have := (bel_trans S4.out.2.2.2 hb5 S4.out.2.2.2.size).size; exact this) (.cells (sigV 0 Z (.slice none 0 0)).toArray 58))))))
  clear hb5
  go_wp2_with fail
  have qe : ∀ W, (eqA 50 (.agg (pubV 0 z16).toArray) (.agg (pubV 0 z16).toArray)).run Try.prog W = .ok (.bool true) W := fun W => by rw [Z16.out]; exact eq_pub0 W
  have n16_nil : N16 [] := fun x hx => by cases hx
  refine Ord.wp_region_tab 58 37 95 _ (fun W => AtN w w4 w5 l1 l2 x1 x2 Z A1 A2 n1 n2 c1 c2 W) (Pn l1 l2 k Z z16 x1 x2 A1 A2 n1 n2 c1 c2 ps qs) (by kernel_rfl) (by kernel_rfl) (by omega) ⟨blk_drew S5.out.1, blk_drew S5.out.2.1, blk_drew S5.out.2.2.1, blk_drew S5.out.2.2.2.1, S5.out.2.2.2.2.drew⟩ ⟨rfl, rfl, fun k hk => rfl⟩ (fun i v W W' _ hb h => Pn_mono i v W W' hb h) ?_ ?_
  · intro i o hi ho a W K hS hF hG hK
    have q1 := bk_of hS.1
    have q2 := bk_of hS.2.1
    have q3 := bk_of hS.2.2.1
    have q4 := bk_of hS.2.2.2.1
    match i, hi with
    | 0, _ =>
      cases ho
      have s8 : a.tmps.getD 8 undef = .pointer (some ⟨w4.heap.size, 0, none⟩) := hF.slots 8 (by omega)
      go_wp2_with fail
      exact hK _ _ hS (Below.refl _ _) (by first | rfl | (show _ = _; rw [HZ.out]) | (show _ = _; rw [Z16.out]) | (show _ = _; simp))
    | 1, _ =>
      cases ho
      have s37 : a.tmps.getD 37 undef = .agg (sigV 0 Z (.slice none 0 0)).toArray := hG { on := 0, ground := .data } (by simp) rfl
      go_wp2_with fail
      refine (back W 0 Z (.slice none 0 0) ([] : List (List Nat)) lZ (SlC.nil _ _) (by simp)).mono ?_
      rintro e W2 ⟨p, rfl, ho2, hb2⟩
      go_wp2_with fail
      exact hK _ _ (AtN_keep hS hb2) hb2 ⟨p, rfl, SlC.of_own ho2⟩
    | 2, _ =>
      cases ho
      go_wp2_with fail
      exact hK _ _ hS (Below.refl _ _) (by first | rfl | (show _ = _; rw [HZ.out]) | (show _ = _; rw [Z16.out]) | (show _ = _; simp))
    | 3, _ =>
      cases ho
      obtain ⟨p38, s38, hp38⟩ : Pn l1 l2 k Z z16 x1 x2 A1 A2 n1 n2 c1 c2 ps qs 1 (a.tmps.getD 38 undef) W := hG { on := 1, ground := .data } (by simp) rfl
      have s39 : a.tmps.getD 39 undef = .agg (sigV 0 Z (.slice none 0 0)).toArray := hG { on := 2, ground := .data } (by simp) rfl
      go_wp2_with fail
      refine (same W 0 0 Z Z p38 (.slice none 0 0) ([] : List (List Nat)) [] lZ lZ hp38 (SlC.nil _ _) n16_nil n16_nil (by simp)).mono ?_
      rintro e W2 ⟨rfl, hb2⟩
      go_wp2_with fail
      exact hK _ _ (AtN_keep hS hb2) hb2 (by first | rfl | (show _ = _; simp))
    | 4, _ =>
      cases ho
      have s40 : a.tmps.getD 40 undef = .bool true := hG { on := 3, ground := .data } (by simp) rfl
      go_wp2_with fail
      exact hK _ _ hS (Below.refl _ _) (by first | rfl | (show _ = _; rw [HZ.out]) | (show _ = _; rw [Z16.out]) | (show _ = _; simp))
    | 5, _ =>
      cases ho
      have s9 : a.tmps.getD 9 undef = .int .i64 1 := hF.slots 9 (by omega)
      have s41 : a.tmps.getD 41 undef = .bool true := hG { on := 4, ground := .guard } (by simp) rfl
      have g41 := hF.get (by omega) s41
      go_wp2_with fail
      exact hK _ _ hS (Below.refl _ _) (by first | rfl | (show _ = _; rw [HZ.out]) | (show _ = _; rw [Z16.out]) | (show _ = _; simp))
    | 6, _ =>
      cases ho
      have s41 : a.tmps.getD 41 undef = .bool true := hG { on := 4, ground := .guard } (by simp) rfl
      have s42 : a.tmps.getD 42 undef = .int .i64 1 := hG { on := 5, ground := .data } (by simp) rfl
      have g41 := hF.get (by omega) s41
      go_wp2_with fail
      exact hK _ _ hS (Below.refl _ _) (by first | rfl | (show _ = _; rw [HZ.out]) | (show _ = _; rw [Z16.out]) | (show _ = _; simp))
    | 7, _ =>
      cases ho
      have s41 : a.tmps.getD 41 undef = .bool true := hG { on := 4, ground := .data } (by simp) rfl
      have s43 : a.tmps.getD 43 undef = .bool true := hG { on := 6, ground := .data } (by simp) rfl
      go_wp2_with fail
      exact hK _ _ hS (Below.refl _ _) (by first | rfl | (show _ = _; rw [HZ.out]) | (show _ = _; rw [Z16.out]) | (show _ = _; simp))
    | 8, _ =>
      cases ho
      have s44 : a.tmps.getD 44 undef = .bool true := hG { on := 7, ground := .data } (by simp) rfl
      go_wp2_with fail
      exact hK _ _ hS (Below.refl _ _) (by first | rfl | (show _ = _; rw [HZ.out]) | (show _ = _; rw [Z16.out]) | (show _ = _; simp))
    | 9, _ =>
      cases ho
      have s10 : a.tmps.getD 10 undef = .pointer (some ⟨w5.heap.size, 0, none⟩) := hF.slots 10 (by omega)
      have s45 : a.tmps.getD 45 undef = .bool true := hG { on := 8, ground := .guard } (by simp) rfl
      have g45 := hF.get (by omega) s45
      go_wp2_with fail
      exact hK _ _ hS (Below.refl _ _) (by first | rfl | (show _ = _; rw [HZ.out]) | (show _ = _; rw [Z16.out]) | (show _ = _; simp))
    | 10, _ =>
      cases ho
      have s45 : a.tmps.getD 45 undef = .bool true := hG { on := 8, ground := .guard } (by simp) rfl
      have s46 : a.tmps.getD 46 undef = .agg (sigV 0 Z (.slice none 0 0)).toArray := hG { on := 9, ground := .data } (by simp) rfl
      have g45 := hF.get (by omega) s45
      go_wp2_with fail
      refine (back W 0 Z (.slice none 0 0) ([] : List (List Nat)) lZ (SlC.nil _ _) (by simp)).mono ?_
      rintro e W2 ⟨p, rfl, ho2, hb2⟩
      go_wp2_with fail
      exact hK _ _ (AtN_keep hS hb2) hb2 ⟨p, rfl, SlC.of_own ho2⟩
    | 11, _ =>
      cases ho
      have s45 : a.tmps.getD 45 undef = .bool true := hG { on := 8, ground := .guard } (by simp) rfl
      have g45 := hF.get (by omega) s45
      go_wp2_with fail
      exact hK _ _ hS (Below.refl _ _) (by first | rfl | (show _ = _; rw [HZ.out]) | (show _ = _; rw [Z16.out]) | (show _ = _; simp))
    | 12, _ =>
      cases ho
      have s45 : a.tmps.getD 45 undef = .bool true := hG { on := 8, ground := .guard } (by simp) rfl
      obtain ⟨p47, s47, hp47⟩ : Pn l1 l2 k Z z16 x1 x2 A1 A2 n1 n2 c1 c2 ps qs 10 (a.tmps.getD 47 undef) W := hG { on := 10, ground := .data } (by simp) rfl
      have s48 : a.tmps.getD 48 undef = .agg (sigV 0 Z (.slice none 0 0)).toArray := hG { on := 11, ground := .data } (by simp) rfl
      have g45 := hF.get (by omega) s45
      go_wp2_with fail
      refine (same W 0 0 Z Z p47 (.slice none 0 0) ([] : List (List Nat)) [] lZ lZ hp47 (SlC.nil _ _) n16_nil n16_nil (by simp)).mono ?_
      rintro e W2 ⟨rfl, hb2⟩
      go_wp2_with fail
      exact hK _ _ (AtN_keep hS hb2) hb2 (by first | rfl | (show _ = _; simp))
    | 13, _ =>
      cases ho
      have s45 : a.tmps.getD 45 undef = .bool true := hG { on := 8, ground := .data } (by simp) rfl
      have s49 : a.tmps.getD 49 undef = .bool true := hG { on := 12, ground := .data } (by simp) rfl
      go_wp2_with fail
      exact hK _ _ hS (Below.refl _ _) (by first | rfl | (show _ = _; rw [HZ.out]) | (show _ = _; rw [Z16.out]) | (show _ = _; simp))
    | 14, _ =>
      cases ho
      have s50 : a.tmps.getD 50 undef = .bool true := hG { on := 13, ground := .data } (by simp) rfl
      go_wp2_with fail
      exact hK _ _ hS (Below.refl _ _) (by first | rfl | (show _ = _; rw [HZ.out]) | (show _ = _; rw [Z16.out]) | (show _ = _; simp))
    | 15, _ =>
      cases ho
      have s11 : a.tmps.getD 11 undef = .int .i64 1 := hF.slots 11 (by omega)
      have s51 : a.tmps.getD 51 undef = .bool true := hG { on := 14, ground := .guard } (by simp) rfl
      have g51 := hF.get (by omega) s51
      go_wp2_with fail
      exact hK _ _ hS (Below.refl _ _) (by first | rfl | (show _ = _; rw [HZ.out]) | (show _ = _; rw [Z16.out]) | (show _ = _; simp))
    | 16, _ =>
      cases ho
      have s51 : a.tmps.getD 51 undef = .bool true := hG { on := 14, ground := .guard } (by simp) rfl
      have s52 : a.tmps.getD 52 undef = .int .i64 1 := hG { on := 15, ground := .data } (by simp) rfl
      have g51 := hF.get (by omega) s51
      go_wp2_with fail
      exact hK _ _ hS (Below.refl _ _) (by first | rfl | (show _ = _; rw [HZ.out]) | (show _ = _; rw [Z16.out]) | (show _ = _; simp))
    | 17, _ =>
      cases ho
      have s51 : a.tmps.getD 51 undef = .bool true := hG { on := 14, ground := .data } (by simp) rfl
      have s53 : a.tmps.getD 53 undef = .bool true := hG { on := 16, ground := .data } (by simp) rfl
      go_wp2_with fail
      exact hK _ _ hS (Below.refl _ _) (by first | rfl | (show _ = _; rw [HZ.out]) | (show _ = _; rw [Z16.out]) | (show _ = _; simp))
    | 18, _ =>
      cases ho
      have s54 : a.tmps.getD 54 undef = .bool true := hG { on := 17, ground := .data } (by simp) rfl
      go_wp2_with fail
      exact hK _ _ hS (Below.refl _ _) (by first | rfl | (show _ = _; rw [HZ.out]) | (show _ = _; rw [Z16.out]) | (show _ = _; simp))
    | 19, _ =>
      cases ho
      have s7 : a.tmps.getD 7 undef = .pointer none := hF.slots 7 (by omega)
      have s55 : a.tmps.getD 55 undef = .bool true := hG { on := 18, ground := .guard } (by simp) rfl
      have g55 := hF.get (by omega) s55
      go_wp2_with fail
      exact hK _ _ hS (Below.refl _ _) (by first | rfl | (show _ = _; rw [HZ.out]) | (show _ = _; rw [Z16.out]) | (show _ = _; simp))
    | 20, _ =>
      cases ho
      have s2 : a.tmps.getD 2 undef = .int .i64 k := hF.slots 2 (by omega)
      have s55 : a.tmps.getD 55 undef = .bool true := hG { on := 18, ground := .guard } (by simp) rfl
      have g55 := hF.get (by omega) s55
      go_wp2_with fail
      exact hK _ _ hS (Below.refl _ _) (by first | rfl | (show _ = _; rw [HZ.out]) | (show _ = _; rw [Z16.out]) | (show _ = _; simp))
    | 21, _ =>
      cases ho
      have s55 : a.tmps.getD 55 undef = .bool true := hG { on := 18, ground := .guard } (by simp) rfl
      have s56 : a.tmps.getD 56 undef = .pointer none := hG { on := 19, ground := .data } (by simp) rfl
      have s57 : a.tmps.getD 57 undef = .int .i64 k := hG { on := 20, ground := .data } (by simp) rfl
      have g55 := hF.get (by omega) s55
      go_wp2_with fail
      refine (skip_nil W k).mono ?_
      rintro e W2 ⟨rfl, rfl⟩
      go_wp2_with fail
      exact hK _ _ hS (Below.refl _ _) rfl
    | 22, _ =>
      cases ho
      have s55 : a.tmps.getD 55 undef = .bool true := hG { on := 18, ground := .guard } (by simp) rfl
      have s58 : a.tmps.getD 58 undef = .int .i64 1 := hG { on := 21, ground := .data } (by simp) rfl
      have g55 := hF.get (by omega) s55
      go_wp2_with fail
      exact hK _ _ hS (Below.refl _ _) (by first | rfl | (show _ = _; rw [HZ.out]) | (show _ = _; rw [Z16.out]) | (show _ = _; simp))
    | 23, _ =>
      cases ho
      have s55 : a.tmps.getD 55 undef = .bool true := hG { on := 18, ground := .data } (by simp) rfl
      have s59 : a.tmps.getD 59 undef = .bool true := hG { on := 22, ground := .data } (by simp) rfl
      go_wp2_with fail
      exact hK _ _ hS (Below.refl _ _) (by first | rfl | (show _ = _; rw [HZ.out]) | (show _ = _; rw [Z16.out]) | (show _ = _; simp))
    | 24, _ =>
      cases ho
      have s60 : a.tmps.getD 60 undef = .bool true := hG { on := 23, ground := .data } (by simp) rfl
      go_wp2_with fail
      exact hK _ _ hS (Below.refl _ _) (by first | rfl | (show _ = _; rw [HZ.out]) | (show _ = _; rw [Z16.out]) | (show _ = _; simp))
    | 25, _ =>
      cases ho
      have s7 : a.tmps.getD 7 undef = .pointer none := hF.slots 7 (by omega)
      have s61 : a.tmps.getD 61 undef = .bool true := hG { on := 24, ground := .guard } (by simp) rfl
      have g61 := hF.get (by omega) s61
      go_wp2_with fail
      exact hK _ _ hS (Below.refl _ _) (by first | rfl | (show _ = _; rw [HZ.out]) | (show _ = _; rw [Z16.out]) | (show _ = _; simp))
    | 26, _ =>
      cases ho
      have s61 : a.tmps.getD 61 undef = .bool true := hG { on := 24, ground := .guard } (by simp) rfl
      have s62 : a.tmps.getD 62 undef = .pointer none := hG { on := 25, ground := .data } (by simp) rfl
      have g61 := hF.get (by omega) s61
      go_wp2_with fail
      refine (next_nil W).mono ?_
      rintro e W2 ⟨rfl, rfl⟩
      go_wp2_with fail
      exact hK _ _ hS (Below.refl _ _) rfl
    | 27, _ =>
      cases ho
      have s61 : a.tmps.getD 61 undef = .bool true := hG { on := 24, ground := .guard } (by simp) rfl
      have s63 : a.tmps.getD 63 undef = .int .i64 0 := hG { on := 26, ground := .data } (by simp) rfl
      have g61 := hF.get (by omega) s61
      go_wp2_with fail
      exact hK _ _ hS (Below.refl _ _) (by first | rfl | (show _ = _; rw [HZ.out]) | (show _ = _; rw [Z16.out]) | (show _ = _; simp))
    | 28, _ =>
      cases ho
      have s61 : a.tmps.getD 61 undef = .bool true := hG { on := 24, ground := .data } (by simp) rfl
      have s64 : a.tmps.getD 64 undef = .bool true := hG { on := 27, ground := .data } (by simp) rfl
      go_wp2_with fail
      exact hK _ _ hS (Below.refl _ _) (by first | rfl | (show _ = _; rw [HZ.out]) | (show _ = _; rw [Z16.out]) | (show _ = _; simp))
    | 29, _ =>
      cases ho
      have s65 : a.tmps.getD 65 undef = .bool true := hG { on := 28, ground := .data } (by simp) rfl
      go_wp2_with fail
      exact hK _ _ hS (Below.refl _ _) (by first | rfl | (show _ = _; rw [HZ.out]) | (show _ = _; rw [Z16.out]) | (show _ = _; simp))
    | 30, _ =>
      cases ho
      have s7 : a.tmps.getD 7 undef = .pointer none := hF.slots 7 (by omega)
      have s66 : a.tmps.getD 66 undef = .bool true := hG { on := 29, ground := .guard } (by simp) rfl
      have g66 := hF.get (by omega) s66
      go_wp2_with fail
      exact hK _ _ hS (Below.refl _ _) (by first | rfl | (show _ = _; rw [HZ.out]) | (show _ = _; rw [Z16.out]) | (show _ = _; simp))
    | 31, _ =>
      cases ho
      have s66 : a.tmps.getD 66 undef = .bool true := hG { on := 29, ground := .guard } (by simp) rfl
      have s67 : a.tmps.getD 67 undef = .pointer none := hG { on := 30, ground := .data } (by simp) rfl
      have g66 := hF.get (by omega) s66
      go_wp2_with fail
      refine (left_nil W).mono ?_
      rintro e W2 ⟨rfl, rfl⟩
      go_wp2_with fail
      exact hK _ _ hS (Below.refl _ _) rfl
    | 32, _ =>
      cases ho
      have s66 : a.tmps.getD 66 undef = .bool true := hG { on := 29, ground := .guard } (by simp) rfl
      have s68 : a.tmps.getD 68 undef = .int .i64 0 := hG { on := 31, ground := .data } (by simp) rfl
      have g66 := hF.get (by omega) s66
      go_wp2_with fail
      exact hK _ _ hS (Below.refl _ _) (by first | rfl | (show _ = _; rw [HZ.out]) | (show _ = _; rw [Z16.out]) | (show _ = _; simp))
    | 33, _ =>
      cases ho
      have s66 : a.tmps.getD 66 undef = .bool true := hG { on := 29, ground := .data } (by simp) rfl
      have s69 : a.tmps.getD 69 undef = .bool true := hG { on := 32, ground := .data } (by simp) rfl
      go_wp2_with fail
      exact hK _ _ hS (Below.refl _ _) (by first | rfl | (show _ = _; rw [HZ.out]) | (show _ = _; rw [Z16.out]) | (show _ = _; simp))
    | 34, _ =>
      cases ho
      have s70 : a.tmps.getD 70 undef = .bool true := hG { on := 33, ground := .data } (by simp) rfl
      go_wp2_with fail
      exact hK _ _ hS (Below.refl _ _) (by first | rfl | (show _ = _; rw [HZ.out]) | (show _ = _; rw [Z16.out]) | (show _ = _; simp))
    | 35, _ =>
      cases ho
      have s7 : a.tmps.getD 7 undef = .pointer none := hF.slots 7 (by omega)
      have s71 : a.tmps.getD 71 undef = .bool true := hG { on := 34, ground := .guard } (by simp) rfl
      have g71 := hF.get (by omega) s71
      go_wp2_with fail
      exact hK _ _ hS (Below.refl _ _) (by first | rfl | (show _ = _; rw [HZ.out]) | (show _ = _; rw [Z16.out]) | (show _ = _; simp))
    | 36, _ =>
      cases ho
      have s71 : a.tmps.getD 71 undef = .bool true := hG { on := 34, ground := .guard } (by simp) rfl
      have s72 : a.tmps.getD 72 undef = .pointer none := hG { on := 35, ground := .data } (by simp) rfl
      have g71 := hF.get (by omega) s71
      go_wp2_with fail
      refine (public_nil W).mono ?_
      rintro e W2 ⟨rfl, hb2⟩
      go_wp2_with fail
      exact hK _ _ (AtN_keep hS hb2) hb2 (by show _ = _; rw [Z16.out])
    | 37, _ =>
      cases ho
      have s71 : a.tmps.getD 71 undef = .bool true := hG { on := 34, ground := .guard } (by simp) rfl
      have g71 := hF.get (by omega) s71
      go_wp2_with fail
      exact hK _ _ hS (Below.refl _ _) (by first | rfl | (show _ = _; rw [HZ.out]) | (show _ = _; rw [Z16.out]) | (show _ = _; simp))
    | 38, _ =>
      cases ho
      have s71 : a.tmps.getD 71 undef = .bool true := hG { on := 34, ground := .guard } (by simp) rfl
      have s73 : a.tmps.getD 73 undef = .agg (pubV 0 z16).toArray := hG { on := 36, ground := .data } (by simp) rfl
      have s74 : a.tmps.getD 74 undef = .agg (pubV 0 z16).toArray := hG { on := 37, ground := .data } (by simp) rfl
      have g71 := hF.get (by omega) s71
      go_wp2_with fail
      exact hK _ _ hS (Below.refl _ _) (by first | rfl | (show _ = _; rw [HZ.out]) | (show _ = _; rw [Z16.out]) | (show _ = _; simp))
    | 39, _ =>
      cases ho
      have s71 : a.tmps.getD 71 undef = .bool true := hG { on := 34, ground := .data } (by simp) rfl
      have s75 : a.tmps.getD 75 undef = .bool true := hG { on := 38, ground := .data } (by simp) rfl
      go_wp2_with fail
      exact hK _ _ hS (Below.refl _ _) (by first | rfl | (show _ = _; rw [HZ.out]) | (show _ = _; rw [Z16.out]) | (show _ = _; simp))
    | 40, _ =>
      cases ho
      have s76 : a.tmps.getD 76 undef = .bool true := hG { on := 39, ground := .data } (by simp) rfl
      go_wp2_with fail
      exact hK _ _ hS (Below.refl _ _) (by first | rfl | (show _ = _; rw [HZ.out]) | (show _ = _; rw [Z16.out]) | (show _ = _; simp))
    | 41, _ =>
      cases ho
      have s3 : a.tmps.getD 3 undef = .pointer (some ⟨w.heap.size, 0, none⟩) := hF.slots 3 (by omega)
      have s77 : a.tmps.getD 77 undef = .bool true := hG { on := 40, ground := .guard } (by simp) rfl
      have g77 := hF.get (by omega) s77
      go_wp2_with fail
      exact hK _ _ hS (Below.refl _ _) (by first | rfl | (show _ = _; rw [HZ.out]) | (show _ = _; rw [Z16.out]) | (show _ = _; simp))
    | 42, _ =>
      cases ho
      have s77 : a.tmps.getD 77 undef = .bool true := hG { on := 40, ground := .guard } (by simp) rfl
      have s78 : a.tmps.getD 78 undef = .agg (sigV l1 x1 (.slice A1 n1 c1)).toArray := hG { on := 41, ground := .data } (by simp) rfl
      have g77 := hF.get (by omega) s77
      go_wp2_with fail
      refine (own W l1 x1 (.slice A1 n1 c1) ps h1 (HP.out.keep hS.2.2.2.2) (by have := M1.out; omega)).mono ?_
      rintro e W2 ⟨p, rfl, ho2, hb2⟩
      go_wp2_with fail
      exact hK _ _ (AtN_keep hS hb2) hb2 ⟨p, rfl, SlC.of_own ho2⟩
    | 43, _ =>
      cases ho
      have s4 : a.tmps.getD 4 undef = .pointer (some ⟨w.heap.size + 1, 0, none⟩) := hF.slots 4 (by omega)
      have s77 : a.tmps.getD 77 undef = .bool true := hG { on := 40, ground := .guard } (by simp) rfl
      have g77 := hF.get (by omega) s77
      go_wp2_with fail
      exact hK _ _ hS (Below.refl _ _) (by first | rfl | (show _ = _; rw [HZ.out]) | (show _ = _; rw [Z16.out]) | (show _ = _; simp))
    | 44, _ =>
      cases ho
      have s77 : a.tmps.getD 77 undef = .bool true := hG { on := 40, ground := .guard } (by simp) rfl
      have s80 : a.tmps.getD 80 undef = .agg (sigV l2 x2 (.slice A2 n2 c2)).toArray := hG { on := 43, ground := .data } (by simp) rfl
      have g77 := hF.get (by omega) s77
      go_wp2_with fail
      refine (own W l2 x2 (.slice A2 n2 c2) qs h2 (HQ.out.keep hS.2.2.2.2) (by have := M2.out; omega)).mono ?_
      rintro e W2 ⟨p, rfl, ho2, hb2⟩
      go_wp2_with fail
      exact hK _ _ (AtN_keep hS hb2) hb2 ⟨p, rfl, SlC.of_own ho2⟩
    | 45, _ =>
      cases ho
      have s77 : a.tmps.getD 77 undef = .bool true := hG { on := 40, ground := .guard } (by simp) rfl
      obtain ⟨p79, s79, hp79⟩ : Pn l1 l2 k Z z16 x1 x2 A1 A2 n1 n2 c1 c2 ps qs 42 (a.tmps.getD 79 undef) W := hG { on := 42, ground := .data } (by simp) rfl
      obtain ⟨p81, s81, hp81⟩ : Pn l1 l2 k Z z16 x1 x2 A1 A2 n1 n2 c1 c2 ps qs 44 (a.tmps.getD 81 undef) W := hG { on := 44, ground := .data } (by simp) rfl
      have g77 := hF.get (by omega) s77
      go_wp2_with fail
      refine (sig_equal W l1 l2 x1 x2 p79 p81 ps qs h1 h2 hp79 hp81 NP.out NQ.out (by have := M1.out; omega)).mono ?_
      rintro e W2 ⟨rfl, hb2⟩
      go_wp2_with fail
      exact hK _ _ (AtN_keep hS hb2) hb2 (by first | rfl | (show _ = _; simp))
    | 46, _ =>
      cases ho
      have s3 : a.tmps.getD 3 undef = .pointer (some ⟨w.heap.size, 0, none⟩) := hF.slots 3 (by omega)
      have s77 : a.tmps.getD 77 undef = .bool true := hG { on := 40, ground := .guard } (by simp) rfl
      have g77 := hF.get (by omega) s77
      go_wp2_with fail
      exact hK _ _ hS (Below.refl _ _) (by first | rfl | (show _ = _; rw [HZ.out]) | (show _ = _; rw [Z16.out]) | (show _ = _; simp))
    | 47, _ =>
      cases ho
      have s4 : a.tmps.getD 4 undef = .pointer (some ⟨w.heap.size + 1, 0, none⟩) := hF.slots 4 (by omega)
      have s77 : a.tmps.getD 77 undef = .bool true := hG { on := 40, ground := .guard } (by simp) rfl
      have g77 := hF.get (by omega) s77
      go_wp2_with fail
      exact hK _ _ hS (Below.refl _ _) (by first | rfl | (show _ = _; rw [HZ.out]) | (show _ = _; rw [Z16.out]) | (show _ = _; simp))
    | 48, _ =>
      cases ho
      have s77 : a.tmps.getD 77 undef = .bool true := hG { on := 40, ground := .guard } (by simp) rfl
      have s83 : a.tmps.getD 83 undef = .agg (sigV l1 x1 (.slice A1 n1 c1)).toArray := hG { on := 46, ground := .data } (by simp) rfl
      have s84 : a.tmps.getD 84 undef = .agg (sigV l2 x2 (.slice A2 n2 c2)).toArray := hG { on := 47, ground := .data } (by simp) rfl
      have g77 := hF.get (by omega) s77
      go_wp2_with fail
      refine (same W l1 l2 x1 x2 (.slice A1 n1 c1) (.slice A2 n2 c2) ps qs h1 h2 (HP.out.keep hS.2.2.2.2) (HQ.out.keep hS.2.2.2.2) NP.out NQ.out (by have := M1.out; omega)).mono ?_
      rintro e W2 ⟨rfl, hb2⟩
      go_wp2_with fail
      exact hK _ _ (AtN_keep hS hb2) hb2 (by first | rfl | (show _ = _; simp))
    | 49, _ =>
      cases ho
      have s77 : a.tmps.getD 77 undef = .bool true := hG { on := 40, ground := .guard } (by simp) rfl
      have s82 : a.tmps.getD 82 undef = .bool (decide (l1 = l2 ∧ x1 = x2 ∧ ps = qs)) := hG { on := 45, ground := .data } (by simp) rfl
      have s85 : a.tmps.getD 85 undef = .bool (decide (l1 = l2 ∧ x1 = x2 ∧ ps = qs)) := hG { on := 48, ground := .data } (by simp) rfl
      have g77 := hF.get (by omega) s77
      go_wp2_with fail
      exact hK _ _ hS (Below.refl _ _) (by first | rfl | (show _ = _; rw [HZ.out]) | (show _ = _; rw [Z16.out]) | (show _ = _; simp))
    | 50, _ =>
      cases ho
      have s77 : a.tmps.getD 77 undef = .bool true := hG { on := 40, ground := .data } (by simp) rfl
      have s86 : a.tmps.getD 86 undef = .bool true := hG { on := 49, ground := .data } (by simp) rfl
      go_wp2_with fail
      exact hK _ _ hS (Below.refl _ _) (by first | rfl | (show _ = _; rw [HZ.out]) | (show _ = _; rw [Z16.out]) | (show _ = _; simp))
    | 51, _ =>
      cases ho
      have s87 : a.tmps.getD 87 undef = .bool true := hG { on := 50, ground := .data } (by simp) rfl
      go_wp2_with fail
      exact hK _ _ hS (Below.refl _ _) (by first | rfl | (show _ = _; rw [HZ.out]) | (show _ = _; rw [Z16.out]) | (show _ = _; simp))
    | 52, _ =>
      cases ho
      have s3 : a.tmps.getD 3 undef = .pointer (some ⟨w.heap.size, 0, none⟩) := hF.slots 3 (by omega)
      have s88 : a.tmps.getD 88 undef = .bool true := hG { on := 51, ground := .guard } (by simp) rfl
      have g88 := hF.get (by omega) s88
      go_wp2_with fail
      exact hK _ _ hS (Below.refl _ _) (by first | rfl | (show _ = _; rw [HZ.out]) | (show _ = _; rw [Z16.out]) | (show _ = _; simp))
    | 53, _ =>
      cases ho
      have s88 : a.tmps.getD 88 undef = .bool true := hG { on := 51, ground := .guard } (by simp) rfl
      have s89 : a.tmps.getD 89 undef = .agg (sigV l1 x1 (.slice A1 n1 c1)).toArray := hG { on := 52, ground := .data } (by simp) rfl
      have g88 := hF.get (by omega) s88
      go_wp2_with fail
      refine (own W l1 x1 (.slice A1 n1 c1) ps h1 (HP.out.keep hS.2.2.2.2) (by have := M1.out; omega)).mono ?_
      rintro e W2 ⟨p, rfl, ho2, hb2⟩
      go_wp2_with fail
      exact hK _ _ (AtN_keep hS hb2) hb2 ⟨p, rfl, SlC.of_own ho2⟩
    | 54, _ =>
      cases ho
      have s3 : a.tmps.getD 3 undef = .pointer (some ⟨w.heap.size, 0, none⟩) := hF.slots 3 (by omega)
      have s88 : a.tmps.getD 88 undef = .bool true := hG { on := 51, ground := .guard } (by simp) rfl
      have g88 := hF.get (by omega) s88
      go_wp2_with fail
      exact hK _ _ hS (Below.refl _ _) (by first | rfl | (show _ = _; rw [HZ.out]) | (show _ = _; rw [Z16.out]) | (show _ = _; simp))
    | 55, _ =>
      cases ho
      have s88 : a.tmps.getD 88 undef = .bool true := hG { on := 51, ground := .guard } (by simp) rfl
      have s91 : a.tmps.getD 91 undef = .agg (sigV l1 x1 (.slice A1 n1 c1)).toArray := hG { on := 54, ground := .data } (by simp) rfl
      have g88 := hF.get (by omega) s88
      go_wp2_with fail
      refine (own W l1 x1 (.slice A1 n1 c1) ps h1 (HP.out.keep hS.2.2.2.2) (by have := M1.out; omega)).mono ?_
      rintro e W2 ⟨p, rfl, ho2, hb2⟩
      go_wp2_with fail
      exact hK _ _ (AtN_keep hS hb2) hb2 ⟨p, rfl, SlC.of_own ho2⟩
    | 56, _ =>
      cases ho
      have s88 : a.tmps.getD 88 undef = .bool true := hG { on := 51, ground := .guard } (by simp) rfl
      obtain ⟨p90, s90, hp90⟩ : Pn l1 l2 k Z z16 x1 x2 A1 A2 n1 n2 c1 c2 ps qs 53 (a.tmps.getD 90 undef) W := hG { on := 53, ground := .data } (by simp) rfl
      obtain ⟨p92, s92, hp92⟩ : Pn l1 l2 k Z z16 x1 x2 A1 A2 n1 n2 c1 c2 ps qs 55 (a.tmps.getD 92 undef) W := hG { on := 55, ground := .data } (by simp) rfl
      have g88 := hF.get (by omega) s88
      go_wp2_with fail
      refine (sig_equal W l1 l1 x1 x1 p90 p92 ps ps h1 h1 hp90 hp92 NP.out NP.out (by have := M1.out; omega)).mono ?_
      rintro e W2 ⟨rfl, hb2⟩
      go_wp2_with fail
      exact hK _ _ (AtN_keep hS hb2) hb2 (by first | rfl | (show _ = _; simp))
    | 57, _ =>
      cases ho
      have s88 : a.tmps.getD 88 undef = .bool true := hG { on := 51, ground := .data } (by simp) rfl
      have s93 : a.tmps.getD 93 undef = .bool true := hG { on := 56, ground := .data } (by simp) rfl
      go_wp2_with fail
      exact hK _ _ hS (Below.refl _ _) (by first | rfl | (show _ = _; rw [HZ.out]) | (show _ = _; rw [Z16.out]) | (show _ = _; simp))
    | i + 58, hi => exact absurd hi (by omega)
  · intro a W hS hF hG
    have s94 : a.tmps.getD 94 undef = .bool true := hG 57 (by omega)
    have hd := hF.defers
    have hz := hF.size
    simp only [List.drop_succ_cons, List.drop_zero]
    go_wp2_with fail
    refine bodyPost_ret (results_tmp rfl _ _ _) rfl ⟨?_, hS.2.2.2.2⟩
    show Ending.returned ((a.tmps.setIfInBounds 6 (.bool true)).getD 6 undef) = _
    rw [Ord.getD_set_same _ _ (by rw [hz]; omega)]
end Go.Proofs.Ytlgpipdeckdmjaa.Nil
