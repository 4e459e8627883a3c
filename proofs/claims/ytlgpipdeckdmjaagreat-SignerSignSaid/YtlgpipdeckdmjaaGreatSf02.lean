/-
  Several texts laid into one (merge.py): Sso2, SsignWalk, SsignProof.
-/
import Derived.Test.YtlgpipdeckdmjaaGreatSf01
import Derived.Test.YtlgpipdeckdmjaaGreatKf01
import Derived.Test.YtlgpipdeckdmjaaGreatVf21
import Derived.Test.YtlgpipdeckdmjaaGreatVf22
import Derived.Test.YtlgpipdeckdmjaaGreatVf18
import Derived.Test.YtlgpipdeckdmjaaGreatRows
import Derived.WalkKit
import Derived.ProofKit
import Derived.OpenShut
import Derived.ShutString
import Derived.ChangeOld
import Derived.Below
/-
  SignerSign: the walk. Printed by gen_ssign.py.
-/
set_option linter.unusedVariables false
set_option linter.unusedSimpArgs false
namespace Go.Proofs.YtlgpipdeckdmjaaGreat.Rm
open Go.RowKit Base Reg Types Slice Sha
open Go.Proofs.YtlgpipdeckdmjaaGreat.One
open Go.Proofs.YtlgpipdeckdmjaaGreat.Str
open Go.Proofs.YtlgpipdeckdmjaaGreat.Mer
open Go.Proofs.YtlgpipdeckdmjaaGreat.Sgn
open Go.Proofs.YtlgpipdeckdmjaaGreat.Signed
open Go.Proofs.YtlgpipdeckdmjaaGreat.Byt
open Go.Proofs.YtlgpipdeckdmjaaGreat.Known8 (known)
open Go.Proofs.YtlgpipdeckdmjaaGreat.Nil (back same)
def AtY (w w0 : World) (seed d : List Nat) (W : World) : Prop :=
  blk W w.heap.size (cl .u8 seed) 22 ∧ blk W (w.heap.size + 1) (cl .u8 d) 23 ∧ Below w.heap.size w W ∧ w0.heap.size ≤ W.heap.size
theorem AtY_keep {w w0 : World} {seed d : List Nat} {W W' : World} (h : AtY w w0 seed d W) (hb : Below W.heap.size W W') : AtY w w0 seed d W' := ⟨blk_keep h.1 hb, blk_keep h.2.1 hb, bel_trans h.2.2.1 hb h.2.2.1.size, Nat.le_trans h.2.2.2 hb.size⟩
def AtZ (w : World) (a b c : Nat) (seed d : List Nat) (h : Nat) (l : Int) (S : List Nat) (p : Value) (PS : List (List Nat)) (KR : List Nat) (W : World) : Prop :=
  blk W w.heap.size (cl .u8 seed) 22 ∧ blk W (w.heap.size + 1) (cl .u8 d) 23 ∧ blk W a (secV seed (h : Int)) 27 ∧ blk W b (sigV l S p) 31 ∧ SlN W p PS ∧ blk W c (pubV (h : Int) KR) 39 ∧ Below w.heap.size w W
theorem AtZ_keep {w : World} {a b c : Nat} {seed d : List Nat} {h : Nat} {l : Int} {S : List Nat} {p : Value} {PS : List (List Nat)} {KR : List Nat} {W W' : World} (hA : AtZ w a b c seed d h l S p PS KR W) (hb : Below W.heap.size W W') : AtZ w a b c seed d h l S p PS KR W' :=
  ⟨blk_keep hA.1 hb, blk_keep hA.2.1 hb, blk_keep hA.2.2.1 hb, blk_keep hA.2.2.2.1 hb, hA.2.2.2.2.1.keep hb, blk_keep hA.2.2.2.2.2.1 hb, bel_trans hA.2.2.2.2.2.2 hb hA.2.2.2.2.2.2.size⟩
def SyP (w : World) (m h : Nat) (seed : List Nat) (i : Nat) (v : Value) (W : World) : Prop := match i with
  | 0 => v = agg .u8 seed
  | 1 => v = .int .u8 (m : Int)
  | 2 => v = .int .i64 (h : Int)
  | 3 => v = .agg (secV seed (h : Int)).toArray
  | 4 => ∃ q, v = .pointer (some ⟨q, 0, none⟩) ∧ w.heap.size + 1 + 1 ≤ q ∧ blk W q (secV (zs 32) 0) 27
  | _ => True
theorem SyP_mono (w : World) (m h : Nat) (seed : List Nat) (i : Nat) (v : Value) (W W' : World) (hb : Below W.heap.size W W') (hQ : SyP w m h seed i v W) : SyP w m h seed i v W' := by
  unfold SyP at hQ ⊢
  split at hQ
  · exact hQ
  · exact hQ
  · exact hQ
  · exact hQ
  · obtain ⟨q, h1, h2⟩ := hQ
    exact ⟨q, h1, h2.1, blk_keep h2.2 hb⟩
  · exact hQ
def SzP (h leaf q9 a1 : Nat) (A1 : Option Addr) (S KR seed d : List Nat) (PS : List (List Nat)) (i : Nat) (v : Value) (W : World) : Prop := match i with
  | 0 => v = .int .i64 0
  | 1 => v = .bool true
  | 2 => v = .bool true
  | 3 => v = .int .i64 0
  | 4 => v = .bool true
  | 5 => v = .bool true
  | 6 => v = .bool true
  | 7 => v = .agg (sigV (leaf : Int) S (.slice A1 PS.length a1)).toArray
  | 8 => ∃ p, v = .agg (sigV (leaf : Int) S p).toArray ∧ SlN W p PS
  | 9 => v = agg .u8 seed
  | 10 => v = .pointer (some ⟨q9, 32, none⟩)
  | 11 => v = .int .i64 (h : Int)
  | 12 => v = .int .i64 (leaf : Int)
  | 13 => v = agg .u8 d
  | 14 => ∃ p, v = .agg (sigV (leaf : Int) S p).toArray ∧ SlN W p PS
  | 15 => v = .bool true
  | 16 => v = .bool true
  | 17 => v = .bool true
  | 18 => v = .agg (pubV (h : Int) KR).toArray
  | 19 => v = agg .u8 d
  | 20 => v = .agg (sigV (leaf : Int) S (.slice A1 PS.length a1)).toArray
  | 21 => v = .int .i64 0
  | 22 => v = .bool true
  | 23 => v = .bool true
  | _ => True
theorem SzP_mono (h leaf q9 a1 : Nat) (A1 : Option Addr) (S KR seed d : List Nat) (PS : List (List Nat)) (i : Nat) (v : Value) (W W' : World) (hb : Below W.heap.size W W') (hQ : SzP h leaf q9 a1 A1 S KR seed d PS i v W) : SzP h leaf q9 a1 A1 S KR seed d PS i v W' := by
  unfold SzP at hQ ⊢
  split at hQ
  · exact hQ
  · exact hQ
  · exact hQ
  · exact hQ
  · exact hQ
  · exact hQ
  · exact hQ
  · exact hQ
  · obtain ⟨p, h1, h2⟩ := hQ
    exact ⟨p, h1, h2.keep hb⟩
  · exact hQ
  · exact hQ
  · exact hQ
  · exact hQ
  · exact hQ
  · obtain ⟨p, h1, h2⟩ := hQ
    exact ⟨p, h1, h2.keep hb⟩
  · exact hQ
  · exact hQ
  · exact hQ
  · exact hQ
  · exact hQ
  · exact hQ
  · exact hQ
  · exact hQ
  · exact hQ
  · exact hQ
set_option maxRecDepth 20000 in
set_option maxHeartbeats 4000000 in
theorem ssign_in (w : World) (seed d : List Nat) (m h : Nat) (leaf : Nat) (hs : seed.length = 32) (hm : m < 256) (hd : d.length = 16) (bd : By d) (eh : h = 1 + m % 3) (hleaf : leaf < 2 ^ h) :
    Calls Tryz.prog 3 #[agg .u8 seed, .int .u8 (m : Int), .int .i64 (leaf : Int), agg .u8 d] w fun e w' => e = .returned (.bool true) ∧ Below w.heap.size w w' := by
  have hh : h = 1 ∨ h = 2 ∨ h = 3 := by omega
  have h3 : h ≤ 3 := by omega
  have p8 : 2 ^ h ≤ 2 ^ 3 := Nat.pow_le_pow_right (by omega) (by omega)
  have p8' : (2 : Int) ^ h ≤ 8 := by exact_mod_cast p8
  have p0 : (0 : Int) ≤ 2 ^ h := Int.le_of_lt (Int.pow_pos (by decide))
  have cl0 := Lib.hid (fun W => low W m hm)
  rw [← eh] at cl0
  have lS : (sg seed d leaf).length = 560 := sg_length _ _ _
  have lP : (sigPath seed h leaf).length = h := sigPath_length _ _ _
  have nP : N16 (sigPath seed h leaf) := sigPath_16 seed (by omega) hleaf
  have lK := keyRoot_length seed h
  have hre := reach_sg (seed := seed) bd (by omega) hleaf
  have c1 := Lib.hid (fun W => sign W seed d h leaf hs hd bd hh hleaf)
  have c2 := Lib.hid (fun W => secret_public W seed h hs hh)
  have c3 := Lib.hid (fun W => sign8 W seed d h leaf hs hd bd hh hleaf)
  have c4 : Hid (∀ W y, SlN W y (sigPath seed h leaf) → Calls Tryz.prog 14 #[.agg (pubV (h : Int) (keyRoot seed h)).toArray, agg .u8 d, .agg (sigV (leaf : Int) (sg seed d leaf) y).toArray] W fun e w' => e = .returned (.int .i64 0) ∧ Below W.heap.size W w') := Lib.hid fun W y hy => by
    have hv := verify_in W h leaf (keyRoot seed h) (sg seed d leaf) d y (sigPath seed h leaf) lK (by omega) (by omega) lS hd bd hy nP (by omega) (by omega) (by rw [lP]; exact hleaf)
    rw [if_pos ⟨lP, hre⟩] at hv
    exact hv
  obtain ⟨S, hS⟩ : ∃ S, S = sg seed d leaf := ⟨_, rfl⟩
  obtain ⟨PS, hPS⟩ : ∃ PS, PS = sigPath seed h leaf := ⟨_, rfl⟩
  obtain ⟨KR, hK⟩ : ∃ KR, KR = keyRoot seed h := ⟨_, rfl⟩
  rw [← hS] at c1 c3 c4 lS
  rw [← hPS] at c1 c3 c4 lP nP
  rw [← hK] at c2 c4 lK
  have cb : Hid (∀ W y, SlN W y PS → Calls Tryz.prog 11 #[.agg (sigV (leaf : Int) S y).toArray] W fun e w' => ∃ p, e = .returned (.agg (sigV (leaf : Int) S p).toArray) ∧ OwnN 23 w' W.heap.size p PS ∧ Below W.heap.size W w') := Lib.hid fun W y hy => back W (leaf : Int) S y PS lS hy (by omega)
  have cq : Hid (∀ W v1 v2, SlN W v1 PS → SlN W v2 PS → Calls Tryz.prog 10 #[.agg (sigV (leaf : Int) S v1).toArray, .agg (sigV (leaf : Int) S v2).toArray] W fun e w' => e = .returned (.bool (decide ((leaf : Int) = (leaf : Int) ∧ S = S ∧ PS = PS))) ∧ Below W.heap.size W w') := Lib.hid fun W v1 v2 h1 h2 => same W leaf leaf S S v1 v2 PS PS lS lS h1 h2 nP nP (by omega)
  have d1 : decide ((leaf : Int) < 0) = false := decide_eq_false (by omega)
  have hli : (leaf : Int) < 2 ^ h := by exact_mod_cast hleaf
  have d2 : decide ((2 : Int) ^ h ≤ (leaf : Int)) = false := decide_eq_false (by omega)
  have HS := Lib.hid lS
  have HSS := Lib.hid hs
  have LP := Lib.hid lP
  have hleaf8 : leaf < 8 := by omega
  clear hS hPS hK hre nP lP hh eh p8 hleaf bd hli
  obtain ⟨W0, hW0⟩ : ∃ W0, W0 = (w.alloc (.cells (cl .u8 seed).toArray 22)).alloc (.cells (cl .u8 d).toArray 23) := ⟨_, rfl⟩
  have y0 : AtY w W0 seed d W0 := by
    rw [hW0]
    exact ⟨blk_alloc (blk_new _ _ _) _, blk_at _ _ _ (by simp only [alloc_size]), ((Below.refl w.heap.size w).alloc (Nat.le_refl _) _).alloc (by simp only [alloc_size]; omega) _, Nat.le_refl _⟩
  have hz0 : W0.heap.size = w.heap.size + 1 + 1 := by rw [hW0]; simp only [alloc_size]
  have Y0 := Lib.hid y0
  have HW := Lib.hid hW0
  clear hW0 y0
  go_enter Tryz.func3, Tryz.ntmps3
  go_wp2_with fail
  rw [← HW.out]
  refine (known _).mono ?_
  rintro e w1 ⟨rfl, hb1⟩
  have Y1 := Lib.hid (AtY_keep Y0.out hb1)
  clear hb1
  go_wp2_with fail
  refine Ord.wp_region_tab2 5 [16, 17, 18, 19, 9] (agg IntKind.u8 seed :: Value.int IntKind.u8 ↑m :: Value.int IntKind.i64 (leaf : Int) :: agg IntKind.u8 d :: Value.pointer (some { block := w.heap.size, off := 0 }) :: undef :: undef :: Value.pointer (some { block := w.heap.size + 1, off := 0 }) :: Value.bool false :: undef :: undef :: undef :: undef :: undef :: Value.bool true :: Value.bool false :: undef :: undef :: undef :: undef :: undef :: undef :: undef :: undef :: undef :: undef :: undef :: undef :: undef :: undef :: undef :: undef :: undef :: undef :: undef :: undef :: undef :: undef :: undef :: undef :: undef :: undef :: undef :: undef :: undef :: undef :: undef :: undef :: undef :: undef :: undef :: undef :: undef :: undef :: undef :: undef :: undef :: undef :: undef :: undef :: undef :: undef :: undef :: undef :: undef :: undef :: undef :: undef :: undef :: undef :: undef :: undef :: undef :: []) (fun W => AtY w W0 seed d W) (SyP w m h seed) (by kernel_rfl) (by kernel_rfl) (by rfl) (AtY_keep Y1.out (Below.refl _ _).drew) (fun i v W W' _ hb hQ => SyP_mono w m h seed i v W W' hb hQ) ?_ ?_
  · intro i o hi ho a W K hS hF hG hK
    have k1 := bk_of hS.1
    match i, hi with
    | 0, _ =>
      cases ho
      have s4 : a.tmps.getD 4 undef = Value.pointer (some { block := w.heap.size, off := 0 }) := hF.slots 4 (by simp) (by decide)
      go_wp2_with fail
      exact hK _ _ hS (Below.refl _ _) (by first | rfl | (show _ = _; simp))
    | 1, _ =>
      cases ho
      have s1 : a.tmps.getD 1 undef = Value.int IntKind.u8 ↑m := hF.slots 1 (by simp) (by decide)
      go_wp2_with fail
      exact hK _ _ hS (Below.refl _ _) (by first | rfl | (show _ = _; simp))
    | 2, _ =>
      cases ho
      have s17 : a.tmps.getD 17 undef = .int .u8 (m : Int) := hG { on := 1, ground := .data } (by simp) rfl
      go_wp2_with fail
      refine (cl0.out W).mono ?_
      rintro e W2 ⟨rfl, hW2⟩
      subst hW2
      go_wp2_with fail
      exact hK _ _ hS (Below.refl _ _) rfl
    | 3, _ =>
      cases ho
      have s16 : a.tmps.getD 16 undef = agg .u8 seed := hG { on := 0, ground := .data } (by simp) rfl
      have s18 : a.tmps.getD 18 undef = .int .i64 (h : Int) := hG { on := 2, ground := .data } (by simp) rfl
      have g16 := hF.get (by simp) s16
      have g18 := hF.get (by simp) s18
      have hs1 := HSS.out
      go_wp2_with fail
      exact hK _ _ hS (Below.refl _ _) rfl
    | 4, _ =>
      cases ho
      go_wp2_with fail
      have hb2 := (Below.refl W.heap.size W).alloc (Nat.le_refl _) (.cells (secV (zs 32) 0).toArray 27)
      exact hK _ _ (AtY_keep hS hb2) hb2 ⟨_, rfl, by have := hS.2.2.2; omega, blk_new _ _ _⟩
    | i + 5, hi => exact absurd hi (by omega)
  · intro a W hS hF hG
    have t16 : a.tmps.getD 16 undef = agg .u8 seed := hG 0 (by omega)
    have t17 : a.tmps.getD 17 undef = .int .u8 (m : Int) := hG 1 (by omega)
    have t18 : a.tmps.getD 18 undef = .int .i64 (h : Int) := hG 2 (by omega)
    have t19 : a.tmps.getD 19 undef = .agg (secV seed (h : Int)).toArray := hG 3 (by omega)
    obtain ⟨q9, t9, hp9⟩ : SyP w m h seed 4 (a.tmps.getD 9 undef) W := hG 4 (by omega)
    have fr := Ord.frame_of (L := (agg IntKind.u8 seed :: Value.int IntKind.u8 ↑m :: Value.int IntKind.i64 (leaf : Int) :: agg IntKind.u8 d :: Value.pointer (some { block := w.heap.size, off := 0 }) :: undef :: undef :: Value.pointer (some { block := w.heap.size + 1, off := 0 }) :: Value.bool false :: .pointer (some ⟨q9, 0, none⟩) :: undef :: undef :: undef :: undef :: Value.bool true :: Value.bool false :: agg .u8 seed :: .int .u8 (m : Int) :: .int .i64 (h : Int) :: .agg (secV seed (h : Int)).toArray :: undef :: undef :: undef :: undef :: undef :: undef :: undef :: undef :: undef :: undef :: undef :: undef :: undef :: undef :: undef :: undef :: undef :: undef :: undef :: undef :: undef :: undef :: undef :: undef :: undef :: undef :: undef :: undef :: undef :: undef :: undef :: undef :: undef :: undef :: undef :: undef :: undef :: undef :: undef :: undef :: undef :: undef :: undef :: undef :: undef :: undef :: undef :: undef :: undef :: undef :: undef :: undef :: undef :: [])) hF.defers hF.size (fun k hk => match k, hk with
      | 0, _ => hF.slots 0 (by simp) (by decide)
      | 1, _ => hF.slots 1 (by simp) (by decide)
      | 2, _ => hF.slots 2 (by simp) (by decide)
      | 3, _ => hF.slots 3 (by simp) (by decide)
      | 4, _ => hF.slots 4 (by simp) (by decide)
      | 5, _ => hF.slots 5 (by simp) (by decide)
      | 6, _ => hF.slots 6 (by simp) (by decide)
      | 7, _ => hF.slots 7 (by simp) (by decide)
      | 8, _ => hF.slots 8 (by simp) (by decide)
      | 9, _ => t9
      | 10, _ => hF.slots 10 (by simp) (by decide)
      | 11, _ => hF.slots 11 (by simp) (by decide)
      | 12, _ => hF.slots 12 (by simp) (by decide)
      | 13, _ => hF.slots 13 (by simp) (by decide)
      | 14, _ => hF.slots 14 (by simp) (by decide)
      | 15, _ => hF.slots 15 (by simp) (by decide)
      | 16, _ => t16
      | 17, _ => t17
      | 18, _ => t18
      | 19, _ => t19
      | 20, _ => hF.slots 20 (by simp) (by decide)
      | 21, _ => hF.slots 21 (by simp) (by decide)
      | 22, _ => hF.slots 22 (by simp) (by decide)
      | 23, _ => hF.slots 23 (by simp) (by decide)
      | 24, _ => hF.slots 24 (by simp) (by decide)
      | 25, _ => hF.slots 25 (by simp) (by decide)
      | 26, _ => hF.slots 26 (by simp) (by decide)
      | 27, _ => hF.slots 27 (by simp) (by decide)
      | 28, _ => hF.slots 28 (by simp) (by decide)
      | 29, _ => hF.slots 29 (by simp) (by decide)
      | 30, _ => hF.slots 30 (by simp) (by decide)
      | 31, _ => hF.slots 31 (by simp) (by decide)
      | 32, _ => hF.slots 32 (by simp) (by decide)
      | 33, _ => hF.slots 33 (by simp) (by decide)
      | 34, _ => hF.slots 34 (by simp) (by decide)
      | 35, _ => hF.slots 35 (by simp) (by decide)
      | 36, _ => hF.slots 36 (by simp) (by decide)
      | 37, _ => hF.slots 37 (by simp) (by decide)
      | 38, _ => hF.slots 38 (by simp) (by decide)
      | 39, _ => hF.slots 39 (by simp) (by decide)
      | 40, _ => hF.slots 40 (by simp) (by decide)
      | 41, _ => hF.slots 41 (by simp) (by decide)
      | 42, _ => hF.slots 42 (by simp) (by decide)
      | 43, _ => hF.slots 43 (by simp) (by decide)
      | 44, _ => hF.slots 44 (by simp) (by decide)
      | 45, _ => hF.slots 45 (by simp) (by decide)
      | 46, _ => hF.slots 46 (by simp) (by decide)
      | 47, _ => hF.slots 47 (by simp) (by decide)
      | 48, _ => hF.slots 48 (by simp) (by decide)
      | 49, _ => hF.slots 49 (by simp) (by decide)
      | 50, _ => hF.slots 50 (by simp) (by decide)
      | 51, _ => hF.slots 51 (by simp) (by decide)
      | 52, _ => hF.slots 52 (by simp) (by decide)
      | 53, _ => hF.slots 53 (by simp) (by decide)
      | 54, _ => hF.slots 54 (by simp) (by decide)
      | 55, _ => hF.slots 55 (by simp) (by decide)
      | 56, _ => hF.slots 56 (by simp) (by decide)
      | 57, _ => hF.slots 57 (by simp) (by decide)
      | 58, _ => hF.slots 58 (by simp) (by decide)
      | 59, _ => hF.slots 59 (by simp) (by decide)
      | 60, _ => hF.slots 60 (by simp) (by decide)
      | 61, _ => hF.slots 61 (by simp) (by decide)
      | 62, _ => hF.slots 62 (by simp) (by decide)
      | 63, _ => hF.slots 63 (by simp) (by decide)
      | 64, _ => hF.slots 64 (by simp) (by decide)
      | 65, _ => hF.slots 65 (by simp) (by decide)
      | 66, _ => hF.slots 66 (by simp) (by decide)
      | 67, _ => hF.slots 67 (by simp) (by decide)
      | 68, _ => hF.slots 68 (by simp) (by decide)
      | 69, _ => hF.slots 69 (by simp) (by decide)
      | 70, _ => hF.slots 70 (by simp) (by decide)
      | 71, _ => hF.slots 71 (by simp) (by decide)
      | 72, _ => hF.slots 72 (by simp) (by decide)
      | k + 73, hk => absurd hk (by simp))
    subst fr
    clear hF hG t16 t17 t18 t19 t9
    simp only [List.drop_succ_cons, List.drop_zero]
    obtain ⟨hq, hqb⟩ := hp9
    have k9 := bk_of hqb
    have Y2 := Lib.hid (show blk (W.setRow q9 (secV seed (h : Int)).toArray) w.heap.size (cl .u8 seed) 22 ∧ blk (W.setRow q9 (secV seed (h : Int)).toArray) (w.heap.size + 1) (cl .u8 d) 23 ∧ blk (W.setRow q9 (secV seed (h : Int)).toArray) q9 (secV seed (h : Int)) 27 ∧ Below w.heap.size w (W.setRow q9 (secV seed (h : Int)).toArray) from ⟨blk_setRow_ne hS.1 _ (by omega), blk_setRow_ne hS.2.1 _ (by omega), blk_setRow hqb _, bel_setRow hS.2.2.1 (by omega) _⟩)
    have k10 := bk_of Y2.out.2.1
    have hneq : w.heap.size + 1 ≠ q9 := by omega
    have k11 := bk_of hS.2.1
    clear hS hqb
    have hs2 := HSS.out
    go_wp2_with fail
    refine (c1.out _).mono ?_
    rintro e w2 ⟨y, rfl, ho2, hb2⟩
    have hy2 := SlC.of_own ho2
    obtain ⟨A1, a1, rfl, -⟩ := id hy2
    have Y3 := Lib.hid (show blk (w2.alloc (.cells (sigV (leaf : Int) S (.slice A1 PS.length a1)).toArray 31)) w.heap.size (cl .u8 seed) 22 ∧ blk (w2.alloc (.cells (sigV (leaf : Int) S (.slice A1 PS.length a1)).toArray 31)) (w.heap.size + 1) (cl .u8 d) 23 ∧ blk (w2.alloc (.cells (sigV (leaf : Int) S (.slice A1 PS.length a1)).toArray 31)) q9 (secV seed (h : Int)) 27 ∧ blk (w2.alloc (.cells (sigV (leaf : Int) S (.slice A1 PS.length a1)).toArray 31)) w2.heap.size (sigV (leaf : Int) S (.slice A1 PS.length a1)) 31 ∧ SlN (w2.alloc (.cells (sigV (leaf : Int) S (.slice A1 PS.length a1)).toArray 31)) (.slice A1 PS.length a1) PS ∧ Below w.heap.size w (w2.alloc (.cells (sigV (leaf : Int) S (.slice A1 PS.length a1)).toArray 31)) from ⟨blk_alloc (blk_keep Y2.out.1 hb2) _, blk_alloc (blk_keep Y2.out.2.1 hb2) _, blk_alloc (blk_keep Y2.out.2.2.1 hb2) _, blk_new _ _ _, hy2.keep ((Below.refl _ _).alloc (Nat.le_refl _) _), by have := bel_trans Y2.out.2.2.2 hb2 Y2.out.2.2.2.size; exact this.alloc this.size _⟩)
    have k12 := sec_height hs2 Y3.out.2.2.1
    have k13 := bk_of (blk_keep Y2.out.2.2.1 hb2)
    have lt13 := blk_lt (blk_keep Y2.out.2.2.1 hb2)
    clear hb2 k9 k10 k11 ho2 hy2
    go_wp2_with fail
    refine (c2.out _).mono ?_
    rintro e w3 ⟨rfl, hb3⟩
    have Z3 := Lib.hid (show AtZ w q9 w2.heap.size w3.heap.size seed d h (leaf : Int) S (.slice A1 PS.length a1) PS KR (w3.alloc (.cells (pubV (h : Int) KR).toArray 39)) from ⟨blk_alloc (blk_keep Y3.out.1 hb3) _, blk_alloc (blk_keep Y3.out.2.1 hb3) _, blk_alloc (blk_keep Y3.out.2.2.1 hb3) _, blk_alloc (blk_keep Y3.out.2.2.2.1 hb3) _, (Y3.out.2.2.2.2.1.keep hb3).keep ((Below.refl _ _).alloc (Nat.le_refl _) _), blk_new _ _ _, by have := bel_trans Y3.out.2.2.2.2.2 hb3 Y3.out.2.2.2.2.2.size; exact this.alloc this.size _⟩)
    clear hb3 k12 k13 lt13
    go_wp2_with fail
    refine Ord.wp_region_tab2 24 [49, 50, 51, 52, 53, 54, 55, 56, 57, 58, 59, 60, 61, 62, 63, 64, 65, 66, 67, 68, 69, 70, 71, 72] (agg IntKind.u8 seed :: Value.int IntKind.u8 ↑m :: Value.int IntKind.i64 ↑leaf :: agg IntKind.u8 d :: Value.pointer (some { block := w.heap.size, off := 0 }) :: undef :: undef :: Value.pointer (some { block := w.heap.size + 1, off := 0 }) :: Value.bool false :: Value.pointer (some { block := q9, off := 0 }) :: Value.pointer (some { block := w2.heap.size, off := 0 }) :: Value.int IntKind.i64 0 :: Value.pointer (some { block := w3.heap.size, off := 0 }) :: Value.int IntKind.i64 0 :: Value.bool true :: Value.bool false :: agg IntKind.u8 seed :: Value.int IntKind.u8 ↑m :: Value.int IntKind.i64 ↑h :: Value.agg (secV seed ↑h).toArray :: Value.tuple #[Value.agg (sigV (↑leaf) S (Value.slice A1 PS.length a1)).toArray, Value.int IntKind.i64 0] :: Value.agg (secV seed ↑h).toArray :: Value.int IntKind.i64 ↑leaf :: Value.agg (cl IntKind.u8 d).toArray :: Value.tuple #[Value.agg (sigV (↑leaf) S (Value.slice A1 PS.length a1)).toArray, Value.int IntKind.i64 0] :: Value.agg (sigV (↑leaf) S (Value.slice A1 PS.length a1)).toArray :: Value.int IntKind.i64 0 :: Value.int IntKind.i64 ↑leaf :: Value.bool false :: Value.bool false :: Value.int IntKind.i64 ↑leaf :: Value.pointer (some { block := q9, off := 32 }) :: Value.int IntKind.i64 ↑h :: Value.int IntKind.i64 (2 ^ h) :: Value.bool false :: Value.bool false :: undef :: undef :: undef :: undef :: undef :: undef :: undef :: undef :: Value.tuple #[Value.agg (pubV (↑h) KR).toArray, Value.int IntKind.i64 0] :: Value.agg (secV seed ↑h).toArray :: Value.tuple #[Value.agg (pubV (↑h) KR).toArray, Value.int IntKind.i64 0] :: Value.agg (pubV (↑h) KR).toArray :: Value.int IntKind.i64 0 :: undef :: undef :: undef :: undef :: undef :: undef :: undef :: undef :: undef :: undef :: undef :: undef :: undef :: undef :: undef :: undef :: undef :: undef :: undef :: undef :: undef :: undef :: undef :: undef :: []) (fun W => AtZ w q9 w2.heap.size w3.heap.size seed d h (leaf : Int) S (.slice A1 PS.length a1) PS KR W) (SzP h leaf q9 a1 A1 S KR seed d PS) (by kernel_rfl) (by kernel_rfl) (by rfl) (AtZ_keep Z3.out (Below.refl _ _).drew) (fun i v W W' _ hb hQ => SzP_mono h leaf q9 a1 A1 S KR seed d PS i v W W' hb hQ) ?_ ?_
    · intro i o hi ho a W K hS hF hG hK
      have hs1 := HSS.out
      have lS1 := HS.out
      have k1 := bk_of hS.1
      have k2 := bk_of hS.2.1
      have k3 := sec_height hs1 hS.2.2.1
      have k4 := bk_of hS.2.2.2.1
      have k5 := bk_of hS.2.2.2.2.2.1
      match i, hi with
      | 0, _ =>
        cases ho
        have s11 : a.tmps.getD 11 undef = Value.int IntKind.i64 0 := hF.slots 11 (by simp) (by decide)
        go_wp2_with fail
        exact hK _ _ hS (Below.refl _ _) (by first | rfl | (show _ = _; simp))
      | 1, _ =>
        cases ho
        have s49 : a.tmps.getD 49 undef = .int .i64 0 := hG { on := 0, ground := .data } (by simp) rfl
        go_wp2_with fail
        exact hK _ _ hS (Below.refl _ _) (by first | rfl | (show _ = _; simp))
      | 2, _ =>
        cases ho
        have s50 : a.tmps.getD 50 undef = .bool true := hG { on := 1, ground := .data } (by simp) rfl
        go_wp2_with fail
        exact hK _ _ hS (Below.refl _ _) (by first | rfl | (show _ = _; simp))
      | 3, _ =>
        cases ho
        have s13 : a.tmps.getD 13 undef = Value.int IntKind.i64 0 := hF.slots 13 (by simp) (by decide)
        have s51 : a.tmps.getD 51 undef = .bool true := hG { on := 2, ground := .guard } (by simp) rfl
        have g51 := hF.get (by simp) s51
        go_wp2_with fail
        exact hK _ _ hS (Below.refl _ _) (by first | rfl | (show _ = _; simp))
      | 4, _ =>
        cases ho
        have s52 : a.tmps.getD 52 undef = .int .i64 0 := hG { on := 3, ground := .data } (by simp) rfl
        have s51 : a.tmps.getD 51 undef = .bool true := hG { on := 2, ground := .guard } (by simp) rfl
        have g51 := hF.get (by simp) s51
        go_wp2_with fail
        exact hK _ _ hS (Below.refl _ _) (by first | rfl | (show _ = _; simp))
      | 5, _ =>
        cases ho
        have s51 : a.tmps.getD 51 undef = .bool true := hG { on := 2, ground := .data } (by simp) rfl
        have s53 : a.tmps.getD 53 undef = .bool true := hG { on := 4, ground := .data } (by simp) rfl
        go_wp2_with fail
        exact hK _ _ hS (Below.refl _ _) (by first | rfl | (show _ = _; simp))
      | 6, _ =>
        cases ho
        have s54 : a.tmps.getD 54 undef = .bool true := hG { on := 5, ground := .data } (by simp) rfl
        go_wp2_with fail
        exact hK _ _ hS (Below.refl _ _) (by first | rfl | (show _ = _; simp))
      | 7, _ =>
        cases ho
        have s10 : a.tmps.getD 10 undef = Value.pointer (some { block := w2.heap.size, off := 0 }) := hF.slots 10 (by simp) (by decide)
        have s55 : a.tmps.getD 55 undef = .bool true := hG { on := 6, ground := .guard } (by simp) rfl
        have g55 := hF.get (by simp) s55
        go_wp2_with fail
        exact hK _ _ hS (Below.refl _ _) (by first | rfl | (show _ = _; simp))
      | 8, _ =>
        cases ho
        have s56 : a.tmps.getD 56 undef = .agg (sigV (leaf : Int) S (.slice A1 PS.length a1)).toArray := hG { on := 7, ground := .data } (by simp) rfl
        have s55 : a.tmps.getD 55 undef = .bool true := hG { on := 6, ground := .guard } (by simp) rfl
        have g55 := hF.get (by simp) s55
        go_wp2_with fail
        refine (cb.out W _ hS.2.2.2.2.1).mono ?_
        rintro e W2 ⟨p, rfl, ho2, hb2⟩
        go_wp2_with fail
        exact hK _ _ (AtZ_keep hS hb2) hb2 ⟨p, rfl, SlC.of_own ho2⟩
      | 9, _ =>
        cases ho
        have s4 : a.tmps.getD 4 undef = Value.pointer (some { block := w.heap.size, off := 0 }) := hF.slots 4 (by simp) (by decide)
        have s55 : a.tmps.getD 55 undef = .bool true := hG { on := 6, ground := .guard } (by simp) rfl
        have g55 := hF.get (by simp) s55
        go_wp2_with fail
        exact hK _ _ hS (Below.refl _ _) (by first | rfl | (show _ = _; simp))
      | 10, _ =>
        cases ho
        have s9 : a.tmps.getD 9 undef = Value.pointer (some { block := q9, off := 0 }) := hF.slots 9 (by simp) (by decide)
        have s55 : a.tmps.getD 55 undef = .bool true := hG { on := 6, ground := .guard } (by simp) rfl
        have g55 := hF.get (by simp) s55
        go_wp2_with fail
        exact hK _ _ hS (Below.refl _ _) (by first | rfl | (show _ = _; simp))
      | 11, _ =>
        cases ho
        have s59 : a.tmps.getD 59 undef = .pointer (some ⟨q9, 32, none⟩) := hG { on := 10, ground := .data } (by simp) rfl
        have s55 : a.tmps.getD 55 undef = .bool true := hG { on := 6, ground := .guard } (by simp) rfl
        have g55 := hF.get (by simp) s55
        go_wp2_with fail
        exact hK _ _ hS (Below.refl _ _) (by first | rfl | (show _ = _; simp))
      | 12, _ =>
        cases ho
        have s2 : a.tmps.getD 2 undef = Value.int IntKind.i64 ↑leaf := hF.slots 2 (by simp) (by decide)
        have s55 : a.tmps.getD 55 undef = .bool true := hG { on := 6, ground := .guard } (by simp) rfl
        have g55 := hF.get (by simp) s55
        go_wp2_with fail
        exact hK _ _ hS (Below.refl _ _) (by first | rfl | (show _ = _; simp))
      | 13, _ =>
        cases ho
        have s7 : a.tmps.getD 7 undef = Value.pointer (some { block := w.heap.size + 1, off := 0 }) := hF.slots 7 (by simp) (by decide)
        have s55 : a.tmps.getD 55 undef = .bool true := hG { on := 6, ground := .guard } (by simp) rfl
        have g55 := hF.get (by simp) s55
        go_wp2_with fail
        exact hK _ _ hS (Below.refl _ _) (by first | rfl | (show _ = _; simp))
      | 14, _ =>
        cases ho
        have s58 : a.tmps.getD 58 undef = agg .u8 seed := hG { on := 9, ground := .data } (by simp) rfl
        have s60 : a.tmps.getD 60 undef = .int .i64 (h : Int) := hG { on := 11, ground := .data } (by simp) rfl
        have s61 : a.tmps.getD 61 undef = .int .i64 (leaf : Int) := hG { on := 12, ground := .data } (by simp) rfl
        have s62 : a.tmps.getD 62 undef = agg .u8 d := hG { on := 13, ground := .data } (by simp) rfl
        have s55 : a.tmps.getD 55 undef = .bool true := hG { on := 6, ground := .guard } (by simp) rfl
        have g55 := hF.get (by simp) s55
        go_wp2_with fail
        refine (c3.out W).mono ?_
        rintro e W2 ⟨p, rfl, ho2, hb2⟩
        go_wp2_with fail
        exact hK _ _ (AtZ_keep hS hb2) hb2 ⟨p, rfl, SlC.of_own ho2⟩
      | 15, _ =>
        cases ho
        obtain ⟨p57, s57, hp57⟩ : SzP h leaf q9 a1 A1 S KR seed d PS 8 (a.tmps.getD 57 undef) W := hG { on := 8, ground := .data } (by simp) rfl
        obtain ⟨p63, s63, hp63⟩ : SzP h leaf q9 a1 A1 S KR seed d PS 14 (a.tmps.getD 63 undef) W := hG { on := 14, ground := .data } (by simp) rfl
        have s55 : a.tmps.getD 55 undef = .bool true := hG { on := 6, ground := .guard } (by simp) rfl
        have g55 := hF.get (by simp) s55
        go_wp2_with fail
        refine (cq.out W _ _ hp57 hp63).mono ?_
        rintro e W2 ⟨rfl, hb2⟩
        go_wp2_with fail
        exact hK _ _ (AtZ_keep hS hb2) hb2 (by show _ = _; simp)
      | 16, _ =>
        cases ho
        have s55 : a.tmps.getD 55 undef = .bool true := hG { on := 6, ground := .data } (by simp) rfl
        have s64 : a.tmps.getD 64 undef = .bool true := hG { on := 15, ground := .data } (by simp) rfl
        go_wp2_with fail
        exact hK _ _ hS (Below.refl _ _) (by first | rfl | (show _ = _; simp))
      | 17, _ =>
        cases ho
        have s65 : a.tmps.getD 65 undef = .bool true := hG { on := 16, ground := .data } (by simp) rfl
        go_wp2_with fail
        exact hK _ _ hS (Below.refl _ _) (by first | rfl | (show _ = _; simp))
      | 18, _ =>
        cases ho
        have s12 : a.tmps.getD 12 undef = Value.pointer (some { block := w3.heap.size, off := 0 }) := hF.slots 12 (by simp) (by decide)
        have s66 : a.tmps.getD 66 undef = .bool true := hG { on := 17, ground := .guard } (by simp) rfl
        have g66 := hF.get (by simp) s66
        go_wp2_with fail
        exact hK _ _ hS (Below.refl _ _) (by first | rfl | (show _ = _; simp))
      | 19, _ =>
        cases ho
        have s7 : a.tmps.getD 7 undef = Value.pointer (some { block := w.heap.size + 1, off := 0 }) := hF.slots 7 (by simp) (by decide)
        have s66 : a.tmps.getD 66 undef = .bool true := hG { on := 17, ground := .guard } (by simp) rfl
        have g66 := hF.get (by simp) s66
        go_wp2_with fail
        exact hK _ _ hS (Below.refl _ _) (by first | rfl | (show _ = _; simp))
      | 20, _ =>
        cases ho
        have s10 : a.tmps.getD 10 undef = Value.pointer (some { block := w2.heap.size, off := 0 }) := hF.slots 10 (by simp) (by decide)
        have s66 : a.tmps.getD 66 undef = .bool true := hG { on := 17, ground := .guard } (by simp) rfl
        have g66 := hF.get (by simp) s66
        go_wp2_with fail
        exact hK _ _ hS (Below.refl _ _) (by first | rfl | (show _ = _; simp))
      | 21, _ =>
        cases ho
        have s67 : a.tmps.getD 67 undef = .agg (pubV (h : Int) KR).toArray := hG { on := 18, ground := .data } (by simp) rfl
        have s68 : a.tmps.getD 68 undef = agg .u8 d := hG { on := 19, ground := .data } (by simp) rfl
        have s69 : a.tmps.getD 69 undef = .agg (sigV (leaf : Int) S (.slice A1 PS.length a1)).toArray := hG { on := 20, ground := .data } (by simp) rfl
        have s66 : a.tmps.getD 66 undef = .bool true := hG { on := 17, ground := .guard } (by simp) rfl
        have g66 := hF.get (by simp) s66
        go_wp2_with fail
        refine (c4.out W _ hS.2.2.2.2.1).mono ?_
        rintro e W2 ⟨rfl, hb2⟩
        go_wp2_with fail
        exact hK _ _ (AtZ_keep hS hb2) hb2 rfl
      | 22, _ =>
        cases ho
        have s70 : a.tmps.getD 70 undef = .int .i64 0 := hG { on := 21, ground := .data } (by simp) rfl
        have s66 : a.tmps.getD 66 undef = .bool true := hG { on := 17, ground := .guard } (by simp) rfl
        have g66 := hF.get (by simp) s66
        go_wp2_with fail
        exact hK _ _ hS (Below.refl _ _) (by first | rfl | (show _ = _; simp))
      | 23, _ =>
        cases ho
        have s66 : a.tmps.getD 66 undef = .bool true := hG { on := 17, ground := .data } (by simp) rfl
        have s71 : a.tmps.getD 71 undef = .bool true := hG { on := 22, ground := .data } (by simp) rfl
        go_wp2_with fail
        exact hK _ _ hS (Below.refl _ _) (by first | rfl | (show _ = _; simp))
      | i + 24, hi => exact absurd hi (by omega)
    · intro a W hS hF hG
      have t49 : a.tmps.getD 49 undef = .int .i64 0 := hG 0 (by omega)
      have t50 : a.tmps.getD 50 undef = .bool true := hG 1 (by omega)
      have t51 : a.tmps.getD 51 undef = .bool true := hG 2 (by omega)
      have t52 : a.tmps.getD 52 undef = .int .i64 0 := hG 3 (by omega)
      have t53 : a.tmps.getD 53 undef = .bool true := hG 4 (by omega)
      have t54 : a.tmps.getD 54 undef = .bool true := hG 5 (by omega)
      have t55 : a.tmps.getD 55 undef = .bool true := hG 6 (by omega)
      have t56 : a.tmps.getD 56 undef = .agg (sigV (leaf : Int) S (.slice A1 PS.length a1)).toArray := hG 7 (by omega)
      obtain ⟨p57, t57, hp57⟩ : SzP h leaf q9 a1 A1 S KR seed d PS 8 (a.tmps.getD 57 undef) W := hG 8 (by omega)
      have t58 : a.tmps.getD 58 undef = agg .u8 seed := hG 9 (by omega)
      have t59 : a.tmps.getD 59 undef = .pointer (some ⟨q9, 32, none⟩) := hG 10 (by omega)
      have t60 : a.tmps.getD 60 undef = .int .i64 (h : Int) := hG 11 (by omega)
      have t61 : a.tmps.getD 61 undef = .int .i64 (leaf : Int) := hG 12 (by omega)
      have t62 : a.tmps.getD 62 undef = agg .u8 d := hG 13 (by omega)
      obtain ⟨p63, t63, hp63⟩ : SzP h leaf q9 a1 A1 S KR seed d PS 14 (a.tmps.getD 63 undef) W := hG 14 (by omega)
      have t64 : a.tmps.getD 64 undef = .bool true := hG 15 (by omega)
      have t65 : a.tmps.getD 65 undef = .bool true := hG 16 (by omega)
      have t66 : a.tmps.getD 66 undef = .bool true := hG 17 (by omega)
      have t67 : a.tmps.getD 67 undef = .agg (pubV (h : Int) KR).toArray := hG 18 (by omega)
      have t68 : a.tmps.getD 68 undef = agg .u8 d := hG 19 (by omega)
      have t69 : a.tmps.getD 69 undef = .agg (sigV (leaf : Int) S (.slice A1 PS.length a1)).toArray := hG 20 (by omega)
      have t70 : a.tmps.getD 70 undef = .int .i64 0 := hG 21 (by omega)
      have t71 : a.tmps.getD 71 undef = .bool true := hG 22 (by omega)
      have t72 : a.tmps.getD 72 undef = .bool true := hG 23 (by omega)
      have fr := Ord.frame_of (L := (agg IntKind.u8 seed :: Value.int IntKind.u8 ↑m :: Value.int IntKind.i64 ↑leaf :: agg IntKind.u8 d :: Value.pointer (some { block := w.heap.size, off := 0 }) :: undef :: undef :: Value.pointer (some { block := w.heap.size + 1, off := 0 }) :: Value.bool false :: Value.pointer (some { block := q9, off := 0 }) :: Value.pointer (some { block := w2.heap.size, off := 0 }) :: Value.int IntKind.i64 0 :: Value.pointer (some { block := w3.heap.size, off := 0 }) :: Value.int IntKind.i64 0 :: Value.bool true :: Value.bool false :: agg IntKind.u8 seed :: Value.int IntKind.u8 ↑m :: Value.int IntKind.i64 ↑h :: Value.agg (secV seed ↑h).toArray :: Value.tuple #[Value.agg (sigV (↑leaf) S (Value.slice A1 PS.length a1)).toArray, Value.int IntKind.i64 0] :: Value.agg (secV seed ↑h).toArray :: Value.int IntKind.i64 ↑leaf :: Value.agg (cl IntKind.u8 d).toArray :: Value.tuple #[Value.agg (sigV (↑leaf) S (Value.slice A1 PS.length a1)).toArray, Value.int IntKind.i64 0] :: Value.agg (sigV (↑leaf) S (Value.slice A1 PS.length a1)).toArray :: Value.int IntKind.i64 0 :: Value.int IntKind.i64 ↑leaf :: Value.bool false :: Value.bool false :: Value.int IntKind.i64 ↑leaf :: Value.pointer (some { block := q9, off := 32 }) :: Value.int IntKind.i64 ↑h :: Value.int IntKind.i64 (2 ^ h) :: Value.bool false :: Value.bool false :: undef :: undef :: undef :: undef :: undef :: undef :: undef :: undef :: Value.tuple #[Value.agg (pubV (↑h) KR).toArray, Value.int IntKind.i64 0] :: Value.agg (secV seed ↑h).toArray :: Value.tuple #[Value.agg (pubV (↑h) KR).toArray, Value.int IntKind.i64 0] :: Value.agg (pubV (↑h) KR).toArray :: Value.int IntKind.i64 0 :: .int .i64 0 :: .bool true :: .bool true :: .int .i64 0 :: .bool true :: .bool true :: .bool true :: .agg (sigV (leaf : Int) S (.slice A1 PS.length a1)).toArray :: .agg (sigV (leaf : Int) S p57).toArray :: agg .u8 seed :: .pointer (some ⟨q9, 32, none⟩) :: .int .i64 (h : Int) :: .int .i64 (leaf : Int) :: agg .u8 d :: .agg (sigV (leaf : Int) S p63).toArray :: .bool true :: .bool true :: .bool true :: .agg (pubV (h : Int) KR).toArray :: agg .u8 d :: .agg (sigV (leaf : Int) S (.slice A1 PS.length a1)).toArray :: .int .i64 0 :: .bool true :: .bool true :: [])) hF.defers hF.size (fun k hk => match k, hk with
        | 0, _ => hF.slots 0 (by simp) (by decide)
        | 1, _ => hF.slots 1 (by simp) (by decide)
        | 2, _ => hF.slots 2 (by simp) (by decide)
        | 3, _ => hF.slots 3 (by simp) (by decide)
        | 4, _ => hF.slots 4 (by simp) (by decide)
        | 5, _ => hF.slots 5 (by simp) (by decide)
        | 6, _ => hF.slots 6 (by simp) (by decide)
        | 7, _ => hF.slots 7 (by simp) (by decide)
        | 8, _ => hF.slots 8 (by simp) (by decide)
        | 9, _ => hF.slots 9 (by simp) (by decide)
        | 10, _ => hF.slots 10 (by simp) (by decide)
        | 11, _ => hF.slots 11 (by simp) (by decide)
        | 12, _ => hF.slots 12 (by simp) (by decide)
        | 13, _ => hF.slots 13 (by simp) (by decide)
        | 14, _ => hF.slots 14 (by simp) (by decide)
        | 15, _ => hF.slots 15 (by simp) (by decide)
        | 16, _ => hF.slots 16 (by simp) (by decide)
        | 17, _ => hF.slots 17 (by simp) (by decide)
        | 18, _ => hF.slots 18 (by simp) (by decide)
        | 19, _ => hF.slots 19 (by simp) (by decide)
        | 20, _ => hF.slots 20 (by simp) (by decide)
        | 21, _ => hF.slots 21 (by simp) (by decide)
        | 22, _ => hF.slots 22 (by simp) (by decide)
        | 23, _ => hF.slots 23 (by simp) (by decide)
        | 24, _ => hF.slots 24 (by simp) (by decide)
        | 25, _ => hF.slots 25 (by simp) (by decide)
        | 26, _ => hF.slots 26 (by simp) (by decide)
        | 27, _ => hF.slots 27 (by simp) (by decide)
        | 28, _ => hF.slots 28 (by simp) (by decide)
        | 29, _ => hF.slots 29 (by simp) (by decide)
        | 30, _ => hF.slots 30 (by simp) (by decide)
        | 31, _ => hF.slots 31 (by simp) (by decide)
        | 32, _ => hF.slots 32 (by simp) (by decide)
        | 33, _ => hF.slots 33 (by simp) (by decide)
        | 34, _ => hF.slots 34 (by simp) (by decide)
        | 35, _ => hF.slots 35 (by simp) (by decide)
        | 36, _ => hF.slots 36 (by simp) (by decide)
        | 37, _ => hF.slots 37 (by simp) (by decide)
        | 38, _ => hF.slots 38 (by simp) (by decide)
        | 39, _ => hF.slots 39 (by simp) (by decide)
        | 40, _ => hF.slots 40 (by simp) (by decide)
        | 41, _ => hF.slots 41 (by simp) (by decide)
        | 42, _ => hF.slots 42 (by simp) (by decide)
        | 43, _ => hF.slots 43 (by simp) (by decide)
        | 44, _ => hF.slots 44 (by simp) (by decide)
        | 45, _ => hF.slots 45 (by simp) (by decide)
        | 46, _ => hF.slots 46 (by simp) (by decide)
        | 47, _ => hF.slots 47 (by simp) (by decide)
        | 48, _ => hF.slots 48 (by simp) (by decide)
        | 49, _ => t49
        | 50, _ => t50
        | 51, _ => t51
        | 52, _ => t52
        | 53, _ => t53
        | 54, _ => t54
        | 55, _ => t55
        | 56, _ => t56
        | 57, _ => t57
        | 58, _ => t58
        | 59, _ => t59
        | 60, _ => t60
        | 61, _ => t61
        | 62, _ => t62
        | 63, _ => t63
        | 64, _ => t64
        | 65, _ => t65
        | 66, _ => t66
        | 67, _ => t67
        | 68, _ => t68
        | 69, _ => t69
        | 70, _ => t70
        | 71, _ => t71
        | 72, _ => t72
        | k + 73, hk => absurd hk (by simp))
      subst fr
      clear hF hG t49 t50 t51 t52 t53 t54 t55 t56 t57 t58 t59 t60 t61 t62 t63 t64 t65 t66 t67 t68 t69 t70 t71 t72
      simp only [List.drop_succ_cons, List.drop_zero]
      go_wp2_with fail
      go_ret
      exact ⟨rfl, hS.2.2.2.2.2.2⟩
set_option maxRecDepth 20000 in
set_option maxHeartbeats 4000000 in
theorem ssign_out (w : World) (seed d : List Nat) (m h : Nat) (l : Int) (hs : seed.length = 32) (hm : m < 256) (hd : d.length = 16) (bd : By d) (eh : h = 1 + m % 3) (ho : ¬ (0 ≤ l ∧ l < 2 ^ h)) :
    Calls Tryz.prog 3 #[agg .u8 seed, .int .u8 (m : Int), .int .i64 l, agg .u8 d] w fun e w' => e = .returned (.bool true) ∧ Below w.heap.size w w' := by
  have hh : h = 1 ∨ h = 2 ∨ h = 3 := by omega
  have h3 : h ≤ 3 := by omega
  have p8 : 2 ^ h ≤ 2 ^ 3 := Nat.pow_le_pow_right (by omega) (by omega)
  have p8' : (2 : Int) ^ h ≤ 8 := by exact_mod_cast p8
  have p0 : (0 : Int) ≤ 2 ^ h := Int.le_of_lt (Int.pow_pos (by decide))
  have cl0 := Lib.hid (fun W => low W m hm)
  rw [← eh] at cl0
  have c1 := Lib.hid (fun W => sign_out W seed d h l hs hd hh ho)
  have zn : N16 ([] : List (List Nat)) := fun x hx => by cases hx
  obtain ⟨Z, hZ⟩ : ∃ Z, Z = zs 560 := ⟨_, rfl⟩
  have lZ : Z.length = 560 := by rw [hZ, zs_length]
  have b0 := bl0_rsg
  have a0 := al_sg
  rw [← hZ] at b0 c1 a0
  have cb : Hid (∀ W y, SlN W y ([] : List (List Nat)) → Calls Tryz.prog 11 #[.agg (sigV 0 Z y).toArray] W fun e w' => ∃ p, e = .returned (.agg (sigV 0 Z p).toArray) ∧ OwnN 23 w' W.heap.size p [] ∧ Below W.heap.size W w') := Lib.hid fun W y hy => back W 0 Z y [] lZ hy (by simp)
  have cq : Hid (∀ W v1 v2, SlN W v1 ([] : List (List Nat)) → SlN W v2 ([] : List (List Nat)) → Calls Tryz.prog 10 #[.agg (sigV 0 Z v1).toArray, .agg (sigV 0 Z v2).toArray] W fun e w' => e = .returned (.bool (decide ((0 : Int) = 0 ∧ Z = Z ∧ ([] : List (List Nat)) = []))) ∧ Below W.heap.size W w') := Lib.hid fun W v1 v2 h1 h2 => same W 0 0 Z Z v1 v2 [] [] lZ lZ h1 h2 zn zn (by simp)
  have HSS := Lib.hid hs
  have hcase : l < 0 ∨ (0 ≤ l ∧ 2 ^ h ≤ l) := by omega
  clear hZ hh eh ho p8 bd zn
  obtain ⟨W0, hW0⟩ : ∃ W0, W0 = (w.alloc (.cells (cl .u8 seed).toArray 22)).alloc (.cells (cl .u8 d).toArray 23) := ⟨_, rfl⟩
  have y0 : AtY w W0 seed d W0 := by
    rw [hW0]
    exact ⟨blk_alloc (blk_new _ _ _) _, blk_at _ _ _ (by simp only [alloc_size]), ((Below.refl w.heap.size w).alloc (Nat.le_refl _) _).alloc (by simp only [alloc_size]; omega) _, Nat.le_refl _⟩
  have hz0 : W0.heap.size = w.heap.size + 1 + 1 := by rw [hW0]; simp only [alloc_size]
  have Y0 := Lib.hid y0
  have HW := Lib.hid hW0
  clear hW0 y0
  go_enter Tryz.func3, Tryz.ntmps3
  go_wp2_with fail
  rw [← HW.out]
  refine (known _).mono ?_
  rintro e w1 ⟨rfl, hb1⟩
  have Y1 := Lib.hid (AtY_keep Y0.out hb1)
  clear hb1
  go_wp2_with fail
  refine Ord.wp_region_tab2 5 [16, 17, 18, 19, 9] (agg IntKind.u8 seed :: Value.int IntKind.u8 ↑m :: Value.int IntKind.i64 l :: agg IntKind.u8 d :: Value.pointer (some { block := w.heap.size, off := 0 }) :: undef :: undef :: Value.pointer (some { block := w.heap.size + 1, off := 0 }) :: Value.bool false :: undef :: undef :: undef :: undef :: undef :: Value.bool true :: Value.bool false :: undef :: undef :: undef :: undef :: undef :: undef :: undef :: undef :: undef :: undef :: undef :: undef :: undef :: undef :: undef :: undef :: undef :: undef :: undef :: undef :: undef :: undef :: undef :: undef :: undef :: undef :: undef :: undef :: undef :: undef :: undef :: undef :: undef :: undef :: undef :: undef :: undef :: undef :: undef :: undef :: undef :: undef :: undef :: undef :: undef :: undef :: undef :: undef :: undef :: undef :: undef :: undef :: undef :: undef :: undef :: undef :: undef :: []) (fun W => AtY w W0 seed d W) (SyP w m h seed) (by kernel_rfl) (by kernel_rfl) (by rfl) (AtY_keep Y1.out (Below.refl _ _).drew) (fun i v W W' _ hb hQ => SyP_mono w m h seed i v W W' hb hQ) ?_ ?_
  · intro i o hi ho a W K hS hF hG hK
    have k1 := bk_of hS.1
    match i, hi with
    | 0, _ =>
      cases ho
      have s4 : a.tmps.getD 4 undef = Value.pointer (some { block := w.heap.size, off := 0 }) := hF.slots 4 (by simp) (by decide)
      go_wp2_with fail
      exact hK _ _ hS (Below.refl _ _) (by first | rfl | (show _ = _; simp))
    | 1, _ =>
      cases ho
      have s1 : a.tmps.getD 1 undef = Value.int IntKind.u8 ↑m := hF.slots 1 (by simp) (by decide)
      go_wp2_with fail
      exact hK _ _ hS (Below.refl _ _) (by first | rfl | (show _ = _; simp))
    | 2, _ =>
      cases ho
      have s17 : a.tmps.getD 17 undef = .int .u8 (m : Int) := hG { on := 1, ground := .data } (by simp) rfl
      go_wp2_with fail
      refine (cl0.out W).mono ?_
      rintro e W2 ⟨rfl, hW2⟩
      subst hW2
      go_wp2_with fail
      exact hK _ _ hS (Below.refl _ _) rfl
    | 3, _ =>
      cases ho
      have s16 : a.tmps.getD 16 undef = agg .u8 seed := hG { on := 0, ground := .data } (by simp) rfl
      have s18 : a.tmps.getD 18 undef = .int .i64 (h : Int) := hG { on := 2, ground := .data } (by simp) rfl
      have g16 := hF.get (by simp) s16
      have g18 := hF.get (by simp) s18
      have hs1 := HSS.out
      go_wp2_with fail
      exact hK _ _ hS (Below.refl _ _) rfl
    | 4, _ =>
      cases ho
      go_wp2_with fail
      have hb2 := (Below.refl W.heap.size W).alloc (Nat.le_refl _) (.cells (secV (zs 32) 0).toArray 27)
      exact hK _ _ (AtY_keep hS hb2) hb2 ⟨_, rfl, by have := hS.2.2.2; omega, blk_new _ _ _⟩
    | i + 5, hi => exact absurd hi (by omega)
  · intro a W hS hF hG
    have t16 : a.tmps.getD 16 undef = agg .u8 seed := hG 0 (by omega)
    have t17 : a.tmps.getD 17 undef = .int .u8 (m : Int) := hG 1 (by omega)
    have t18 : a.tmps.getD 18 undef = .int .i64 (h : Int) := hG 2 (by omega)
    have t19 : a.tmps.getD 19 undef = .agg (secV seed (h : Int)).toArray := hG 3 (by omega)
    obtain ⟨q9, t9, hp9⟩ : SyP w m h seed 4 (a.tmps.getD 9 undef) W := hG 4 (by omega)
    have fr := Ord.frame_of (L := (agg IntKind.u8 seed :: Value.int IntKind.u8 ↑m :: Value.int IntKind.i64 l :: agg IntKind.u8 d :: Value.pointer (some { block := w.heap.size, off := 0 }) :: undef :: undef :: Value.pointer (some { block := w.heap.size + 1, off := 0 }) :: Value.bool false :: .pointer (some ⟨q9, 0, none⟩) :: undef :: undef :: undef :: undef :: Value.bool true :: Value.bool false :: agg .u8 seed :: .int .u8 (m : Int) :: .int .i64 (h : Int) :: .agg (secV seed (h : Int)).toArray :: undef :: undef :: undef :: undef :: undef :: undef :: undef :: undef :: undef :: undef :: undef :: undef :: undef :: undef :: undef :: undef :: undef :: undef :: undef :: undef :: undef :: undef :: undef :: undef :: undef :: undef :: undef :: undef :: undef :: undef :: undef :: undef :: undef :: undef :: undef :: undef :: undef :: undef :: undef :: undef :: undef :: undef :: undef :: undef :: undef :: undef :: undef :: undef :: undef :: undef :: undef :: undef :: undef :: [])) hF.defers hF.size (fun k hk => match k, hk with
      | 0, _ => hF.slots 0 (by simp) (by decide)
      | 1, _ => hF.slots 1 (by simp) (by decide)
      | 2, _ => hF.slots 2 (by simp) (by decide)
      | 3, _ => hF.slots 3 (by simp) (by decide)
      | 4, _ => hF.slots 4 (by simp) (by decide)
      | 5, _ => hF.slots 5 (by simp) (by decide)
      | 6, _ => hF.slots 6 (by simp) (by decide)
      | 7, _ => hF.slots 7 (by simp) (by decide)
      | 8, _ => hF.slots 8 (by simp) (by decide)
      | 9, _ => t9
      | 10, _ => hF.slots 10 (by simp) (by decide)
      | 11, _ => hF.slots 11 (by simp) (by decide)
      | 12, _ => hF.slots 12 (by simp) (by decide)
      | 13, _ => hF.slots 13 (by simp) (by decide)
      | 14, _ => hF.slots 14 (by simp) (by decide)
      | 15, _ => hF.slots 15 (by simp) (by decide)
      | 16, _ => t16
      | 17, _ => t17
      | 18, _ => t18
      | 19, _ => t19
      | 20, _ => hF.slots 20 (by simp) (by decide)
      | 21, _ => hF.slots 21 (by simp) (by decide)
      | 22, _ => hF.slots 22 (by simp) (by decide)
      | 23, _ => hF.slots 23 (by simp) (by decide)
      | 24, _ => hF.slots 24 (by simp) (by decide)
      | 25, _ => hF.slots 25 (by simp) (by decide)
      | 26, _ => hF.slots 26 (by simp) (by decide)
      | 27, _ => hF.slots 27 (by simp) (by decide)
      | 28, _ => hF.slots 28 (by simp) (by decide)
      | 29, _ => hF.slots 29 (by simp) (by decide)
      | 30, _ => hF.slots 30 (by simp) (by decide)
      | 31, _ => hF.slots 31 (by simp) (by decide)
      | 32, _ => hF.slots 32 (by simp) (by decide)
      | 33, _ => hF.slots 33 (by simp) (by decide)
      | 34, _ => hF.slots 34 (by simp) (by decide)
      | 35, _ => hF.slots 35 (by simp) (by decide)
      | 36, _ => hF.slots 36 (by simp) (by decide)
      | 37, _ => hF.slots 37 (by simp) (by decide)
      | 38, _ => hF.slots 38 (by simp) (by decide)
      | 39, _ => hF.slots 39 (by simp) (by decide)
      | 40, _ => hF.slots 40 (by simp) (by decide)
      | 41, _ => hF.slots 41 (by simp) (by decide)
      | 42, _ => hF.slots 42 (by simp) (by decide)
      | 43, _ => hF.slots 43 (by simp) (by decide)
      | 44, _ => hF.slots 44 (by simp) (by decide)
      | 45, _ => hF.slots 45 (by simp) (by decide)
      | 46, _ => hF.slots 46 (by simp) (by decide)
      | 47, _ => hF.slots 47 (by simp) (by decide)
      | 48, _ => hF.slots 48 (by simp) (by decide)
      | 49, _ => hF.slots 49 (by simp) (by decide)
      | 50, _ => hF.slots 50 (by simp) (by decide)
      | 51, _ => hF.slots 51 (by simp) (by decide)
      | 52, _ => hF.slots 52 (by simp) (by decide)
      | 53, _ => hF.slots 53 (by simp) (by decide)
      | 54, _ => hF.slots 54 (by simp) (by decide)
      | 55, _ => hF.slots 55 (by simp) (by decide)
      | 56, _ => hF.slots 56 (by simp) (by decide)
      | 57, _ => hF.slots 57 (by simp) (by decide)
      | 58, _ => hF.slots 58 (by simp) (by decide)
      | 59, _ => hF.slots 59 (by simp) (by decide)
      | 60, _ => hF.slots 60 (by simp) (by decide)
      | 61, _ => hF.slots 61 (by simp) (by decide)
      | 62, _ => hF.slots 62 (by simp) (by decide)
      | 63, _ => hF.slots 63 (by simp) (by decide)
      | 64, _ => hF.slots 64 (by simp) (by decide)
      | 65, _ => hF.slots 65 (by simp) (by decide)
      | 66, _ => hF.slots 66 (by simp) (by decide)
      | 67, _ => hF.slots 67 (by simp) (by decide)
      | 68, _ => hF.slots 68 (by simp) (by decide)
      | 69, _ => hF.slots 69 (by simp) (by decide)
      | 70, _ => hF.slots 70 (by simp) (by decide)
      | 71, _ => hF.slots 71 (by simp) (by decide)
      | 72, _ => hF.slots 72 (by simp) (by decide)
      | k + 73, hk => absurd hk (by simp))
    subst fr
    clear hF hG t16 t17 t18 t19 t9
    simp only [List.drop_succ_cons, List.drop_zero]
    obtain ⟨hq, hqb⟩ := hp9
    have k9 := bk_of hqb
    have Y2 := Lib.hid (show blk (W.setRow q9 (secV seed (h : Int)).toArray) w.heap.size (cl .u8 seed) 22 ∧ blk (W.setRow q9 (secV seed (h : Int)).toArray) (w.heap.size + 1) (cl .u8 d) 23 ∧ blk (W.setRow q9 (secV seed (h : Int)).toArray) q9 (secV seed (h : Int)) 27 ∧ Below w.heap.size w (W.setRow q9 (secV seed (h : Int)).toArray) from ⟨blk_setRow_ne hS.1 _ (by omega), blk_setRow_ne hS.2.1 _ (by omega), blk_setRow hqb _, bel_setRow hS.2.2.1 (by omega) _⟩)
    have k10 := bk_of Y2.out.2.1
    have hneq : w.heap.size + 1 ≠ q9 := by omega
    have k11 := bk_of hS.2.1
    clear hS hqb
    have hs2 := HSS.out
    go_wp2_with fail
    refine (c1.out _).mono ?_
    rintro e w2 ⟨rfl, hb2⟩
    have Y3 := Lib.hid (show blk (w2.alloc (.cells (sigV 0 Z (.slice none 0 0)).toArray 31)) q9 (secV seed (h : Int)) 27 ∧ blk (w2.alloc (.cells (sigV 0 Z (.slice none 0 0)).toArray 31)) w2.heap.size (sigV 0 Z (.slice none 0 0)) 31 ∧ Below w.heap.size w (w2.alloc (.cells (sigV 0 Z (.slice none 0 0)).toArray 31)) from ⟨blk_alloc (blk_keep Y2.out.2.2.1 hb2) _, blk_new _ _ _, by have := bel_trans Y2.out.2.2.2 hb2 Y2.out.2.2.2.size; exact this.alloc this.size _⟩)
    have k12 := sec_height hs2 Y3.out.1
    clear hb2 k9 k10 k11
    rcases hcase with hl | ⟨hl0, hl⟩
    · have d1 : decide (l < 0) = true := decide_eq_true hl
      clear hl
      have k13 := bk_of Y3.out.2.1
      go_wp2_with fail
      refine (cb.out _ _ (SlC.nil _ _)).mono ?_
      rintro e w3 ⟨p, rfl, ho3, hb3⟩
      have O3 := Lib.hid (SlC.of_own ho3)
      have B3 := Lib.hid (bel_trans Y3.out.2.2 hb3 Y3.out.2.2.size)
      clear ho3 hb3
      go_wp2_with fail
      refine (cq.out _ _ _ O3.out (SlC.nil _ _)).mono ?_
      rintro e w4 ⟨rfl, hb4⟩
      have B4 := Lib.hid (bel_trans B3.out hb4 B3.out.size)
      clear hb4
      go_wp2_with fail
      go_ret
      exact ⟨by simp, B4.out⟩
    · have d1 : decide (l < 0) = false := decide_eq_false (by omega)
      have d2 : decide ((2 : Int) ^ h ≤ l) = true := decide_eq_true hl
      clear hl
      have k13 := bk_of Y3.out.2.1
      go_wp2_with fail
      refine (cb.out _ _ (SlC.nil _ _)).mono ?_
      rintro e w3 ⟨p, rfl, ho3, hb3⟩
      have O3 := Lib.hid (SlC.of_own ho3)
      have B3 := Lib.hid (bel_trans Y3.out.2.2 hb3 Y3.out.2.2.size)
      clear ho3 hb3
      go_wp2_with fail
      refine (cq.out _ _ _ O3.out (SlC.nil _ _)).mono ?_
      rintro e w4 ⟨rfl, hb4⟩
      have B4 := Lib.hid (bel_trans B3.out hb4 B3.out.size)
      clear hb4
      go_wp2_with fail
      go_ret
      exact ⟨by simp, B4.out⟩
end Go.Proofs.YtlgpipdeckdmjaaGreat.Rm
/-
  SignerSign: the walk, whatever comes in.
-/
set_option linter.unusedVariables false
namespace Go.Proofs.YtlgpipdeckdmjaaGreat.SsignWalk
open Go.RowKit Base Reg Types Slice Sha
open Go.Proofs.YtlgpipdeckdmjaaGreat.One Go.Proofs.YtlgpipdeckdmjaaGreat.Str Go.Proofs.YtlgpipdeckdmjaaGreat.Mer Go.Proofs.YtlgpipdeckdmjaaGreat.Rm
theorem walk (w : World) (seed : List Nat) (n : Int) (l : Int) (d : List Nat) (hs : seed.length = 32) (bs : ∀ j, seed.getD j 0 < 256) (wn : (Lit.int .u8 n).wf = true) (wl : (Lit.int .i64 l).wf = true) (hd : d.length = 16) (bd : ∀ j, d.getD j 0 < 256) :
    Calls Tryz.prog 3 #[agg .u8 seed, .int .u8 n, .int .i64 l, agg .u8 d] w fun e w' => e = .returned (.bool true) ∧ Below w.heap.size w w' := by
  obtain ⟨m, rfl, hm⟩ := KeysWalk.u8_range wn
  by_cases h : 0 ≤ l ∧ l < 2 ^ (1 + m % 3)
  · obtain ⟨ln, rfl⟩ := Int.eq_ofNat_of_zero_le h.1
    exact ssign_in w seed d m _ ln hs hm hd bd rfl (by have := h.2; exact_mod_cast this)
  · exact ssign_out w seed d m _ l hs hm hd bd rfl h
end Go.Proofs.YtlgpipdeckdmjaaGreat.SsignWalk
/-
  SignerSign: the row's step over the walk.
-/
set_option linter.unusedVariables false
namespace Go.Proofs.YtlgpipdeckdmjaaGreat
namespace SsignProof
open Go.ChangeShapes Go.WideShapes Go.ChangeAt Go.RowKit
theorem own : ownKnob Tryz.prog.godebug = none := by kernel_rfl
theorem laidOut : laidOutB Tryz.prog = true := by kernel_rfl
set_option maxRecDepth 100000 in
theorem lifted (os : Os) (started : os.Started) (H : Type) (enc : TypeId × Value → H) :
    ReturnsInHanded {} Tryz.checked os 3 .any (Rows.signerSignSpec.pre6 enc Tryz.prog Tryz.f3 Rows.signerSignRow.domain false) (Rows.signerSignSpec.post enc Tryz.prog Tryz.f3 false true false false) := by
  refine returnsInHanded_of_change (C := Tryz.checked) own started (by kernel_rfl) Tryz.func3
    (ChangeSpec.witness6 (enc := enc) (C := Tryz.checked) false ⟨#[], #[.agg (Base.cl .u8 (Base.zs 32)).toArray, .int .u8 0, .int .i64 0, .agg (Base.cl .u8 (Base.zs 16)).toArray], []⟩ 8 (by kernel_rfl) (by kernel_rfl) (by kernel_rfl) (by kernel_rfl)) ?_
  intro W base args ds gs before hval0 hW hcnd _
  have hval : ∀ (j : Nat) t v, Tryz.f3.params[j]? = some t → args[j]? = some v → Value.okWide Tryz.prog W .any base t v := hval0
  have hW' := hW
  obtain ⟨p, q, hA0, hV, rfl, hfz, hnd⟩ := hW
  have hA : DataW.TrodAll enc Tryz.prog W 0 (fun _ => true) true Tryz.f3.params.toList args.toList ds p := hA0
  rw [Tryz.params3] at hA hval
  obtain ⟨v0, vs0, d0, ds0, p0, q0, hargs, rfl, rfl, h0, r0⟩ := trodAll_cons hA
  obtain ⟨v1, vs1, d1, ds1, p1, q1, rfl, rfl, rfl, h1, r1⟩ := trodAll_cons r0
  obtain ⟨v2, vs2, d2, ds2, p2, q2, rfl, rfl, rfl, h2, r2⟩ := trodAll_cons r1
  obtain ⟨v3, vs3, d3, ds3, p3, q3, rfl, rfl, rfl, h3, r3⟩ := trodAll_cons r2
  obtain ⟨rfl, rfl, rfl⟩ := trodAll_nil r3
  obtain rfl : args = #[v0, v1, v2, v3] := by cases args; simp_all
  obtain ⟨rfl, rfl⟩ := trodVars_none hV
  have k0 := h0
  have lt0 : ∀ x ∈ p0, x.block < W.heap.size := by obtain ⟨m, hm⟩ := k0; exact DataW.trod_lt m _ _ _ hm
  obtain ⟨l0, rfl, hl0, hb0⟩ := Opened.open_bytes Tryz.underlying22 Tryz.underlying5 (by kernel_rfl) (by kernel_rfl) (hval 0 22 v0 rfl rfl) h0
  obtain ⟨a1, rfl, rfl, rfl, w1⟩ := open_int Tryz.underlying5 (hval 1 5 v1 rfl rfl) h1
  obtain ⟨a2, rfl, rfl, rfl, w2⟩ := open_int Tryz.underlying3 (hval 2 3 v2 rfl rfl) h2
  have k3 := h3
  have lt3 : ∀ x ∈ p3, x.block < W.heap.size := by obtain ⟨m, hm⟩ := k3; exact DataW.trod_lt m _ _ _ hm
  obtain ⟨l3, rfl, hl3, hb3⟩ := Opened.open_bytes Tryz.underlying23 Tryz.underlying5 (by kernel_rfl) (by kernel_rfl) (hval 3 23 v3 rfl rfl) h3
  clear hA0 hval0
  refine (SsignWalk.walk W l0 a1 a2 l3 hl0 hb0 w1 w2 hl3 hb3).mono fun e W' ⟨he, bel⟩ => ?_
  subst he
  exact ⟨_, rfl, _, _, _, [], _, [], hW', trodAll_mk1 (shut_bool Tryz.underlying4 _), (trodAll_cons_mk (Below.trod laidOut (by kernel_rfl) (of_decide_eq_true (by kernel_rfl)) k0 bel lt0) (trodAll_cons_mk (shut_int Tryz.underlying5 w1) (trodAll_cons_mk (shut_int Tryz.underlying3 w2) (trodAll_cons_mk (Below.trod laidOut (by kernel_rfl) (of_decide_eq_true (by kernel_rfl)) k3 bel lt3) trodAll_mk0)))), rfl, bel.frame _, fun h => by cases h⟩

theorem over : Rows.signerSignRow.holds Tryz.pinned (OpenSpec.ofChange Rows.signerSignSpec) :=
  OpenClaim.holds_of_wide 3 Tryz.f3 rfl rfl rfl rfl rfl rfl rfl ⟨rfl, rfl, rfl, rfl, rfl⟩ rfl rfl rfl rfl rfl (by kernel_rfl) Tryz.func3 (by kernel_rfl)
    (of_decide_eq_true (by kernel_rfl)) (by unfold Func.isWrapper; first | (rw [if_pos (by decide +kernel)]; kernel_rfl) | (rw [if_neg (by decide +kernel)]; exact ⟨rfl, rfl⟩))
    (fun os started H enc _ => lifted os started H enc)
end SsignProof
theorem ssignProved : Rows.SignerSignSaid := SsignProof.over
end Go.Proofs.YtlgpipdeckdmjaaGreat
