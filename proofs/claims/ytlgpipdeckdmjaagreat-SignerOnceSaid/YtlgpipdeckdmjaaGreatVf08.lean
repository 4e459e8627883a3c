/-
  Several texts laid into one (merge.py): Ref6, Ref7, Known, One6, One7, One8, One9.
-/
import Derived.Test.YtlgpipdeckdmjaaGreatVf07
import Derived.Test.YtlgpipdeckdmjaaGreatVf06
/-
  The reference of layer 7: Split, Lower.
-/
set_option linter.unusedVariables false
set_option linter.unusedSimpArgs false
namespace Go.Proofs.YtlgpipdeckdmjaaGreat.Ref
open Go.RowKit Base Reg Types Slice Sha Law
open Go.Proofs.YtlgpipdeckdmjaaGreat.One
/-- The digits of the first k bytes. -/
def dgs (d : List Nat) (k : Nat) : List Nat := upto 35 (2 * k) (dg d)
theorem dg_even (d : List Nat) (k : Nat) : dg d (2 * k) = d.getD k 0 / 16 := by
  unfold dg
  rw [if_pos (by omega), show 2 * k / 2 = k by omega]
theorem dg_odd (d : List Nat) (k : Nat) : dg d (2 * k + 1) = d.getD k 0 % 16 := by
  unfold dg
  rw [if_neg (by omega), show (2 * k + 1) / 2 = k by omega]
set_option maxRecDepth 20000 in
set_option maxHeartbeats 4000000 in
theorem split (w : World) (d : List Nat) (hd : d.length = 16) (hb : By d) :
    Calls Tryz.prog 41 #[agg .u8 d] w fun e w' => e = .returned (agg .i64 (sp d)) ∧ Below w.heap.size w w' := by
  go_enter Tryz.func41, Tryz.ntmps41
  go_wp2_with fail
  go_loopw [4, 5] (fun s i wr => ∃ k : Nat, k ≤ 16 ∧ s = .int .i64 (sm d (2 * k) : Nat) ∧ i = .int .i64 k ∧ blk wr w.heap.size (cl .u8 d) 23 ∧ blk wr (w.heap.size + 1) (cl .i64 (zs 35)) 87 ∧ blk wr (w.heap.size + 1 + 1) (cl .i64 (dgs d k)) 87 ∧ Below w.heap.size w wr) (fun _ i _ => 16 - (intOf i).toNat)
  case atStart =>
    exact ⟨0, by omega, rfl, rfl, blk_alloc (blk_alloc (blk_new _ _ _) _) _, blk_alloc (blk_at _ _ _ (by simp only [alloc_size])) _, by rw [dgs, Nat.mul_zero, upto_zero]; exact blk_at _ _ _ (by simp only [alloc_size]), (((Below.refl w.heap.size w).alloc (Nat.le_refl _) _).alloc (by simp only [alloc_size]; omega) _).alloc (by simp only [alloc_size]; omega) _⟩
  case round =>
    obtain ⟨k, hk, rfl, rfl, h1, h2, h3, hbel⟩ := hrel
    have hl : (dgs d k).length = 35 := upto_length _ _ _
    by_cases hk2 : k < 16
    · obtain ⟨x, hx⟩ : ∃ x, x = d.getD k 0 := ⟨_, rfl⟩
      have hx2 : x < 256 := hx ▸ hb k
      have hs := sm_le d (2 * k)
      obtain ⟨y, hy⟩ : ∃ y, y = sm d (2 * k) := ⟨_, rfl⟩
      rw [← hy] at hs ⊢
      have c1 : wr.cell? ⟨w.heap.size, k, none⟩ = some (.int .u8 (x : Int)) := by rw [hx]; exact (blk_cell h1 k).trans (cl_get _ _ _ (by omega))
      have c2 : wr.cell? ⟨w.heap.size + 1 + 1, 2 * k, none⟩ = some (.int .i64 (((dgs d k).getD (2 * k) 0 : Nat) : Int)) := (blk_cell h3 _).trans (cl_get _ _ _ (by omega))
      have c3 : wr.cell? ⟨w.heap.size + 1 + 1, 2 * k + 1, none⟩ = some (.int .i64 (((dgs d k).getD (2 * k + 1) 0 : Nat) : Int)) := (blk_cell h3 _).trans (cl_get _ _ _ (by omega))
      have f2 : wr.frozen? ⟨w.heap.size + 1 + 1, 2 * k, none⟩ = false := blk_free h3 _
      have f3 : wr.frozen? ⟨w.heap.size + 1 + 1, 2 * k + 1, none⟩ = false := blk_free h3 _
      have HX := Lib.hid hx
      have HY := Lib.hid hy
      have B1 := Lib.hid h1
      have B2 := Lib.hid h2
      have B3 := Lib.hid h3
      have HBW := Lib.hid hbel
      clear hx hy h1 h2 h3 hbel
      go_wp2_with fail
      go_region
      go_wp2_with fail
      have e1 : (x : Int) / 16 = ((dg d (2 * k) : Nat) : Int) := by rw [dg_even, ← HX.out]; omega
      have e2 : (x : Int) % 16 = ((dg d (2 * k + 1) : Nat) : Int) := by rw [dg_odd, ← HX.out]; omega
      rw [e1, e2]
      have b3 := blk_setCell (blk_setCell B3.out (2 * k) (.int .i64 ((dg d (2 * k) : Nat) : Int))) (2 * k + 1) (.int .i64 ((dg d (2 * k + 1) : Nat) : Int))
      have ed : ((dgs d k).set (2 * k) (dg d (2 * k))).set (2 * k + 1) (dg d (2 * k + 1)) = dgs d (k + 1) := by
        unfold dgs
        rw [upto_set 35 _ _ (by omega), upto_set 35 _ _ (by omega), show 2 * (k + 1) = 2 * k + 1 + 1 by omega]
      rw [cl_set, cl_set, ed] at b3
      have b1 := blk_setCell_ne (blk_setCell_ne B1.out (a := ⟨w.heap.size + 1 + 1, 2 * k, none⟩) (.int .i64 ((dg d (2 * k) : Nat) : Int)) (by simp; omega)) (a := ⟨w.heap.size + 1 + 1, 2 * k + 1, none⟩) (.int .i64 ((dg d (2 * k + 1) : Nat) : Int)) (by simp; omega)
      have b2 := blk_setCell_ne (blk_setCell_ne B2.out (a := ⟨w.heap.size + 1 + 1, 2 * k, none⟩) (.int .i64 ((dg d (2 * k) : Nat) : Int)) (by simp)) (a := ⟨w.heap.size + 1 + 1, 2 * k + 1, none⟩) (.int .i64 ((dg d (2 * k + 1) : Nat) : Int)) (by simp)
      have bb := bel_setCell (bel_setCell HBW.out (a := ⟨w.heap.size + 1 + 1, 2 * k, none⟩) (by simp; omega) (.int .i64 ((dg d (2 * k) : Nat) : Int))) (a := ⟨w.heap.size + 1 + 1, 2 * k + 1, none⟩) (by simp; omega) (.int .i64 ((dg d (2 * k + 1) : Nat) : Int))
      generalize ((wr.setCell ⟨w.heap.size + 1 + 1, 2 * k, none⟩ (.int .i64 ((dg d (2 * k) : Nat) : Int))).setCell ⟨w.heap.size + 1 + 1, 2 * k + 1, none⟩ (.int .i64 ((dg d (2 * k + 1) : Nat) : Int))) = W2 at b1 b2 b3 bb ⊢
      have p1 := dg_le hb (2 * k)
      have p2 := dg_le hb (2 * k + 1)
      have g1 : W2.drew.cell? ⟨w.heap.size + 1 + 1, 2 * k, none⟩ = some (.int .i64 ((dg d (2 * k) : Nat) : Int)) := (blk_cell (blk_drew b3) _).trans (by rw [cl_get _ _ _ (by rw [dgs, upto_length]; omega), dgs, upto_get _ _ _ _ (by omega) (by omega)])
      have g2 : W2.drew.cell? ⟨w.heap.size + 1 + 1, 2 * k + 1, none⟩ = some (.int .i64 ((dg d (2 * k + 1) : Nat) : Int)) := (blk_cell (blk_drew b3) _).trans (by rw [cl_get _ _ _ (by rw [dgs, upto_length]; omega), dgs, upto_get _ _ _ _ (by omega) (by omega)])
      clear c1 c2 c3 f2 f3 B1 B2 B3 HBW e1 e2
      have K1 := Lib.hid (blk_drew b1)
      have K2 := Lib.hid (blk_drew b2)
      have K3 := Lib.hid (blk_drew b3)
      have KB := Lib.hid bb.drew
      clear b1 b2 b3 bb ed
      generalize W2.drew = W3 at g1 g2 K1 K2 K3 KB ⊢
      go_region
      go_wp2_with fail
      refine ⟨⟨k + 1, by omega, ?_, by go_num, blk_drew K1.out, blk_drew K2.out, blk_drew K3.out, KB.out.drew⟩, by simp [intOf]; omega⟩
      have e : sm d (2 * (k + 1)) = sm d (2 * k) + (15 - dg d (2 * k)) + (15 - dg d (2 * k + 1)) := by rw [show 2 * (k + 1) = 2 * k + 1 + 1 by omega]; rfl
      have ey := HY.out
      have e2 : (y : Int) + (30 - ((dg d (2 * k) : Nat) : Int) - ((dg d (2 * k + 1) : Nat) : Int)) = ((sm d (2 * (k + 1)) : Nat) : Int) := by rw [e]; omega
      rw [e2]
    · obtain rfl : k = 16 := by omega
      obtain ⟨y, hy⟩ : ∃ y, y = sm d (2 * 16) := ⟨_, rfl⟩
      have hs : y ≤ 480 := by rw [hy]; exact sm_le d 32
      rw [← hy]
      have c2 : wr.cell? ⟨w.heap.size + 1 + 1, 32, none⟩ = some (.int .i64 (((dgs d 16).getD 32 0 : Nat) : Int)) := (blk_cell h3 _).trans (cl_get _ _ _ (by omega))
      have c3 : wr.cell? ⟨w.heap.size + 1 + 1, 33, none⟩ = some (.int .i64 (((dgs d 16).getD 33 0 : Nat) : Int)) := (blk_cell h3 _).trans (cl_get _ _ _ (by omega))
      have c4 : wr.cell? ⟨w.heap.size + 1 + 1, 34, none⟩ = some (.int .i64 (((dgs d 16).getD 34 0 : Nat) : Int)) := (blk_cell h3 _).trans (cl_get _ _ _ (by omega))
      have f2 : wr.frozen? ⟨w.heap.size + 1 + 1, 32, none⟩ = false := blk_free h3 _
      have f3 : wr.frozen? ⟨w.heap.size + 1 + 1, 33, none⟩ = false := blk_free h3 _
      have f4 : wr.frozen? ⟨w.heap.size + 1 + 1, 34, none⟩ = false := blk_free h3 _
      have HY := Lib.hid hy
      have B1 := Lib.hid h1
      have B2 := Lib.hid h2
      have B3 := Lib.hid h3
      clear hy h1 h2 h3
      have y1 : (y : Int) / 256 = ((spd d 32 : Nat) : Int) := by have := HY.out; rw [show spd d 32 = y / 2 ^ (4 * (34 - 32)) % 16 by rw [this]; rfl]; omega
      have y2 : (y : Int) / 16 % 16 = ((spd d 33 : Nat) : Int) := by have := HY.out; rw [show spd d 33 = y / 2 ^ (4 * (34 - 33)) % 16 by rw [this]; rfl]; omega
      have y3 : (y : Int) % 16 = ((spd d 34 : Nat) : Int) := by have := HY.out; rw [show spd d 34 = y / 2 ^ (4 * (34 - 34)) % 16 by rw [this]; rfl]; omega
      have es : (((dgs d 16).set 32 (spd d 32)).set 33 (spd d 33)).set 34 (spd d 34) = sp d := by
        have e0 : dgs d 16 = upto 35 32 (spd d) := by
          unfold dgs upto
          apply List.map_congr_left
          intro j hj
          by_cases h : j < 32
          · simp [h, spd]
          · simp [h]
        rw [e0, upto_set 35 32 (spd d) (by omega), upto_set 35 33 (spd d) (by omega), upto_set 35 34 (spd d) (by omega), upto_full]
        rfl
      have b3 : blk (((wr.setCell ⟨w.heap.size + 1 + 1, 32, none⟩ (.int .i64 ((y : Int) / 256))).setCell ⟨w.heap.size + 1 + 1, 33, none⟩ (.int .i64 ((y : Int) / 16 % 16))).setCell ⟨w.heap.size + 1 + 1, 34, none⟩ (.int .i64 ((y : Int) % 16))) (w.heap.size + 1 + 1) (cl .i64 (sp d)) 87 := by
        rw [y1, y2, y3]
        have h := blk_setCell (blk_setCell (blk_setCell B3.out 32 (.int .i64 ((spd d 32 : Nat) : Int))) 33 (.int .i64 ((spd d 33 : Nat) : Int))) 34 (.int .i64 ((spd d 34 : Nat) : Int))
        rw [cl_set, cl_set, cl_set, es] at h
        exact h
      have b2 : blk (((wr.setCell ⟨w.heap.size + 1 + 1, 32, none⟩ (.int .i64 ((y : Int) / 256))).setCell ⟨w.heap.size + 1 + 1, 33, none⟩ (.int .i64 ((y : Int) / 16 % 16))).setCell ⟨w.heap.size + 1 + 1, 34, none⟩ (.int .i64 ((y : Int) % 16))) (w.heap.size + 1) (cl .i64 (zs 35)) 87 :=
        blk_setCell_ne (blk_setCell_ne (blk_setCell_ne B2.out _ (by simp)) _ (by simp)) _ (by simp)
      have bb : Below w.heap.size w (((wr.setCell ⟨w.heap.size + 1 + 1, 32, none⟩ (.int .i64 ((y : Int) / 256))).setCell ⟨w.heap.size + 1 + 1, 33, none⟩ (.int .i64 ((y : Int) / 16 % 16))).setCell ⟨w.heap.size + 1 + 1, 34, none⟩ (.int .i64 ((y : Int) % 16))) :=
        bel_setCell (bel_setCell (bel_setCell hbel (by simp; omega) _) (by simp; omega) _) (by simp; omega) _
      have q3 := bk_of b3
      have q2 := bk_of b2
      have hls := sp_length d
      have K2 := Lib.hid b2
      have KB := Lib.hid bb
      clear b3 b2 bb es y1 y2 y3 hbel
      go_wp2_with fail
      refine ret_i35 rfl rfl (blk_setRow K2.out (cl .i64 (sp d))) hls rfl ⟨rfl, bel_setRow KB.out (by omega) _⟩
end Go.Proofs.YtlgpipdeckdmjaaGreat.Ref
/-
  The reference of layer 7: Lower.
-/
set_option linter.unusedVariables false
set_option linter.unusedSimpArgs false
namespace Go.Proofs.YtlgpipdeckdmjaaGreat.Ref
open Go.RowKit Base Reg Types Slice Sha Law
open Go.Proofs.YtlgpipdeckdmjaaGreat.One
def lwI : Option Nat → Int
  | some c => c
  | none => -1
/-- The frame of Lower while both Splits are made. -/
def Fr (w : World) (a b : List Nat) (u6 u7 u9 u10 u11 u12 : Value) : Act :=
  { tmps := #[agg .u8 a, agg .u8 b, .pointer (some ⟨w.heap.size, 0, none⟩), .pointer (some ⟨w.heap.size + 1, 0, none⟩), .int .i64 0, u6, u7, undef, u9, u10, u11, u12, undef, undef, undef, undef, undef, undef, undef, undef, undef, undef, undef, undef], defers := [] }
def B5 (w : World) (a b : List Nat) (x : Act) (W : World) : Prop :=
  ∃ u6 u7 u9 u10 u11 u12, x = Fr w a b u6 u7 u9 u10 u11 u12 ∧ At5 w a b W ∧ (∀ p, u6 = .pointer (some ⟨p, 0, none⟩) → w.heap.size + 2 ≤ p ∧ blk W p (cl .i64 (zs 35)) 87) ∧ (∀ p, u7 = .pointer (some ⟨p, 0, none⟩) → w.heap.size + 2 ≤ p ∧ blk W p (cl .i64 (zs 35)) 87) ∧ (∀ p, u6 = .pointer (some ⟨p, 0, none⟩) → u7 = .pointer (some ⟨p, 0, none⟩) → False)
def G5 (a b : List Nat) (i : Nat) (x : Act) (W : World) : Prop := match i with
  | 0 => x.tmps.getD 8 undef = agg .u8 a
  | 1 => x.tmps.getD 9 undef = agg .i64 (sp a)
  | 2 => x.tmps.getD 10 undef = agg .u8 b
  | 3 => x.tmps.getD 11 undef = agg .i64 (sp b)
  | 4 => ∃ p, x.tmps.getD 5 undef = .pointer (some ⟨p, 0, none⟩)
  | 5 => ∃ p, x.tmps.getD 6 undef = .pointer (some ⟨p, 0, none⟩)
  | _ => True































































































































































































end Go.Proofs.YtlgpipdeckdmjaaGreat.Ref
/-
  The examples of the document hold.
-/
set_option linter.unusedVariables false
set_option linter.unusedSimpArgs false
namespace Go.Proofs.YtlgpipdeckdmjaaGreat.Known
open Go.RowKit Base Reg Types Slice Sha
open Go.Proofs.YtlgpipdeckdmjaaGreat.One
def za : List Nat := zs 16
def zb : List Nat := (zs 16).set 15 1
theorem by_mem {l : List Nat} (h : l.all (· < 256) = true) : By l := by
  intro j
  rw [List.getD_eq_getElem?_getD]
  cases hj : l[j]? with
  | none => decide
  | some x =>
    have := List.all_eq_true.1 h x (List.mem_of_getElem? hj)
    simpa using this
theorem by_za : By za := by_mem (by decide)
theorem by_zb : By zb := by_mem (by decide)
theorem lw_ba : lwr zb za = some 31 := by kernel_rfl
theorem lw_ab : lwr za zb = some 33 := by kernel_rfl















































































































end Go.Proofs.YtlgpipdeckdmjaaGreat.Known
/-
  onetime: an array with the result of a function for each chain.
-/
set_option linter.unusedVariables false
set_option linter.unusedSimpArgs false
namespace Go.Proofs.YtlgpipdeckdmjaaGreat.One
open Go.RowKit Base Reg Types Slice Sha
/-- The values of the first k chains, one after another. -/
def flat (F : Nat → List Nat) (k : Nat) : List Nat := ((List.range k).map F).flatten
def fl (F : Nat → List Nat) (k : Nat) : List Nat := flat F k ++ zs (560 - 16 * k)
theorem flat_succ (F : Nat → List Nat) (k : Nat) : flat F (k + 1) = flat F k ++ F k := by simp [flat, List.range_succ]
theorem flat_length {F : Nat → List Nat} (h : ∀ c, (F c).length = 16) : ∀ k, (flat F k).length = 16 * k
  | 0 => rfl
  | k + 1 => by rw [flat_succ, List.length_append, flat_length h k, h]; omega
theorem fl_length {F : Nat → List Nat} (h : ∀ c, (F c).length = 16) {k : Nat} (hk : k ≤ 35) : (fl F k).length = 560 := by
  rw [fl, List.length_append, flat_length h, zs_length]; omega
theorem fl_zero (F : Nat → List Nat) : fl F 0 = zs 560 := by simp [fl, flat]
theorem fl_full (F : Nat → List Nat) : fl F 35 = flat F 35 := by simp [fl, zs]
theorem zs_drop (n m : Nat) : (zs n).drop m = zs (n - m) := by simp [zs]
theorem fl_splice {F : Nat → List Nat} (h : ∀ c, (F c).length = 16) {k : Nat} (hk : k < 35) : splice (cl .u8 (fl F k)) (16 * k) (cl .u8 (F k)) = cl .u8 (fl F (k + 1)) := by
  unfold splice
  have hl := flat_length h k
  rw [cl_length, h, cl_take, cl_drop, cl_append, cl_append]
  congr 1
  have e1 : (fl F k).take (16 * k) = flat F k := by rw [fl, List.take_left' hl]
  have e2 : (fl F k).drop (16 * k + 16) = zs (560 - 16 * (k + 1)) := by
    rw [fl, List.drop_append, hl, List.drop_eq_nil_of_le (by omega), List.nil_append, zs_drop]
    congr 1
    omega
  rw [e1, e2, fl, flat_succ]
/-- A value is written into its place. -/
theorem st_at {w : World} {b k : Nat} {F : Nat → List Nat} {t : TypeId} (h : ∀ c, (F c).length = 16) (hk : k < 35) (hB : blk w b (cl .u8 (fl F k)) t) :
    (stA 23 (.pointer (some ⟨b, k * 16, none⟩)) (agg .u8 (F k))).run Tryz.prog w = .ok () (w.setRow b (cl .u8 (fl F (k + 1))).toArray) := by
  rw [Nat.mul_comm]
  have h1 := run_storeAt_part (P := Tryz.prog) (ty := 23) (vs := cl .u8 (F k)) hB (16 * k) (by rw [cl_length, h]; kernel_rfl) (by rw [cl_length, cl_length, h, fl_length h (by omega)]; omega) (cl_one _ _)
  rw [fl_splice h hk] at h1
  exact h1
set_option maxRecDepth 20000 in
theorem each_public (w : World) (F : Nat → List Nat) (v1 v2 : Value) (hl : ∀ c, (F c).length = 16) (hF : ∀ c : Nat, c < 35 → ∀ W, Below w.heap.size w W → Calls Tryz.prog 94 #[.int .i64 (c : Int), v1, v2] W fun e w' => e = .returned (agg .u8 (F c)) ∧ Below W.heap.size W w') :
    Calls Tryz.prog 61 #[.func (.func 94) #[] #[v1, v2]] w fun e w' => e = .returned (agg .u8 (flat F 35)) ∧ Below w.heap.size w w' := by
  have HF := Lib.hid hF
  have HL := Lib.hid hl
  clear hF hl
  go_enter Tryz.func61, Tryz.ntmps61
  go_wp2_with fail
  go_loopw [5] (fun i wr => ∃ k : Nat, k ≤ 35 ∧ i = .int .i64 k ∧ blk wr w.heap.size (cl .u8 (zs 560)) 28 ∧ blk wr (w.heap.size + 1) (cl .u8 (fl F k)) 28 ∧ Below w.heap.size w wr) (fun i _ => 35 - (intOf i).toNat)
  case atStart => exact ⟨0, by omega, rfl, blk_alloc (blk_new _ _ _) _, by rw [fl_zero]; exact blk_at _ _ _ (by simp), ((Below.refl _ _).alloc (Nat.le_refl _) _).alloc (by simp) _⟩
  case round =>
    obtain ⟨k, hk, rfl, hb1, hb2, hbel⟩ := hrel
    by_cases hk2 : k < 35
    · have HB1 := Lib.hid hb1
      have HB2 := Lib.hid hb2
      clear hb1 hb2
      go_wp2_with fail
      refine (HF.out k hk2 wr hbel).mono ?_
      rintro e w1 ⟨rfl, hw1⟩
      have q := st_at HL.out hk2 (blk_keep HB2.out hw1)
      have C1 := Lib.hid (blk_keep HB1.out hw1)
      have C2 := Lib.hid (blk_keep HB2.out hw1)
      have CL := Lib.hid (bel_trans hbel hw1 hbel.size)
      have hl := HL.out k
      clear hw1
      go_wp2_with fail
      exact ⟨⟨k + 1, by omega, by go_num, blk_setRow_ne C1.out _ (by omega), blk_setRow C2.out (cl .u8 (fl F (k + 1))), bel_setRow CL.out (by omega) _⟩, by simp [intOf]; omega⟩
    · obtain rfl : k = 35 := by omega
      rw [fl_full F] at hb2
      have hl := flat_length HL.out 35
      have hb3 := bk_of hb1
      have hb4 := bk_of hb2
      go_wp2_with fail
      refine ret_bs rfl rfl (blk_setRow hb1 (cl .u8 (flat F 35))) hl rfl ⟨rfl, bel_setRow hbel (Nat.le_refl _) _⟩
set_option maxRecDepth 20000 in
theorem each_sign (w : World) (F : Nat → List Nat) (v1 v2 v3 : Value) (hl : ∀ c, (F c).length = 16) (hF : ∀ c : Nat, c < 35 → ∀ W, Below w.heap.size w W → Calls Tryz.prog 62 #[.int .i64 (c : Int), v1, v2, v3] W fun e w' => e = .returned (agg .u8 (F c)) ∧ Below W.heap.size W w') :
    Calls Tryz.prog 61 #[.func (.func 62) #[] #[v1, v2, v3]] w fun e w' => e = .returned (agg .u8 (flat F 35)) ∧ Below w.heap.size w w' := by
  have HF := Lib.hid hF
  have HL := Lib.hid hl
  clear hF hl
  go_enter Tryz.func61, Tryz.ntmps61
  go_wp2_with fail
  go_loopw [5] (fun i wr => ∃ k : Nat, k ≤ 35 ∧ i = .int .i64 k ∧ blk wr w.heap.size (cl .u8 (zs 560)) 28 ∧ blk wr (w.heap.size + 1) (cl .u8 (fl F k)) 28 ∧ Below w.heap.size w wr) (fun i _ => 35 - (intOf i).toNat)
  case atStart => exact ⟨0, by omega, rfl, blk_alloc (blk_new _ _ _) _, by rw [fl_zero]; exact blk_at _ _ _ (by simp), ((Below.refl _ _).alloc (Nat.le_refl _) _).alloc (by simp) _⟩
  case round =>
    obtain ⟨k, hk, rfl, hb1, hb2, hbel⟩ := hrel
    by_cases hk2 : k < 35
    · have HB1 := Lib.hid hb1
      have HB2 := Lib.hid hb2
      clear hb1 hb2
      go_wp2_with fail
      refine (HF.out k hk2 wr hbel).mono ?_
      rintro e w1 ⟨rfl, hw1⟩
      have q := st_at HL.out hk2 (blk_keep HB2.out hw1)
      have C1 := Lib.hid (blk_keep HB1.out hw1)
      have C2 := Lib.hid (blk_keep HB2.out hw1)
      have CL := Lib.hid (bel_trans hbel hw1 hbel.size)
      have hl := HL.out k
      clear hw1
      go_wp2_with fail
      exact ⟨⟨k + 1, by omega, by go_num, blk_setRow_ne C1.out _ (by omega), blk_setRow C2.out (cl .u8 (fl F (k + 1))), bel_setRow CL.out (by omega) _⟩, by simp [intOf]; omega⟩
    · obtain rfl : k = 35 := by omega
      rw [fl_full F] at hb2
      have hl := flat_length HL.out 35
      have hb3 := bk_of hb1
      have hb4 := bk_of hb2
      go_wp2_with fail
      refine ret_bs rfl rfl (blk_setRow hb1 (cl .u8 (flat F 35))) hl rfl ⟨rfl, bel_setRow hbel (Nat.le_refl _) _⟩
set_option maxRecDepth 20000 in
theorem each_ends (w : World) (F : Nat → List Nat) (v1 v2 v3 : Value) (hl : ∀ c, (F c).length = 16) (hF : ∀ c : Nat, c < 35 → ∀ W, Below w.heap.size w W → Calls Tryz.prog 112 #[.int .i64 (c : Int), v1, v2, v3] W fun e w' => e = .returned (agg .u8 (F c)) ∧ Below W.heap.size W w') :
    Calls Tryz.prog 61 #[.func (.func 112) #[] #[v1, v2, v3]] w fun e w' => e = .returned (agg .u8 (flat F 35)) ∧ Below w.heap.size w w' := by
  have HF := Lib.hid hF
  have HL := Lib.hid hl
  clear hF hl
  go_enter Tryz.func61, Tryz.ntmps61
  go_wp2_with fail
  go_loopw [5] (fun i wr => ∃ k : Nat, k ≤ 35 ∧ i = .int .i64 k ∧ blk wr w.heap.size (cl .u8 (zs 560)) 28 ∧ blk wr (w.heap.size + 1) (cl .u8 (fl F k)) 28 ∧ Below w.heap.size w wr) (fun i _ => 35 - (intOf i).toNat)
  case atStart => exact ⟨0, by omega, rfl, blk_alloc (blk_new _ _ _) _, by rw [fl_zero]; exact blk_at _ _ _ (by simp), ((Below.refl _ _).alloc (Nat.le_refl _) _).alloc (by simp) _⟩
  case round =>
    obtain ⟨k, hk, rfl, hb1, hb2, hbel⟩ := hrel
    by_cases hk2 : k < 35
    · have HB1 := Lib.hid hb1
      have HB2 := Lib.hid hb2
      clear hb1 hb2
      go_wp2_with fail
      refine (HF.out k hk2 wr hbel).mono ?_
      rintro e w1 ⟨rfl, hw1⟩
      have q := st_at HL.out hk2 (blk_keep HB2.out hw1)
      have C1 := Lib.hid (blk_keep HB1.out hw1)
      have C2 := Lib.hid (blk_keep HB2.out hw1)
      have CL := Lib.hid (bel_trans hbel hw1 hbel.size)
      have hl := HL.out k
      clear hw1
      go_wp2_with fail
      exact ⟨⟨k + 1, by omega, by go_num, blk_setRow_ne C1.out _ (by omega), blk_setRow C2.out (cl .u8 (fl F (k + 1))), bel_setRow CL.out (by omega) _⟩, by simp [intOf]; omega⟩
    · obtain rfl : k = 35 := by omega
      rw [fl_full F] at hb2
      have hl := flat_length HL.out 35
      have hb3 := bk_of hb1
      have hb4 := bk_of hb2
      go_wp2_with fail
      refine ret_bs rfl rfl (blk_setRow hb1 (cl .u8 (flat F 35))) hl rfl ⟨rfl, bel_setRow hbel (Nat.le_refl _) _⟩
end Go.Proofs.YtlgpipdeckdmjaaGreat.One
/-
  onetime: the public value of ends.
-/
set_option linter.unusedVariables false
set_option linter.unusedSimpArgs false
namespace Go.Proofs.YtlgpipdeckdmjaaGreat.One
open Go.RowKit Base Reg Types Slice Sha
theorem own_nil (w : World) (base : Nat) : Own w base (.slice none 0 0) [] := ⟨rfl, .inl ⟨rfl, rfl⟩⟩
theorem take_more (E : List Nat) (k : Nat) : E.take (16 * k) ++ (E.drop (k * 16)).take 16 = E.take (16 * (k + 1)) := by
  rw [Nat.mul_comm k 16, ← List.take_add]
  congr 1
theorem rd_ix_bs (x i : Value) : Instr.index 28 x i = ixA 28 x i := rfl
theorem ix_bs (E : List Nat) (k : Nat) (w : World) (hE : E.length = 560) (hk : k < 35) : (ixA 28 (agg .u8 E) (.int .i64 (k : Int))).run Tryz.prog w = .ok (agg .u8 ((E.drop (k * 16)).take 16)) w := by
  have hu : Tryz.prog.underlying 28 = some (.array 35 23) := by kernel_rfl
  have he : Tryz.prog.underlying 23 = some (.array 16 5) := by kernel_rfl
  obtain ⟨inf, hq, hs⟩ : ∃ inf, Tryz.prog.info? 23 = some inf ∧ inf.size = 16 := ⟨(Tryz.prog.info? 23).get (by kernel_rfl), by kernel_rfl, by kernel_rfl⟩
  have h1 : (k : Int) < 35 := by omega
  simp [ixA, Instr.index, asIntOf, run_underlying hu, h1, sizeOf, typeInfo, hq, hs, part, isAgg, run_underlying he]
  rw [if_pos hk, cl_drop, cl_take]
attribute [local go_sem ↓ high] rd_ix_bs
attribute [local go_sem] ix_bs
set_option maxRecDepth 20000 in
set_option maxHeartbeats 4000000 in
theorem compress (w : World) (leaf : Nat) (E : List Nat) (hE : E.length = 560) (hleaf : leaf ≤ 65535) :
    Calls Tryz.prog 93 #[.int .i64 (leaf : Int), agg .u8 E] w fun e w' => e = .returned (agg .u8 (cmp leaf E)) ∧ Below w.heap.size w w' := by
  go_enter Tryz.func93, Tryz.ntmps93
  go_wp2_with fail
  go_loopw [5, 9] (fun v i wr => ∃ k : Nat, k ≤ 35 ∧ i = .int .i64 k ∧ Own wr (w.heap.size + 2) v (E.take (16 * k)) ∧ blk wr (w.heap.size + 1) (cl .u8 (zs 16)) 23 ∧ Below w.heap.size w wr ∧ w.heap.size + 2 ≤ wr.heap.size) (fun _ i _ => 35 - (intOf i).toNat)
  case atStart => exact ⟨0, by omega, rfl, own_nil _ _, blk_at _ _ _ (by simp only [alloc_size]), ((Below.refl _ _).alloc (Nat.le_refl _) _).alloc (by simp only [alloc_size]; omega) _, by simp only [alloc_size]; omega⟩
  case round =>
    obtain ⟨k, hk, rfl, ho, hB, hbel, hsz⟩ := hrel
    by_cases hk2 : k < 35
    · have HO := Lib.hid ho
      have HB := Lib.hid hB
      have hl16 : ((E.drop (k * 16)).take 16).length = 16 := by simp; omega
      clear ho hB
      obtain ⟨x, hx⟩ : ∃ x, x = (E.drop (k * 16)).take 16 := ⟨_, rfl⟩
      have qx := ix_bs E k wr hE hk2
      rw [← hx] at qx hl16
      have HX := Lib.hid hx
      clear hx
      go_wp2_with (
        at_builtin
        refine wpList_append_bytes rfl (.tmp 12) (.tmp 13) rfl rfl rfl (own_keep HO.out ((Below.refl _ _).alloc (Nat.le_refl _) _)) (sl_whole (blk_new wr (cl .u8 x) 23) hl16.symm (Nat.le_refl _)) (by rw [hl16]; simp; omega) (by simp only [alloc_size]; omega) ?_
        intro v1 w2 ho1 hg1)
      have hb2 := (hbel.alloc hbel.size (.cells (cl .u8 x).toArray 23)).grown hg1 (by simp only [alloc_size]; omega) (fun k hk => by have := own_block HO.out k (by simpa [Act.eval] using hk); omega)
      have hB2 := blk_grown (blk_alloc HB.out (.cells (cl .u8 x).toArray 23)) hg1 (by intro e; have := own_block HO.out (w.heap.size + 1) (by simpa [Act.eval] using e.symm); omega)
      have hs2 := hg1.size
      rw [alloc_size] at hs2
      rw [HX.out, take_more] at ho1
      clear hg1
      go_roundw
      case rel => exact ⟨k + 1, by omega, by go_num, ho1, hB2, hb2, by omega⟩
      case measure => simp [intOf]; omega
    · obtain rfl : k = 35 := by omega
      rw [List.take_of_length_le (by omega)] at ho
      have HO := Lib.hid (SlC.of_own ho)
      have HB := Lib.hid hB
      obtain ⟨Av, cv, rfl⟩ := own_slice ho
      clear ho hB
      go_wp2_with fail
      rw [hE] at HO
      have HO2 := Lib.hid (HO.out.keep ((Below.refl wr.heap.size wr).alloc (Nat.le_refl _) (.cells #[.slice Av 560 cv] 97)))
      have hsl : Sl (wr.alloc (.cells #[.slice Av 560 cv] 97)) (.slice Av 560 cv) E := by
        unfold Sl
        rw [hE]
        exact HO2.out
      refine (hash1 (tag := 4) (blk_new wr [.slice Av 560 cv] 97) hsl (by omega) (by omega) (by omega)).mono ?_
      rintro e w1 ⟨rfl, hb1⟩
      have hB1 := blk_keep (blk_alloc HB.out (.cells #[.slice Av 560 cv] 97)) hb1
      have hk1 := bk_of hB1
      have hfl := cmp_length leaf E
      have hbel1 := bel_trans (hbel.alloc hbel.size (.cells #[.slice Av 560 cv] 97)) hb1 (by have := hbel.size; simp only [alloc_size]; omega)
      rw [show hf (hd 4 leaf ++ E) = cmp leaf E from rfl]
      clear hb1 hsl
      go_wp2_with fail
      refine ret_b16 rfl rfl (blk_setRow hB1 (cl .u8 (cmp leaf E))) hfl rfl ⟨rfl, bel_setRow hbel1 (by omega) _⟩
end Go.Proofs.YtlgpipdeckdmjaaGreat.One
/-
  onetime: the functions of a chain's number.
-/
set_option linter.unusedVariables false
set_option linter.unusedSimpArgs false
namespace Go.Proofs.YtlgpipdeckdmjaaGreat.One
open Go.RowKit Base Reg Types Slice Sha
set_option maxRecDepth 20000 in
theorem public_of (w : World) (seed : List Nat) (leaf c gl gs : Nat) (hs : seed.length = 32) (hleaf : leaf ≤ 65535) (hc : c < 35) (hL : blk w gl [.int .i64 (leaf : Int)] 3) (hS : blk w gs (cl .u8 seed) 22) :
    Calls Tryz.prog 94 #[.int .i64 (c : Int), .pointer (some ⟨gl, 0, none⟩), .pointer (some ⟨gs, 0, none⟩)] w fun e w' => e = .returned (agg .u8 (adv leaf c 0 15 (sec seed leaf c))) ∧ Below w.heap.size w w' := by
  have ltl := blk_lt hL
  have lts := blk_lt hS
  go_enter Tryz.func94, Tryz.ntmps94
  obtain ⟨ι, F, hF, hin⟩ := class_of (fun W => blk W gl [.int .i64 (leaf : Int)] 3 ∧ blk W gs (cl .u8 seed) 22 ∧ blk W w.heap.size (cl .u8 (zs 16)) 23 ∧ Below w.heap.size w W)
  have h0 := hin (w.alloc (.cells (cl .u8 (zs 16)).toArray 23)).drew ⟨blk_drew (blk_alloc hL _), blk_drew (blk_alloc hS _), blk_drew (blk_new _ _ _), ((Below.refl _ _).alloc (Nat.le_refl _) _).drew⟩
  have hne : Nonempty ι := ⟨h0.choose⟩
  have q0 : ∀ i, (F i).cell? ⟨gl, 0, none⟩ = some (.int .i64 (leaf : Int)) := fun i => (blk_cell (hF i).1 0).trans rfl
  have q1 : ∀ i, bk (F i) gs = some (cl .u8 seed).toArray := fun i => bk_of (hF i).2.1
  have q2 : ∀ i, bk (F i) w.heap.size = some (cl .u8 (zs 16)).toArray := fun i => bk_of (hF i).2.2.1
  have HF := Lib.hid hF
  have HI := Lib.hid hin
  have H0 := Lib.hid h0
  have l1 := sec_length seed leaf c
  have l2 := adv_length leaf c 0 15 (sec seed leaf c) l1
  clear hF hin h0 hL hS
  go_wp2_with fail
  refine wp_region_tail F 7 (by kernel_rfl) (by kernel_rfl) H0.out ?_
  simp only [List.take_succ_cons, List.take_zero, List.drop_succ_cons, List.drop_zero]
  repeat (go_big_quiet_step (first
    | (go_at_call 64; exact quiet_below HF.out HI.out (fun _ _ h hb => ⟨blk_keep h.1 hb, blk_keep h.2.1 hb, blk_keep h.2.2.1 hb, bel_trans h.2.2.2 hb h.2.2.2.size⟩) (secret _ seed leaf c hs hleaf (by omega)))
    | (go_at_call 63; exact quiet_below HF.out HI.out (fun _ _ h hb => ⟨blk_keep h.1 hb, blk_keep h.2.1 hb, blk_keep h.2.2.1 hb, bel_trans h.2.2.2 hb h.2.2.2.size⟩) (advance _ leaf c 0 15 (sec seed leaf c) l1 hleaf (by omega) (by omega) 15 rfl))))
  refine wpQuiet_nil ?_
  intro i
  go_wp2_with fail
  refine ret_b16 rfl rfl (blk_setRow (HF.out i).2.2.1 (cl .u8 (adv leaf c 0 15 (sec seed leaf c)))) l2 rfl ⟨rfl, bel_setRow (HF.out i).2.2.2 (Nat.le_refl _) _⟩
set_option maxRecDepth 20000 in
theorem sign_of (w : World) (seed : List Nat) (D : List Nat) (leaf c gl gd gs : Nat) (hD : D.length = 35) (hD15 : ∀ j, D.getD j 0 ≤ 15) (hs : seed.length = 32) (hleaf : leaf ≤ 65535) (hc : c < 35) (hL : blk w gl [.int .i64 (leaf : Int)] 3) (hDB : blk w gd (cl .i64 D) 87) (hS : blk w gs (cl .u8 seed) 22) :
    Calls Tryz.prog 62 #[.int .i64 (c : Int),   .pointer (some ⟨gl, 0, none⟩), .pointer (some ⟨gd, 0, none⟩), .pointer (some ⟨gs, 0, none⟩)] w fun e w' => e = .returned (agg .u8 (adv leaf c 0 (D.getD c 0) (sec seed leaf c))) ∧ Below w.heap.size w w' := by
  have ltl := blk_lt hL
  have ltd := blk_lt hDB
  obtain ⟨x, hx⟩ : ∃ x, x = D.getD c 0 := ⟨_, rfl⟩
  have hx15 : x ≤ 15 := by rw [hx]; exact hD15 c
  rw [← hx]
  have lts := blk_lt hS
  go_enter Tryz.func62, Tryz.ntmps62
  obtain ⟨ι, F, hF, hin⟩ := class_of (fun W => blk W gl [.int .i64 (leaf : Int)] 3 ∧ blk W gd (cl .i64 D) 87 ∧ blk W gs (cl .u8 seed) 22 ∧ blk W w.heap.size (cl .u8 (zs 16)) 23 ∧ Below w.heap.size w W)
  have h0 := hin (w.alloc (.cells (cl .u8 (zs 16)).toArray 23)).drew ⟨blk_drew (blk_alloc hL _), blk_drew (blk_alloc hDB _), blk_drew (blk_alloc hS _), blk_drew (blk_new _ _ _), ((Below.refl _ _).alloc (Nat.le_refl _) _).drew⟩
  have hne : Nonempty ι := ⟨h0.choose⟩
  have q0 : ∀ i, (F i).cell? ⟨gl, 0, none⟩ = some (.int .i64 (leaf : Int)) := fun i => (blk_cell (hF i).1 0).trans rfl
  have q1 : ∀ i, bk (F i) gs = some (cl .u8 seed).toArray := fun i => bk_of (hF i).2.2.1
  have q2 : ∀ i, bk (F i) w.heap.size = some (cl .u8 (zs 16)).toArray := fun i => bk_of (hF i).2.2.2.1
  have q3 : ∀ i, (F i).cell? ⟨gd, c, none⟩ = some (.int .i64 ((x : Nat) : Int)) := fun i => (blk_cell (hF i).2.1 c).trans (by rw [hx]; exact cl_get _ _ _ (by omega))
  have HF := Lib.hid hF
  have HI := Lib.hid hin
  have H0 := Lib.hid h0
  have l1 := sec_length seed leaf c
  have l2 := adv_length leaf c 0 (x) (sec seed leaf c) l1
  have HX := Lib.hid hx
  clear hF hin h0 hL hS hDB hx
  go_wp2_with fail
  refine wp_region_tail F 10 (by kernel_rfl) (by kernel_rfl) H0.out ?_
  simp only [List.take_succ_cons, List.take_zero, List.drop_succ_cons, List.drop_zero]
  repeat (go_big_quiet_step (first
    | (go_at_call 64; exact quiet_below HF.out HI.out (fun _ _ h hb => ⟨blk_keep h.1 hb, blk_keep h.2.1 hb, blk_keep h.2.2.1 hb, blk_keep h.2.2.2.1 hb, bel_trans h.2.2.2.2 hb h.2.2.2.2.size⟩) (secret _ seed leaf c hs hleaf (by omega)))
    | (go_at_call 63; exact quiet_below HF.out HI.out (fun _ _ h hb => ⟨blk_keep h.1 hb, blk_keep h.2.1 hb, blk_keep h.2.2.1 hb, blk_keep h.2.2.2.1 hb, bel_trans h.2.2.2.2 hb h.2.2.2.2.size⟩) (advance _ leaf c 0 x (sec seed leaf c) l1 hleaf (by omega) (by omega) x (by rw [Nat.zero_add])))))
  refine wpQuiet_nil ?_
  intro i
  go_wp2_with fail
  refine ret_b16 rfl rfl (blk_setRow (HF.out i).2.2.2.1 (cl .u8 (adv leaf c 0 (x) (sec seed leaf c)))) l2 rfl ⟨rfl, bel_setRow (HF.out i).2.2.2.2 (Nat.le_refl _) _⟩
theorem ld_at {W : World} {gs c : Nat} {s : List Nat} {t : TypeId} (hs : s.length = 560) (hc : c < 35) (h : blk W gs (cl .u8 s) t) : (ldA 23 (.pointer (some ⟨gs, c * 16, none⟩))).run Tryz.prog W = .ok (agg .u8 ((s.drop (c * 16)).take 16)) W := by
  have h1 := run_loadAt_part (P := Tryz.prog) (ty := 23) h (c * 16) 16 (d := (Tryz.prog.underlying 23).get (by kernel_rfl)) (by kernel_rfl) (by kernel_rfl) (by kernel_rfl) (by rw [cl_length, hs]; omega)
  rw [cl_drop, cl_take] at h1
  exact h1
set_option maxRecDepth 20000 in
theorem ends_of (w : World) (seed : List Nat) (D : List Nat) (leaf c gl gd gs : Nat) (hD : D.length = 35) (hD15 : ∀ j, D.getD j 0 ≤ 15) (hs : seed.length = 560) (hleaf : leaf ≤ 65535) (hc : c < 35) (hL : blk w gl [.int .i64 (leaf : Int)] 3) (hDB : blk w gd (cl .i64 D) 87) (hS : blk w gs (cl .u8 seed) 74) :
    Calls Tryz.prog 112 #[.int .i64 (c : Int),   .pointer (some ⟨gl, 0, none⟩), .pointer (some ⟨gd, 0, none⟩), .pointer (some ⟨gs, 0, none⟩)] w fun e w' => e = .returned (agg .u8 (adv leaf c (D.getD c 0) (15 - D.getD c 0) ((seed.drop (c * 16)).take 16))) ∧ Below w.heap.size w w' := by
  have ltl := blk_lt hL
  have ltd := blk_lt hDB
  obtain ⟨x, hx⟩ : ∃ x, x = D.getD c 0 := ⟨_, rfl⟩
  have hx15 : x ≤ 15 := by rw [hx]; exact hD15 c
  rw [← hx]
  have lts := blk_lt hS
  go_enter Tryz.func112, Tryz.ntmps112
  obtain ⟨ι, F, hF, hin⟩ := class_of (fun W => blk W gl [.int .i64 (leaf : Int)] 3 ∧ blk W gd (cl .i64 D) 87 ∧ blk W gs (cl .u8 seed) 74 ∧ blk W w.heap.size (cl .u8 (zs 16)) 23 ∧ Below w.heap.size w W)
  have h0 := hin (w.alloc (.cells (cl .u8 (zs 16)).toArray 23)).drew ⟨blk_drew (blk_alloc hL _), blk_drew (blk_alloc hDB _), blk_drew (blk_alloc hS _), blk_drew (blk_new _ _ _), ((Below.refl _ _).alloc (Nat.le_refl _) _).drew⟩
  have hne : Nonempty ι := ⟨h0.choose⟩
  have q0 : ∀ i, (F i).cell? ⟨gl, 0, none⟩ = some (.int .i64 (leaf : Int)) := fun i => (blk_cell (hF i).1 0).trans rfl
  have q1 : ∀ i, (ldA 23 (.pointer (some ⟨gs, c * 16, none⟩))).run Tryz.prog (F i) = .ok (agg .u8 ((seed.drop (c * 16)).take 16)) (F i) := fun i => ld_at hs hc (hF i).2.2.1
  have q2 : ∀ i, bk (F i) w.heap.size = some (cl .u8 (zs 16)).toArray := fun i => bk_of (hF i).2.2.2.1
  have q3 : ∀ i, (F i).cell? ⟨gd, c, none⟩ = some (.int .i64 ((x : Nat) : Int)) := fun i => (blk_cell (hF i).2.1 c).trans (by rw [hx]; exact cl_get _ _ _ (by omega))
  have HF := Lib.hid hF
  have HI := Lib.hid hin
  have H0 := Lib.hid h0
  have l1 : ((seed.drop (c * 16)).take 16).length = 16 := by simp; omega
  have l2 := adv_length leaf c x (15 - x) ((seed.drop (c * 16)).take 16) l1
  have HX := Lib.hid hx
  clear hF hin h0 hL hS hDB hx
  go_wp2_with fail
  refine wp_region_tail F 9 (by kernel_rfl) (by kernel_rfl) H0.out ?_
  simp only [List.take_succ_cons, List.take_zero, List.drop_succ_cons, List.drop_zero]
  repeat (go_big_quiet_step (first
    | (go_at_call 63; exact quiet_below HF.out HI.out (fun _ _ h hb => ⟨blk_keep h.1 hb, blk_keep h.2.1 hb, blk_keep h.2.2.1 hb, blk_keep h.2.2.2.1 hb, bel_trans h.2.2.2.2 hb h.2.2.2.2.size⟩) (advance _ leaf c x (15 - x) ((seed.drop (c * 16)).take 16) l1 hleaf (by omega) (by omega) 15 (by omega)))))
  refine wpQuiet_nil ?_
  intro i
  go_wp2_with fail
  refine ret_b16 rfl rfl (blk_setRow (HF.out i).2.2.2.1 (cl .u8 (adv leaf c x (15 - x) ((seed.drop (c * 16)).take 16)))) l2 rfl ⟨rfl, bel_setRow (HF.out i).2.2.2.2 (Nat.le_refl _) _⟩
end Go.Proofs.YtlgpipdeckdmjaaGreat.One
/-
  onetime: the ends that a signature leads to.
-/
set_option linter.unusedVariables false
set_option linter.unusedSimpArgs false
namespace Go.Proofs.YtlgpipdeckdmjaaGreat.One
open Go.RowKit Base Reg Types Slice Sha
/-- Part c of a flat list of values. -/
def elt (s : List Nat) (c : Nat) : List Nat := (s.drop (c * 16)).take 16
def endF (s d : List Nat) (leaf c : Nat) : List Nat := if c < 35 then adv leaf c (spd d c) (15 - spd d c) (elt s c) else zs 16
theorem endF_length {s : List Nat} (hs : s.length = 560) (d : List Nat) (leaf c : Nat) : (endF s d leaf c).length = 16 := by
  unfold endF
  split
  · refine adv_length _ _ _ _ _ ?_
    unfold elt
    simp
    omega
  · rfl
theorem sp_le {d : List Nat} (h : By d) (j : Nat) : (sp d).getD j 0 ≤ 15 := by
  by_cases hj : j < 35
  · rw [sp_getD d j hj]; exact spd_le h j
  · rw [List.getD_eq_getElem?_getD, List.getElem?_eq_none (by rw [sp_length]; omega)]; decide
set_option maxRecDepth 20000 in
theorem ends (w : World) (s d : List Nat) (leaf : Nat) (hs : s.length = 560) (hd : d.length = 16) (bd : By d) (hleaf : leaf ≤ 65535) :
    Calls Tryz.prog 98 #[agg .u8 s, .int .i64 (leaf : Int), agg .u8 d] w fun e w' => e = .returned (agg .u8 (flat (endF s d leaf) 35)) ∧ Below w.heap.size w w' := by
  go_enter Tryz.func98, Tryz.ntmps98
  go_wp2_with fail
  obtain ⟨W0, hW0⟩ : ∃ W0, W0 = ((((w.alloc (.cells (cl .u8 s).toArray 74)).alloc (.cells #[.int .i64 (leaf : Int)] 3)).alloc (.cells (cl .u8 d).toArray 23)).alloc (.cells (cl .u8 (zs 560)).toArray 28)) := ⟨_, rfl⟩
  have b0 : blk W0 w.heap.size (cl .u8 s) 74 := by rw [hW0]; exact blk_alloc (blk_alloc (blk_alloc (blk_new _ _ _) _) _) _
  have b1 : blk W0 (w.heap.size + 1) [.int .i64 (leaf : Int)] 3 := by rw [hW0]; exact blk_alloc (blk_alloc (blk_at _ [.int .i64 (leaf : Int)] _ (by simp only [alloc_size])) _) _
  have b3 : blk W0 (w.heap.size + 1 + 1 + 1) (cl .u8 (zs 560)) 28 := by rw [hW0]; exact blk_at _ _ _ (by simp only [alloc_size])
  have bl : Below w.heap.size w W0 := by rw [hW0]; exact ((((Below.refl w.heap.size w).alloc (Nat.le_refl _) _).alloc (by simp only [alloc_size]; omega) _).alloc (by simp only [alloc_size]; omega) _).alloc (by simp only [alloc_size]; omega) _
  rw [← hW0]
  clear hW0
  refine (split W0 d hd bd).mono ?_
  rintro e w1 ⟨rfl, hb1⟩
  have A0 := Lib.hid (blk_alloc (blk_keep b0 hb1) (.cells (cl .i64 (sp d)).toArray 87))
  have A1 := Lib.hid (blk_alloc (blk_keep b1 hb1) (.cells (cl .i64 (sp d)).toArray 87))
  have A3 := Lib.hid (blk_alloc (blk_keep b3 hb1) (.cells (cl .i64 (sp d)).toArray 87))
  have AD := Lib.hid (blk_new w1 (cl .i64 (sp d)) 87)
  have AL := Lib.hid ((bel_trans bl hb1 bl.size).alloc (by have := bel_trans bl hb1 bl.size; exact this.size) (.cells (cl .i64 (sp d)).toArray 87))
  have ld := sp_length d
  clear hb1 b0 b1 b3 bl
  go_wp2_with fail
  refine (each_ends _ (endF s d leaf) _ _ _ (endF_length hs d leaf) (fun c hc W hb => by
    have h := ends_of W s (sp d) leaf c (w.heap.size + 1) w1.heap.size w.heap.size ld (sp_le bd) hs hleaf hc (blk_keep A1.out hb) (blk_keep AD.out hb) (blk_keep A0.out hb)
    rw [sp_getD d c hc] at h
    have e : endF s d leaf c = adv leaf c (spd d c) (15 - spd d c) ((s.drop (c * 16)).take 16) := by rw [endF, if_pos hc, elt]
    rw [e]
    exact h)).mono ?_
  rintro e w2 ⟨rfl, hb2⟩
  have B3 := blk_keep A3.out hb2
  have k3 := bk_of B3
  have BL := bel_trans AL.out hb2 AL.out.size
  have lf := flat_length (endF_length hs d leaf) 35
  clear hb2
  go_wp2_with fail
  refine ret_bs rfl rfl (blk_setRow B3 (cl .u8 (flat (endF s d leaf) 35))) lf rfl ⟨rfl, bel_setRow BL (by omega) _⟩
end Go.Proofs.YtlgpipdeckdmjaaGreat.One
