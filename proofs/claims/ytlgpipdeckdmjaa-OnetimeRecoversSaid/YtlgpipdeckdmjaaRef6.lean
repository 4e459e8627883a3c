/-
  The reference of layer 7: Split, Lower.
-/
import Derived.Test.YtlgpipdeckdmjaaRef5
set_option linter.unusedVariables false
set_option linter.unusedSimpArgs false
namespace Go.Proofs.Ytlgpipdeckdmjaa.Ref
open Go.RowKit Base Reg Types Slice Sha Law
open Go.Proofs.Ytlgpipdeckdmjaa.One
/-- The digits of the first k bytes. -/
def dgs (d : List Nat) (k : Nat) : List Nat := upto 35 (2 * k) (dg d)
theorem dg_even (d : List Nat) (k : Nat) : dg d (2 * k) = d.getD k 0 / 16 := by
  unfold dg
  rw [if_pos (by omega), show 2 * k / 2 = k by omega]
theorem dg_odd (d : List Nat) (k : Nat) : dg d (2 * k + 1) = d.getD k 0 % 16 := by
  unfold dg
  rw [if_neg (by omega), show (2 * k + 1) / 2 = k by omega]
set_option maxRecDepth 20000 in
set_option maxHeartbeats 4000000 in
theorem split (w : World) (d : List Nat) (hd : d.length = 16) (hb : By d) :
    Calls Try.prog 18 #[agg .u8 d] w fun e w' => e = .returned (agg .i64 (sp d)) ∧ Below w.heap.size w w' := by
  go_enter Try.func18, Try.ntmps18
  go_wp2_with fail
  go_loopw [4, 5] (fun s i wr => ∃ k : Nat, k ≤ 16 ∧ s = .int .i64 (sm d (2 * k) : Nat) ∧ i = .int .i64 k ∧ blk wr w.heap.size (cl .u8 d) 22 ∧ blk wr (w.heap.size + 1) (cl .i64 (zs 35)) 27 ∧ blk wr (w.heap.size + 1 + 1) (cl .i64 (dgs d k)) 27 ∧ Below w.heap.size w wr) (fun _ i _ => 16 - (intOf i).toNat)
  case atStart =>
    exact ⟨0, by omega, rfl, rfl, blk_alloc (blk_alloc (blk_new _ _ _) _) _, blk_alloc (blk_at _ _ _ (by simp only [alloc_size])) _, by rw [dgs, Nat.mul_zero, upto_zero]; exact blk_at _ _ _ (by simp only [alloc_size]), (((Below.refl w.heap.size w).alloc (Nat.le_refl _) _).alloc (by simp only [alloc_size]; omega) _).alloc (by simp only [alloc_size]; omega) _⟩
  case round =>
    obtain ⟨k, hk, rfl, rfl, h1, h2, h3, hbel⟩ := hrel
    have hl : (dgs d k).length = 35 := upto_length _ _ _
    by_cases hk2 : k < 16
    · obtain ⟨x, hx⟩ : ∃ x, x = d.getD k 0 := ⟨_, rfl⟩
      have hx2 : x < 256 := hx ▸ hb k
      have hs := sm_le d (2 * k)
      obtain ⟨y, hy⟩ : ∃ y, y = sm d (2 * k) := ⟨_, rfl⟩
      rw [← hy] at hs ⊢
      have c1 : wr.cell? ⟨w.heap.size, k, none⟩ = some (.int .u8 (x : Int)) := by rw [hx]; exact (blk_cell h1 k).trans (cl_get _ _ _ (by omega))
      have c2 : wr.cell? ⟨w.heap.size + 1 + 1, 2 * k, none⟩ = some (.int .i64 (((dgs d k).getD (2 * k) 0 : Nat) : Int)) := (blk_cell h3 _).trans (cl_get _ _ _ (by omega))
      have c3 : wr.cell? ⟨w.heap.size + 1 + 1, 2 * k + 1, none⟩ = some (.int .i64 (((dgs d k).getD (2 * k + 1) 0 : Nat) : Int)) := (blk_cell h3 _).trans (cl_get _ _ _ (by omega))
      have f2 : wr.frozen? ⟨w.heap.size + 1 + 1, 2 * k, none⟩ = false := blk_free h3 _
      have f3 : wr.frozen? ⟨w.heap.size + 1 + 1, 2 * k + 1, none⟩ = false := blk_free h3 _
      have HX := Lib.hid hx
      have HY := Lib.hid hy
      have B1 := Lib.hid h1
      have B2 := Lib.hid h2
      have B3 := Lib.hid h3
      have HBW := Lib.hid hbel
      clear hx hy h1 h2 h3 hbel
      go_wp2_with fail
      go_region
      go_wp2_with fail
      have e1 : (x : Int) / 16 = ((dg d (2 * k) : Nat) : Int) := by rw [dg_even, ← HX.out]; omega
      have e2 : (x : Int) % 16 = ((dg d (2 * k + 1) : Nat) : Int) := by rw [dg_odd, ← HX.out]; omega
      rw [e1, e2]
      have b3 := blk_setCell (blk_setCell B3.out (2 * k) (.int .i64 ((dg d (2 * k) : Nat) : Int))) (2 * k + 1) (.int .i64 ((dg d (2 * k + 1) : Nat) : Int))
      have ed : ((dgs d k).set (2 * k) (dg d (2 * k))).set (2 * k + 1) (dg d (2 * k + 1)) = dgs d (k + 1) := by
        unfold dgs
        rw [upto_set 35 _ _ (by omega), upto_set 35 _ _ (by omega), show 2 * (k + 1) = 2 * k + 1 + 1 by omega]
      rw [cl_set, cl_set, ed] at b3
      have b1 := blk_setCell_ne (blk_setCell_ne B1.out (a := ⟨w.heap.size + 1 + 1, 2 * k, none⟩) (.int .i64 ((dg d (2 * k) : Nat) : Int)) (by simp; omega)) (a := ⟨w.heap.size + 1 + 1, 2 * k + 1, none⟩) (.int .i64 ((dg d (2 * k + 1) : Nat) : Int)) (by simp; omega)
      have b2 := blk_setCell_ne (blk_setCell_ne B2.out (a := ⟨w.heap.size + 1 + 1, 2 * k, none⟩) (.int .i64 ((dg d (2 * k) : Nat) : Int)) (by simp)) (a := ⟨w.heap.size + 1 + 1, 2 * k + 1, none⟩) (.int .i64 ((dg d (2 * k + 1) : Nat) : Int)) (by simp)
      have bb := bel_setCell (bel_setCell HBW.out (a := ⟨w.heap.size + 1 + 1, 2 * k, none⟩) (by simp; omega) (.int .i64 ((dg d (2 * k) : Nat) : Int))) (a := ⟨w.heap.size + 1 + 1, 2 * k + 1, none⟩) (by simp; omega) (.int .i64 ((dg d (2 * k + 1) : Nat) : Int))
      generalize ((wr.setCell ⟨w.heap.size + 1 + 1, 2 * k, none⟩ (.int .i64 ((dg d (2 * k) : Nat) : Int))).setCell ⟨w.heap.size + 1 + 1, 2 * k + 1, none⟩ (.int .i64 ((dg d (2 * k + 1) : Nat) : Int))) = W2 at b1 b2 b3 bb ⊢
      have p1 := dg_le hb (2 * k)
      have p2 := dg_le hb (2 * k + 1)
      have g1 : W2.drew.cell? ⟨w.heap.size + 1 + 1, 2 * k, none⟩ = some (.int .i64 ((dg d (2 * k) : Nat) : Int)) := (blk_cell (blk_drew b3) _).trans (by rw [cl_get _ _ _ (by rw [dgs, upto_length]; omega), dgs, upto_get _ _ _ _ (by omega) (by omega)])
      have g2 : W2.drew.cell? ⟨w.heap.size + 1 + 1, 2 * k + 1, none⟩ = some (.int .i64 ((dg d (2 * k + 1) : Nat) : Int)) := (blk_cell (blk_drew b3) _).trans (by rw [cl_get _ _ _ (by rw [dgs, upto_length]; omega), dgs, upto_get _ _ _ _ (by omega) (by omega)])
      clear c1 c2 c3 f2 f3 B1 B2 B3 HBW e1 e2
      have K1 := Lib.hid (blk_drew b1)
      have K2 := Lib.hid (blk_drew b2)
      have K3 := Lib.hid (blk_drew b3)
      have KB := Lib.hid bb.drew
      clear b1 b2 b3 bb ed
      generalize W2.drew = W3 at g1 g2 K1 K2 K3 KB ⊢
      go_region
      go_wp2_with fail
      refine ⟨⟨k + 1, by omega, ?_, by go_num, blk_drew K1.out, blk_drew K2.out, blk_drew K3.out, KB.out.drew⟩, by simp [intOf]; omega⟩
      have e : sm d (2 * (k + 1)) = sm d (2 * k) + (15 - dg d (2 * k)) + (15 - dg d (2 * k + 1)) := by rw [show 2 * (k + 1) = 2 * k + 1 + 1 by omega]; rfl
      have ey := HY.out
      have e2 : (y : Int) + (30 - ((dg d (2 * k) : Nat) : Int) - ((dg d (2 * k + 1) : Nat) : Int)) = ((sm d (2 * (k + 1)) : Nat) : Int) := by rw [e]; omega
      rw [e2]
    · obtain rfl : k = 16 := by omega
      obtain ⟨y, hy⟩ : ∃ y, y = sm d (2 * 16) := ⟨_, rfl⟩
      have hs : y ≤ 480 := by rw [hy]; exact sm_le d 32
      rw [← hy]
      have c2 : wr.cell? ⟨w.heap.size + 1 + 1, 32, none⟩ = some (.int .i64 (((dgs d 16).getD 32 0 : Nat) : Int)) := (blk_cell h3 _).trans (cl_get _ _ _ (by omega))
      have c3 : wr.cell? ⟨w.heap.size + 1 + 1, 33, none⟩ = some (.int .i64 (((dgs d 16).getD 33 0 : Nat) : Int)) := (blk_cell h3 _).trans (cl_get _ _ _ (by omega))
      have c4 : wr.cell? ⟨w.heap.size + 1 + 1, 34, none⟩ = some (.int .i64 (((dgs d 16).getD 34 0 : Nat) : Int)) := (blk_cell h3 _).trans (cl_get _ _ _ (by omega))
      have f2 : wr.frozen? ⟨w.heap.size + 1 + 1, 32, none⟩ = false := blk_free h3 _
      have f3 : wr.frozen? ⟨w.heap.size + 1 + 1, 33, none⟩ = false := blk_free h3 _
      have f4 : wr.frozen? ⟨w.heap.size + 1 + 1, 34, none⟩ = false := blk_free h3 _
      have HY := Lib.hid hy
      have B1 := Lib.hid h1
      have B2 := Lib.hid h2
      have B3 := Lib.hid h3
      clear hy h1 h2 h3
      have y1 : (y : Int) / 256 = ((spd d 32 : Nat) : Int) := by have := HY.out; rw [show spd d 32 = y / 2 ^ (4 * (34 - 32)) % 16 by rw [this]; rfl]; omega
      have y2 : (y : Int) / 16 % 16 = ((spd d 33 : Nat) : Int) := by have := HY.out; rw [show spd d 33 = y / 2 ^ (4 * (34 - 33)) % 16 by rw [this]; rfl]; omega
      have y3 : (y : Int) % 16 = ((spd d 34 : Nat) : Int) := by have := HY.out; rw [show spd d 34 = y / 2 ^ (4 * (34 - 34)) % 16 by rw [this]; rfl]; omega
      have es : (((dgs d 16).set 32 (spd d 32)).set 33 (spd d 33)).set 34 (spd d 34) = sp d := by
        have e0 : dgs d 16 = upto 35 32 (spd d) := by
          unfold dgs upto
          apply List.map_congr_left
          intro j hj
          by_cases h : j < 32
          · simp [h, spd]
          · simp [h]
        rw [e0, upto_set 35 32 (spd d) (by omega), upto_set 35 33 (spd d) (by omega), upto_set 35 34 (spd d) (by omega), upto_full]
        rfl
      have b3 : blk (((wr.setCell ⟨w.heap.size + 1 + 1, 32, none⟩ (.int .i64 ((y : Int) / 256))).setCell ⟨w.heap.size + 1 + 1, 33, none⟩ (.int .i64 ((y : Int) / 16 % 16))).setCell ⟨w.heap.size + 1 + 1, 34, none⟩ (.int .i64 ((y : Int) % 16))) (w.heap.size + 1 + 1) (cl .i64 (sp d)) 27 := by
        rw [y1, y2, y3]
        have h := blk_setCell (blk_setCell (blk_setCell B3.out 32 (.int .i64 ((spd d 32 : Nat) : Int))) 33 (.int .i64 ((spd d 33 : Nat) : Int))) 34 (.int .i64 ((spd d 34 : Nat) : Int))
        rw [cl_set, cl_set, cl_set, es] at h
        exact h
      have b2 : blk (((wr.setCell ⟨w.heap.size + 1 + 1, 32, none⟩ (.int .i64 ((y : Int) / 256))).setCell ⟨w.heap.size + 1 + 1, 33, none⟩ (.int .i64 ((y : Int) / 16 % 16))).setCell ⟨w.heap.size + 1 + 1, 34, none⟩ (.int .i64 ((y : Int) % 16))) (w.heap.size + 1) (cl .i64 (zs 35)) 27 :=
        blk_setCell_ne (blk_setCell_ne (blk_setCell_ne B2.out _ (by simp)) _ (by simp)) _ (by simp)
      have bb : Below w.heap.size w (((wr.setCell ⟨w.heap.size + 1 + 1, 32, none⟩ (.int .i64 ((y : Int) / 256))).setCell ⟨w.heap.size + 1 + 1, 33, none⟩ (.int .i64 ((y : Int) / 16 % 16))).setCell ⟨w.heap.size + 1 + 1, 34, none⟩ (.int .i64 ((y : Int) % 16))) :=
        bel_setCell (bel_setCell (bel_setCell hbel (by simp; omega) _) (by simp; omega) _) (by simp; omega) _
      have q3 := bk_of b3
      have q2 := bk_of b2
      have hls := sp_length d
      have K2 := Lib.hid b2
      have KB := Lib.hid bb
      clear b3 b2 bb es y1 y2 y3 hbel
      go_wp2_with fail
      refine ret_i35 rfl rfl (blk_setRow K2.out (cl .i64 (sp d))) hls rfl ⟨rfl, bel_setRow KB.out (by omega) _⟩
end Go.Proofs.Ytlgpipdeckdmjaa.Ref
