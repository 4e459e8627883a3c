/-
  The reference of layer 7: All, Compress.
-/
import Derived.Test.YtlgpipdeckdmjaaRef7
import Derived.Test.YtlgpipdeckdmjaaOne9
set_option linter.unusedVariables false
set_option linter.unusedSimpArgs false
namespace Go.Proofs.Ytlgpipdeckdmjaa.Ref
open Go.RowKit Base Reg Types Slice Sha Law
open Go.Proofs.Ytlgpipdeckdmjaa.One
theorem all_calls (w : World) (n : Nat) : Calls Try.prog 41 #[.int .i64 (n : Int)] w fun e w' => e = .returned (agg .i64 ((List.range 35).map fun _ => n)) ∧ Below w.heap.size w w' := by
  go_enter Try.func41, Try.ntmps41
  go_wp2_with fail
  go_loopw [4] (fun i wr => ∃ k : Nat, k ≤ 35 ∧ i = .int .i64 k ∧ blk wr w.heap.size (cl .i64 (zs 35)) 27 ∧ blk wr (w.heap.size + 1) (cl .i64 (upto 35 k fun _ => n)) 27 ∧ Below w.heap.size w wr) (fun i _ => 35 - (intOf i).toNat)
  case atStart => exact ⟨0, by omega, rfl, blk_alloc (blk_new _ _ _) _, by rw [upto_zero]; exact blk_at _ _ _ (by simp only [alloc_size]), ((Below.refl _ _).alloc (Nat.le_refl _) _).alloc (by simp only [alloc_size]; omega) _⟩
  case round =>
    obtain ⟨k, hk, rfl, hb1, hb2, hbel⟩ := hrel
    have hl : (upto 35 k fun _ => n).length = 35 := upto_length _ _ _
    by_cases hk2 : k < 35
    · have cb := (blk_cell hb2 k).trans (cl_get _ _ _ (by omega))
      have fb := blk_free hb2 k
      have HB1 := Lib.hid hb1
      have HB2 := Lib.hid hb2
      clear hb1 hb2
      go_wp2_with fail
      refine ⟨⟨k + 1, by omega, by go_num, blk_setCell_ne HB1.out _ (by simp), ?_, bel_setCell hbel (by simp) _⟩, by simp [intOf]; omega⟩
      have h := blk_setCell HB2.out k (.int .i64 (n : Int))
      rw [cl_set, upto_set 35 k (fun _ => n) hk2] at h
      exact h
    · obtain rfl : k = 35 := by omega
      rw [upto_full] at hb2
      have hl : ((List.range 35).map fun _ => n).length = 35 := by simp
      have hb3 := bk_of hb1
      have hb4 := bk_of hb2
      go_wp2_with fail
      refine ret_i35 rfl rfl (blk_setRow hb1 (cl .i64 ((List.range 35).map fun _ => n))) hl rfl ⟨rfl, bel_setRow hbel (Nat.le_refl _) _⟩
set_option maxRecDepth 20000 in
set_option maxHeartbeats 4000000 in
theorem compress (w : World) (leaf : Nat) (E : List Nat) (hE : E.length = 560) (hleaf : leaf ≤ 65535) :
    Calls Try.prog 35 #[.int .i64 (leaf : Int), agg .u8 E] w fun e w' => e = .returned (agg .u8 (cmp leaf E)) ∧ Below w.heap.size w w' := by
  go_enter Try.func35, Try.ntmps35
  go_wp2_with fail
  refine (head _ 4 leaf hleaf (by omega)).mono ?_
  rintro e w1 ⟨v1, rfl, ho1, hb1⟩
  have hA := blk_keep (blk_alloc (blk_new w (cl .u8 E) 72) (.cells (cl .u8 (zs 16)).toArray 36)) hb1
  have hR := blk_keep (blk_at (w.alloc (.cells (cl .u8 E).toArray 72)) (cl .u8 (zs 16)) 36 (b := w.heap.size + 1) (by simp only [alloc_size])) hb1
  have hl1 := bel_trans (((Below.refl w.heap.size w).alloc (Nat.le_refl _) (.cells (cl .u8 E).toArray 72)).alloc (by simp only [alloc_size]; omega) (.cells (cl .u8 (zs 16)).toArray 36)) hb1 (by simp only [alloc_size]; omega)
  have hs1 := hb1.size
  simp only [alloc_size] at hs1 ho1
  clear hb1
  go_wp2_with fail
  go_loopw [5, 6] (fun v i wr => ∃ k : Nat, k ≤ 35 ∧ i = .int .i64 k ∧ Own wr (w.heap.size + 1 + 1) v (hd 4 leaf ++ E.take (16 * k)) ∧ blk wr w.heap.size (cl .u8 E) 72 ∧ blk wr (w.heap.size + 1) (cl .u8 (zs 16)) 36 ∧ Below w.heap.size w wr ∧ w.heap.size + 1 + 1 ≤ wr.heap.size) (fun _ i _ => 35 - (intOf i).toNat)
  case atStart => exact ⟨0, by omega, rfl, by simpa using ho1, hA, hR, hl1, hs1⟩
  case round =>
    clear ho1 hA hR hl1 hs1
    obtain ⟨k, hk, rfl, ho, hA, hB, hbel, hsz⟩ := hrel
    by_cases hk2 : k < 35
    · have HO := Lib.hid ho
      have HA := Lib.hid hA
      have HB := Lib.hid hB
      have hl16 : ((E.drop (k * 16)).take 16).length = 16 := by simp; omega
      have hsl : Sl wr (.slice (some ⟨w.heap.size, k * 16, none⟩) 16 16) ((E.drop (k * 16)).take 16) := sl_blk hA hl16.symm (Nat.le_refl _) (fun j hj => by
        rw [hl16] at hj
        rw [cl_get _ _ _ (by omega), List.getD_eq_getElem?_getD, List.getD_eq_getElem?_getD, List.getElem?_take, if_pos hj, List.getElem?_drop])
      have HS := Lib.hid hsl
      clear ho hA hB hsl
      go_wp2_with (
        at_builtin
        refine wpList_append_bytes rfl (.tmp 13) (.tmp 16) rfl rfl rfl HO.out HS.out (by rw [hl16]; simp [hd]; omega) hsz ?_
        intro v1 w2 ho1 hg1)
      have hb2 := hbel.grown hg1 hbel.size (fun k hk => by have := own_block HO.out k (by simpa [Act.eval] using hk); omega)
      have hA2 := blk_grown HA.out hg1 (by intro e; have := own_block HO.out w.heap.size (by simpa [Act.eval] using e.symm); omega)
      have hB2 := blk_grown HB.out hg1 (by intro e; have := own_block HO.out (w.heap.size + 1) (by simpa [Act.eval] using e.symm); omega)
      have hs2 := hg1.size
      rw [List.append_assoc, take_more] at ho1
      clear hg1
      go_roundw
      case rel => exact ⟨k + 1, by omega, by go_num, ho1, hA2, hB2, hb2, by omega⟩
      case measure => simp [intOf]; omega
    · obtain rfl : k = 35 := by omega
      rw [List.take_of_length_le (by omega)] at ho
      have HO := Lib.hid (SlC.of_own ho)
      have HB := Lib.hid hB
      clear ho hB
      go_wp2_with fail
      refine (half wr _ _ HO.out (by simp [hd]; omega)).mono ?_
      rintro e w3 ⟨rfl, hb3⟩
      have hB3 := blk_keep HB.out hb3
      have k3 := bk_of hB3
      have lc := cmp_length leaf E
      have hbel3 := bel_trans hbel hb3 hbel.size
      rw [show hf (hd 4 leaf ++ E) = cmp leaf E from rfl]
      clear hb3
      go_wp2_with fail
      refine ret_rv rfl rfl (blk_setRow hB3 (cl .u8 (cmp leaf E))) lc rfl ⟨rfl, bel_setRow hbel3 (by omega) _⟩
end Go.Proofs.Ytlgpipdeckdmjaa.Ref
