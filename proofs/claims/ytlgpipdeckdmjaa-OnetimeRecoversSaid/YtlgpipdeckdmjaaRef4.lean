/-
  The reference of layer 7: Half, head.
-/
import Derived.Test.YtlgpipdeckdmjaaOne5
set_option linter.unusedVariables false
set_option linter.unusedSimpArgs false
namespace Go.Proofs.Ytlgpipdeckdmjaa.Ref
open Go.RowKit Base Reg Types Slice Sha
open Go.Proofs.Ytlgpipdeckdmjaa.One
theorem hf_map (M : List Nat) : (List.range 16).map (fun j => (sha M).getD j 0) = hf M := by
  apply List.ext_getElem
  · rw [hf_length]; simp
  · intro i h1 h2
    have h : i < 16 := by simpa using h1
    have h3 : i < (sha M).length := by rw [sha_length]; omega
    simp only [List.getElem_map, List.getElem_range, hf, List.getElem_take]
    exact getD_at _ _ h3
theorem half (w : World) (M : List Nat) (x : Value) (hx : Sl w x M) (hM : M.length ≤ 1000000) :
    Calls Try.prog 64 #[x] w fun e w' => e = .returned (agg .u8 (hf M)) ∧ Below w.heap.size w w' := by
  have H := Lib.hid hx
  clear hx
  have hl := sha_length M
  go_enter Try.func64, Try.ntmps64
  go_wp2_with fail
  refine (Ref.sum_calls _ M x (H.out.keep ((Below.refl _ _).alloc (Nat.le_refl _) _)) hM).mono ?_
  rintro e w1 ⟨rfl, hb1⟩
  have hB1 := Lib.hid (blk_keep (blk_new w (cl .u8 (zs 16)) 36) hb1)
  have hbel1 := Lib.hid (bel_trans ((Below.refl _ w).alloc (Nat.le_refl _) _) hb1 (by simp only [alloc_size]; omega))
  clear hb1
  go_wp2_with fail
  go_loopw [5] (fun i wr => ∃ k : Nat, k ≤ 16 ∧ i = .int .i64 k ∧ blk wr w.heap.size (cl .u8 (zs 16)) 36 ∧ blk wr w1.heap.size (cl .u8 (sha M)) 31 ∧ blk wr (w1.heap.size + 1) (cl .u8 (upto 16 k fun j => (sha M).getD j 0)) 36 ∧ Below w.heap.size w wr) (fun i _ => 16 - (intOf i).toNat)
  case atStart =>
    exact ⟨0, by omega, rfl, blk_alloc (blk_alloc hB1.out _) _, blk_alloc (blk_new _ _ _) _, by rw [upto_zero]; exact blk_at _ _ _ (by simp only [alloc_size]), (hbel1.out.alloc hbel1.out.size _).alloc (by have := hbel1.out.size; simp only [alloc_size]; omega) _⟩
  case round =>
    obtain ⟨k, hk, rfl, hb1, hb2, hb3, hbel⟩ := hrel
    have hl2 : (upto 16 k fun j => (sha M).getD j 0).length = 16 := upto_length _ _ _
    have hw1 := hbel1.out.size
    have hlt := blk_lt hB1.out
    by_cases hk2 : k < 16
    · have c1 : wr.cell? ⟨w1.heap.size, k, none⟩ = some (.int .u8 (((sha M).getD k 0 : Nat) : Int)) := (blk_cell hb2 k).trans (cl_get _ _ _ (by omega))
      have c2 : wr.cell? ⟨w1.heap.size + 1, k, none⟩ = some (.int .u8 (((upto 16 k fun j => (sha M).getD j 0).getD k 0 : Nat) : Int)) := (blk_cell hb3 k).trans (cl_get _ _ _ (by omega))
      have f2 := blk_free hb3 k
      obtain ⟨u, hu⟩ : ∃ u, u = (sha M).getD k 0 := ⟨_, rfl⟩
      rw [← hu] at c1
      have HU := Lib.hid hu
      have H1 := Lib.hid hb1
      have H2 := Lib.hid hb2
      have H3 := Lib.hid hb3
      clear hb1 hb2 hb3 hu
      go_wp2_with fail
      refine ⟨⟨k + 1, by omega, by go_num, blk_setCell_ne H1.out _ (by simp; omega), blk_setCell_ne H2.out _ (by simp), ?_, bel_setCell hbel (by simp; omega) _⟩, by simp [intOf]; omega⟩
      have h := blk_setCell H3.out k (.int .u8 ((u : Nat) : Int))
      rw [HU.out, cl_set, upto_set 16 k (fun j => (sha M).getD j 0) hk2, ← HU.out] at h
      exact h
    · obtain rfl : k = 16 := by omega
      rw [upto_full, hf_map] at hb3
      have hl3 := hf_length M
      have q1 := bk_of hb1
      have q3 := bk_of hb3
      have H1 := Lib.hid hb1
      clear hb1 hb2 hb3 hl2
      go_wp2_with fail
      refine ret_rv rfl rfl (blk_setRow H1.out (cl .u8 (hf M))) hl3 rfl ⟨rfl, bel_setRow hbel (Nat.le_refl _) _⟩
theorem head (w : World) (tag leaf : Nat) (hleaf : leaf ≤ 65535) (htag : tag < 256) :
    Calls Try.prog 65 #[.int .u8 (tag : Int), .int .i64 (leaf : Int)] w fun e w' => ∃ v, e = .returned v ∧ Own w' w.heap.size v (hd tag leaf) ∧ Below w.heap.size w w' := by
  go_enter Try.func65, Try.ntmps65
  go_wp2_with fail
  have ehd : (#[.int .u8 (tag : Int), .int .u8 ((leaf : Int) / 16777216), .int .u8 ((leaf : Int) / 65536 % 256), .int .u8 ((leaf : Int) / 256 % 256), .int .u8 ((leaf : Int) % 256)] : Array Value) = (cl .u8 (hd tag leaf)).toArray := by
    have h1 : (leaf : Int) / 16777216 = ((leaf / 16777216 % 256 : Nat) : Int) := by omega
    have h2 : (leaf : Int) / 65536 % 256 = ((leaf / 65536 % 256 : Nat) : Int) := by omega
    have h3 : (leaf : Int) / 256 % 256 = ((leaf / 256 % 256 : Nat) : Int) := by omega
    have h4 : (leaf : Int) % 256 = ((leaf % 256 : Nat) : Int) := by omega
    rw [h1, h2, h3, h4]
    rfl
  rw [ehd]
  clear ehd
  go_ret
  exact ⟨_, rfl, own_bytes w (hd tag leaf) (by simp [hd]), (Below.refl _ _).alloc (Nat.le_refl _) _⟩
end Go.Proofs.Ytlgpipdeckdmjaa.Ref
