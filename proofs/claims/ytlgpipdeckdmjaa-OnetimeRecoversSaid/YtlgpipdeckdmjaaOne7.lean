/-
  onetime: the public value of ends.
-/
import Derived.Test.YtlgpipdeckdmjaaOne6
set_option linter.unusedVariables false
set_option linter.unusedSimpArgs false
namespace Go.Proofs.Ytlgpipdeckdmjaa.One
open Go.RowKit Base Reg Types Slice Sha
theorem own_nil (w : World) (base : Nat) : Own w base (.slice none 0 0) [] := ⟨rfl, .inl ⟨rfl, rfl⟩⟩
theorem take_more (E : List Nat) (k : Nat) : E.take (16 * k) ++ (E.drop (k * 16)).take 16 = E.take (16 * (k + 1)) := by
  rw [Nat.mul_comm k 16, ← List.take_add]
  congr 1
theorem rd_ix_bs (x i : Value) : Instr.index 55 x i = ixA 55 x i := rfl
theorem ix_bs (E : List Nat) (k : Nat) (w : World) (hE : E.length = 560) (hk : k < 35) : (ixA 55 (agg .u8 E) (.int .i64 (k : Int))).run Try.prog w = .ok (agg .u8 ((E.drop (k * 16)).take 16)) w := by
  have hu : Try.prog.underlying 55 = some (.array 35 22) := by kernel_rfl
  have he : Try.prog.underlying 22 = some (.array 16 5) := by kernel_rfl
  obtain ⟨inf, hq, hs⟩ : ∃ inf, Try.prog.info? 22 = some inf ∧ inf.size = 16 := ⟨(Try.prog.info? 22).get (by kernel_rfl), by kernel_rfl, by kernel_rfl⟩
  have h1 : (k : Int) < 35 := by omega
  simp [ixA, Instr.index, asIntOf, run_underlying hu, h1, sizeOf, typeInfo, hq, hs, part, isAgg, run_underlying he]
  rw [if_pos hk, cl_drop, cl_take]
attribute [local go_sem ↓ high] rd_ix_bs
attribute [local go_sem] ix_bs
set_option maxRecDepth 20000 in
set_option maxHeartbeats 4000000 in
theorem compress (w : World) (leaf : Nat) (E : List Nat) (hE : E.length = 560) (hleaf : leaf ≤ 65535) :
    Calls Try.prog 77 #[.int .i64 (leaf : Int), agg .u8 E] w fun e w' => e = .returned (agg .u8 (cmp leaf E)) ∧ Below w.heap.size w w' := by
  go_enter Try.func77, Try.ntmps77
  go_wp2_with fail
  go_loopw [5, 9] (fun v i wr => ∃ k : Nat, k ≤ 35 ∧ i = .int .i64 k ∧ Own wr (w.heap.size + 2) v (E.take (16 * k)) ∧ blk wr (w.heap.size + 1) (cl .u8 (zs 16)) 22 ∧ Below w.heap.size w wr ∧ w.heap.size + 2 ≤ wr.heap.size) (fun _ i _ => 35 - (intOf i).toNat)
  case atStart => exact ⟨0, by omega, rfl, own_nil _ _, blk_at _ _ _ (by simp only [alloc_size]), ((Below.refl _ _).alloc (Nat.le_refl _) _).alloc (by simp only [alloc_size]; omega) _, by simp only [alloc_size]; omega⟩
  case round =>
    obtain ⟨k, hk, rfl, ho, hB, hbel, hsz⟩ := hrel
    by_cases hk2 : k < 35
    · have HO := Lib.hid ho
      have HB := Lib.hid hB
      have hl16 : ((E.drop (k * 16)).take 16).length = 16 := by simp; omega
      clear ho hB
      obtain ⟨x, hx⟩ : ∃ x, x = (E.drop (k * 16)).take 16 := ⟨_, rfl⟩
      have qx := ix_bs E k wr hE hk2
      rw [← hx] at qx hl16
      have HX := Lib.hid hx
      clear hx
      go_wp2_with (
        at_builtin
        refine wpList_append_bytes rfl (.tmp 12) (.tmp 13) rfl rfl rfl (own_keep HO.out ((Below.refl _ _).alloc (Nat.le_refl _) _)) (sl_whole (blk_new wr (cl .u8 x) 22) hl16.symm (Nat.le_refl _)) (by rw [hl16]; simp; omega) (by simp only [alloc_size]; omega) ?_
        intro v1 w2 ho1 hg1)
      have hb2 := (hbel.alloc hbel.size (.cells (cl .u8 x).toArray 22)).grown hg1 (by simp only [alloc_size]; omega) (fun k hk => by have := own_block HO.out k (by simpa [Act.eval] using hk); omega)
      have hB2 := blk_grown (blk_alloc HB.out (.cells (cl .u8 x).toArray 22)) hg1 (by intro e; have := own_block HO.out (w.heap.size + 1) (by simpa [Act.eval] using e.symm); omega)
      have hs2 := hg1.size
      rw [alloc_size] at hs2
      rw [HX.out, take_more] at ho1
      clear hg1
      go_roundw
      case rel => exact ⟨k + 1, by omega, by go_num, ho1, hB2, hb2, by omega⟩
      case measure => simp [intOf]; omega
    · obtain rfl : k = 35 := by omega
      rw [List.take_of_length_le (by omega)] at ho
      have HO := Lib.hid (SlC.of_own ho)
      have HB := Lib.hid hB
      obtain ⟨Av, cv, rfl⟩ := own_slice ho
      clear ho hB
      go_wp2_with fail
      rw [hE] at HO
      have HO2 := Lib.hid (HO.out.keep ((Below.refl wr.heap.size wr).alloc (Nat.le_refl _) (.cells #[.slice Av 560 cv] 99)))
      have hsl : Sl (wr.alloc (.cells #[.slice Av 560 cv] 99)) (.slice Av 560 cv) E := by
        unfold Sl
        rw [hE]
        exact HO2.out
      refine (hash1 (tag := 4) (blk_new wr [.slice Av 560 cv] 99) hsl (by omega) (by omega) (by omega)).mono ?_
      rintro e w1 ⟨rfl, hb1⟩
      have hB1 := blk_keep (blk_alloc HB.out (.cells #[.slice Av 560 cv] 99)) hb1
      have hk1 := bk_of hB1
      have hfl := cmp_length leaf E
      have hbel1 := bel_trans (hbel.alloc hbel.size (.cells #[.slice Av 560 cv] 99)) hb1 (by have := hbel.size; simp only [alloc_size]; omega)
      rw [show hf (hd 4 leaf ++ E) = cmp leaf E from rfl]
      clear hb1 hsl
      go_wp2_with fail
      refine ret_b16 rfl rfl (blk_setRow hB1 (cl .u8 (cmp leaf E))) hfl rfl ⟨rfl, bel_setRow hbel1 (by omega) _⟩
end Go.Proofs.Ytlgpipdeckdmjaa.One
