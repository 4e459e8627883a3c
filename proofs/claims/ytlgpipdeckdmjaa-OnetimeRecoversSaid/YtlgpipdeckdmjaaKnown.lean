/-
  The examples of the document hold.
-/
import Derived.Test.YtlgpipdeckdmjaaRef7
set_option linter.unusedVariables false
set_option linter.unusedSimpArgs false
namespace Go.Proofs.Ytlgpipdeckdmjaa.Known
open Go.RowKit Base Reg Types Slice Sha
open Go.Proofs.Ytlgpipdeckdmjaa.One
def za : List Nat := zs 16
def zb : List Nat := (zs 16).set 15 1
theorem by_mem {l : List Nat} (h : l.all (· < 256) = true) : By l := by
  intro j
  rw [List.getD_eq_getElem?_getD]
  cases hj : l[j]? with
  | none => decide
  | some x =>
    have := List.all_eq_true.1 h x (List.mem_of_getElem? hj)
    simpa using this
theorem by_za : By za := by_mem (by decide)
theorem by_zb : By zb := by_mem (by decide)
theorem lw_ba : lwr zb za = some 31 := by kernel_rfl
theorem lw_ab : lwr za zb = some 33 := by kernel_rfl
set_option maxRecDepth 20000 in
set_option maxHeartbeats 4000000 in
theorem known (w : World) : Calls Try.prog 16 #[] w fun e w' => e = .returned (.bool true) ∧ Below w.heap.size w w' := by
  go_enter Try.func16, Try.ntmps16
  go_wp2_with fail
  have e1 : (((w.alloc (.cells (cl .u8 (zs 16)).toArray 22)).alloc (.cells ((cl .u8 (zs 16)).set 15 (.int .u8 1)).toArray 22))) = ((w.alloc (.cells (cl .u8 za).toArray 22)).alloc (.cells (cl .u8 zb).toArray 22)) := rfl
  rw [e1]
  obtain ⟨W0, hW0⟩ : ∃ W0, W0 = ((w.alloc (.cells (cl .u8 za).toArray 22)).alloc (.cells (cl .u8 zb).toArray 22)) := ⟨_, rfl⟩
  have hA : blk W0 w.heap.size (cl .u8 za) 22 := by rw [hW0]; exact blk_alloc (blk_new _ _ _) _
  have hB : blk W0 (w.heap.size + 1) (cl .u8 zb) 22 := by rw [hW0]; exact blk_at _ _ _ (by simp only [alloc_size])
  have hbel : Below w.heap.size w W0 := by rw [hW0]; exact ((Below.refl w.heap.size w).alloc (Nat.le_refl _) _).alloc (by simp only [alloc_size]; omega) _
  rw [← hW0]
  clear e1 hW0
  have hza : za.length = 16 := rfl
  have hzb : zb.length = 16 := rfl
  refine (split W0 za rfl by_za).mono ?_
  rintro e w1 ⟨rfl, hb1⟩
  have A1 := blk_keep hA hb1
  have B1 := blk_keep hB hb1
  have L1 := bel_trans hbel hb1 hbel.size
  have a1 := bk_of A1
  have b1 := bk_of B1
  have l1 := blk_lt A1
  have m1 := blk_lt B1
  have s1 := sp_length za
  have HA1 := Lib.hid A1
  have HB1 := Lib.hid B1
  have HL1 := Lib.hid L1
  clear hA hB hbel hb1 A1 B1 L1
  go_wp2_with fail
  have A2 := blk_alloc HA1.out (.cells (cl .i64 (sp za)).toArray 27)
  have B2 := blk_alloc HB1.out (.cells (cl .i64 (sp za)).toArray 27)
  have D2 := blk_new w1 (cl .i64 (sp za)) 27
  have L2 := HL1.out.alloc HL1.out.size (.cells (cl .i64 (sp za)).toArray 27)
  generalize w1.alloc (.cells (cl .i64 (sp za)).toArray 27) = W1 at A2 B2 D2 L2 ⊢
  refine (lower W1 zb za rfl rfl by_zb by_za).mono ?_
  rintro e w2 ⟨rfl, hb2⟩
  rw [lw_ba]
  have A3 := blk_keep A2 hb2
  have B3 := blk_keep B2 hb2
  have D3 := blk_keep D2 hb2
  have L3 := bel_trans L2 hb2 L2.size
  have a3 := bk_of A3
  have b3 := bk_of B3
  have HA3 := Lib.hid A3
  have HB3 := Lib.hid B3
  have HD3 := Lib.hid D3
  have HL3 := Lib.hid L3
  clear A2 B2 D2 L2 hb2 A3 B3 D3 L3 a1 b1 HA1 HB1 HL1
  unfold lwV
  go_wp2_with fail
  refine (lower w2 za zb rfl rfl by_za by_zb).mono ?_
  rintro e w4 ⟨rfl, hb4⟩
  rw [lw_ab]
  have A5 := blk_keep HA3.out hb4
  have B5 := blk_keep HB3.out hb4
  have D5 := blk_keep HD3.out hb4
  have L5 := bel_trans HL3.out hb4 HL3.out.size
  have a5 := bk_of A5
  have b5 := bk_of B5
  have HA5 := Lib.hid A5
  have HB5 := Lib.hid B5
  have HD5 := Lib.hid D5
  have HL5 := Lib.hid L5
  clear hb4 A5 B5 D5 L5 a3 b3 HA3 HB3 HD3 HL3
  unfold lwV
  go_wp2_with fail
  refine (Step_in w4 1 2 3 za rfl (by omega) (by omega) (by omega)).mono ?_
  rintro e w6 ⟨rfl, hb6⟩
  have A7 := blk_keep HA5.out hb6
  have B7 := blk_keep HB5.out hb6
  have D7 := blk_keep HD5.out hb6
  have L7 := bel_trans HL5.out hb6 HL5.out.size
  have a7 := bk_of A7
  have b7 := bk_of B7
  have sl := stp_length 1 2 3 za
  have HA7 := Lib.hid A7
  have HB7 := Lib.hid B7
  have HD7 := Lib.hid D7
  have HL7 := Lib.hid L7
  clear hb6 A7 B7 D7 L7 a5 b5 HA5 HB5 HD5 HL5
  obtain ⟨ι, F, hF, hin⟩ := class_of (fun W => blk W w.heap.size (cl .u8 za) 22 ∧ blk W w1.heap.size (cl .i64 (sp za)) 27 ∧ blk W w6.heap.size (cl .u8 (stp 1 2 3 za)) 22 ∧ Below w.heap.size w W)
  have h0 := hin (w6.alloc (.cells (cl .u8 (stp 1 2 3 za)).toArray 22)).drew ⟨blk_drew (blk_alloc HA7.out _), blk_drew (blk_alloc HD7.out _), blk_drew (blk_new _ _ _), (HL7.out.alloc HL7.out.size _).drew⟩
  have hne : Nonempty ι := ⟨h0.choose⟩
  have q0 : ∀ i, bk (F i) w.heap.size = some (cl .u8 za).toArray := fun i => bk_of (hF i).1
  have q1 : ∀ i, bk (F i) w6.heap.size = some (cl .u8 (stp 1 2 3 za)).toArray := fun i => bk_of (hF i).2.2.1
  have r1 : ∀ i, (F i).cell? ⟨w1.heap.size, 31, none⟩ = some (.int .i64 0) := fun i => (blk_cell (hF i).2.1 31).trans (by kernel_rfl)
  have r2 : ∀ i, (F i).cell? ⟨w1.heap.size, 32, none⟩ = some (.int .i64 1) := fun i => (blk_cell (hF i).2.1 32).trans (by kernel_rfl)
  have r3 : ∀ i, (F i).cell? ⟨w1.heap.size, 33, none⟩ = some (.int .i64 14) := fun i => (blk_cell (hF i).2.1 33).trans (by kernel_rfl)
  have r4 : ∀ i, (F i).cell? ⟨w1.heap.size, 34, none⟩ = some (.int .i64 0) := fun i => (blk_cell (hF i).2.1 34).trans (by kernel_rfl)
  have HF := Lib.hid hF
  have HI := Lib.hid hin
  have H0 := Lib.hid h0
  clear hF hin h0 a7 b7
  go_wp2_with fail
  refine wp_region_all F (by kernel_rfl) (by kernel_rfl) H0.out ?_
  repeat (go_big_quiet_step ((go_at_call 24; (exact quiet_below HF.out HI.out (fun _ _ h hb => ⟨blk_keep h.1 hb, blk_keep h.2.1 hb, blk_keep h.2.2.1 hb, bel_trans h.2.2.2 hb h.2.2.2.size⟩) (Ref.step _ 1 2 3 za rfl (by omega) (by omega) (by omega))))))
  refine wpQuiet_nil ?_
  intro i
  go_wp2_with fail
  go_ret
  exact ⟨rfl, (HF.out i).2.2.2⟩
theorem isin (n m : Int) (w : World) : Calls Try.prog 20 #[.int .i64 n, .int .i64 m] w fun e w' => e = .returned (.bool (decide (0 ≤ n ∧ n ≤ m))) ∧ w = w' := by
  go_enter Try.func20, Try.ntmps20
  by_cases h : 0 ≤ n
  · go_wp2
    go_ret
    exact ⟨by simp [h], rfl⟩
  · go_wp2
    go_ret
    exact ⟨by simp; omega, rfl⟩
end Go.Proofs.Ytlgpipdeckdmjaa.Known
