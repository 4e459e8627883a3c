/-
  onetime: Sign, Public, Verify.
-/
import Derived.Test.YtlgpipdeckdmjaaOne10
set_option linter.unusedVariables false
set_option linter.unusedSimpArgs false
namespace Go.Proofs.Ytlgpipdeckdmjaa.One
open Go.RowKit Base Reg Types Slice Sha
def sgnF (seed d : List Nat) (leaf c : Nat) : List Nat := adv leaf c 0 (spd d c) (sec seed leaf c)
theorem sgnF_length (seed d : List Nat) (leaf c : Nat) : (sgnF seed d leaf c).length = 16 := adv_length _ _ _ _ _ (sec_length _ _ _)
def pubF (seed : List Nat) (leaf c : Nat) : List Nat := adv leaf c 0 15 (sec seed leaf c)
theorem pubF_length (seed : List Nat) (leaf c : Nat) : (pubF seed leaf c).length = 16 := adv_length _ _ _ _ _ (sec_length _ _ _)
set_option maxRecDepth 20000 in
theorem Sign_in (w : World) (seed d : List Nat) (leaf : Nat) (hs : seed.length = 32) (hd : d.length = 16) (bd : By d) (hleaf : leaf ≤ 65535) :
    Calls Try.prog 42 #[agg .u8 seed, .int .i64 (leaf : Int), agg .u8 d] w fun e w' => e = .returned (.tuple #[agg .u8 (flat (sgnF seed d leaf) 35), .int .i64 0]) ∧ Below w.heap.size w w' := by
  have i1 : decide ((0 : Int) ≤ (leaf : Int) ∧ (leaf : Int) ≤ 65535) = true := by simp; omega
  have I1 := Lib.hid i1
  clear i1
  go_enter Try.func42, Try.ntmps42
  go_wp2_with fail
  refine (within leaf 65535 _).mono ?_
  rintro e w0 ⟨rfl, rfl⟩
  rw [I1.out]
  go_wp2_with fail
  obtain ⟨W0, hW0⟩ : ∃ W0, W0 = ((((w.alloc (.cells (cl .u8 seed).toArray 31)).alloc (.cells #[.int .i64 (leaf : Int)] 3)).alloc (.cells (cl .u8 d).toArray 22)).alloc (.cells (cl .u8 (zs 560)).toArray 68)) := ⟨_, rfl⟩
  have b0 : blk W0 w.heap.size (cl .u8 seed) 31 := by rw [hW0]; exact blk_alloc (blk_alloc (blk_alloc (blk_new _ _ _) _) _) _
  have b1 : blk W0 (w.heap.size + 1) [.int .i64 (leaf : Int)] 3 := by rw [hW0]; exact blk_alloc (blk_alloc (blk_at _ [.int .i64 (leaf : Int)] _ (by simp only [alloc_size])) _) _
  have b3 : blk W0 (w.heap.size + 1 + 1 + 1) (cl .u8 (zs 560)) 68 := by rw [hW0]; exact blk_at _ _ _ (by simp only [alloc_size])
  have bl : Below w.heap.size w W0 := by rw [hW0]; exact ((((Below.refl w.heap.size w).alloc (Nat.le_refl _) _).alloc (by simp only [alloc_size]; omega) _).alloc (by simp only [alloc_size]; omega) _).alloc (by simp only [alloc_size]; omega) _
  rw [← hW0]
  clear hW0
  refine (split W0 d hd bd).mono ?_
  rintro e w1 ⟨rfl, hb1⟩
  have A0 := Lib.hid (blk_alloc (blk_keep b0 hb1) (.cells (cl .i64 (sp d)).toArray 27))
  have A1 := Lib.hid (blk_alloc (blk_keep b1 hb1) (.cells (cl .i64 (sp d)).toArray 27))
  have A3 := Lib.hid (blk_alloc (blk_keep b3 hb1) (.cells (cl .i64 (sp d)).toArray 27))
  have AD := Lib.hid (blk_new w1 (cl .i64 (sp d)) 27)
  have AL := Lib.hid ((bel_trans bl hb1 bl.size).alloc (by have := bel_trans bl hb1 bl.size; exact this.size) (.cells (cl .i64 (sp d)).toArray 27))
  have ld := sp_length d
  clear hb1 b0 b1 b3 bl
  go_wp2_with fail
  refine (each_sign _ (sgnF seed d leaf) _ _ _ (sgnF_length seed d leaf) (fun c hc W hb => by
    have h := sign_of W seed (sp d) leaf c (w.heap.size + 1) w1.heap.size w.heap.size ld (sp_le bd) hs hleaf hc (blk_keep A1.out hb) (blk_keep AD.out hb) (blk_keep A0.out hb)
    rw [sp_getD d c hc] at h
    exact h)).mono ?_
  rintro e w2 ⟨rfl, hb2⟩
  have B3 := blk_keep A3.out hb2
  have k3 := bk_of B3
  have BL := bel_trans AL.out hb2 AL.out.size
  have lf := flat_length (sgnF_length seed d leaf) 35
  clear hb2
  go_wp2_with fail
  refine ret2_sig rfl rfl rfl (blk_setRow B3 (cl .u8 (flat (sgnF seed d leaf) 35))) lf rfl ⟨rfl, bel_setRow BL (by omega) _⟩
set_option maxRecDepth 100000 in
theorem Sign_out (w : World) (seed d : List Nat) (leaf : Int) (hs : seed.length = 32) (hd : d.length = 16) (ho : ¬ (0 ≤ leaf ∧ leaf ≤ 65535)) :
    Calls Try.prog 42 #[agg .u8 seed, .int .i64 leaf, agg .u8 d] w fun e w' => e = .returned (.tuple #[agg .u8 (zs 560), .int .i64 2]) ∧ Below w.heap.size w w' := by
  have hz : Try.zeroCells68 = (cl .u8 (zs 560)).toArray := by kernel_rfl
  go_enter Try.func42, Try.ntmps42
  go_wp2_with fail
  refine (within leaf 65535 _).mono ?_
  rintro e w0 ⟨rfl, rfl⟩
  rw [decide_eq_false ho]
  clear ho
  go_wp2_with fail
  refine ret2_sig rfl rfl rfl (blk_at _ (cl .u8 (zs 560)) 68 (by simp only [alloc_size])) rfl rfl ⟨rfl, ((((Below.refl w.heap.size w).alloc (Nat.le_refl _) _).alloc (by simp only [alloc_size]; omega) _).alloc (by simp only [alloc_size]; omega) _).alloc (by simp only [alloc_size]; omega) _⟩
set_option maxRecDepth 20000 in
theorem Public_in (w : World) (seed : List Nat) (leaf : Nat) (hs : seed.length = 32) (hleaf : leaf ≤ 65535) :
    Calls Try.prog 38 #[agg .u8 seed, .int .i64 (leaf : Int)] w fun e w' => e = .returned (.tuple #[agg .u8 (cmp leaf (flat (pubF seed leaf) 35)), .int .i64 0]) ∧ Below w.heap.size w w' := by
  have i1 : decide ((0 : Int) ≤ (leaf : Int) ∧ (leaf : Int) ≤ 65535) = true := by simp; omega
  have I1 := Lib.hid i1
  clear i1
  go_enter Try.func38, Try.ntmps38
  go_wp2_with fail
  refine (within leaf 65535 _).mono ?_
  rintro e w0 ⟨rfl, rfl⟩
  rw [I1.out]
  go_wp2_with fail
  obtain ⟨W0, hW0⟩ : ∃ W0, W0 = (((w.alloc (.cells (cl .u8 seed).toArray 31)).alloc (.cells #[.int .i64 (leaf : Int)] 3)).alloc (.cells (cl .u8 (zs 16)).toArray 22)) := ⟨_, rfl⟩
  have b0 : blk W0 w.heap.size (cl .u8 seed) 31 := by rw [hW0]; exact blk_alloc (blk_alloc (blk_new _ _ _) _) _
  have b1 : blk W0 (w.heap.size + 1) [.int .i64 (leaf : Int)] 3 := by rw [hW0]; exact blk_alloc (blk_at _ [.int .i64 (leaf : Int)] _ (by simp only [alloc_size])) _
  have b2 : blk W0 (w.heap.size + 1 + 1) (cl .u8 (zs 16)) 22 := by rw [hW0]; exact blk_at _ _ _ (by simp only [alloc_size])
  have bl : Below w.heap.size w W0 := by rw [hW0]; exact (((Below.refl w.heap.size w).alloc (Nat.le_refl _) _).alloc (by simp only [alloc_size]; omega) _).alloc (by simp only [alloc_size]; omega) _
  rw [← hW0]
  clear hW0
  obtain ⟨ι, F, hF, hin⟩ := class_of (fun W => blk W w.heap.size (cl .u8 seed) 31 ∧ blk W (w.heap.size + 1) [.int .i64 (leaf : Int)] 3 ∧ blk W (w.heap.size + 1 + 1) (cl .u8 (zs 16)) 22 ∧ Below w.heap.size w W)
  have h0 := hin W0.drew ⟨blk_drew b0, blk_drew b1, blk_drew b2, bl.drew⟩
  have hne : Nonempty ι := ⟨h0.choose⟩
  have q0 : ∀ i, (F i).cell? ⟨w.heap.size + 1, 0, none⟩ = some (.int .i64 (leaf : Int)) := fun i => (blk_cell (hF i).2.1 0).trans rfl
  have q2 : ∀ i, bk (F i) (w.heap.size + 1 + 1) = some (cl .u8 (zs 16)).toArray := fun i => bk_of (hF i).2.2.1
  have HF := Lib.hid hF
  have HI := Lib.hid hin
  have H0 := Lib.hid h0
  have lf := flat_length (pubF_length seed leaf) 35
  have lc := cmp_length leaf (flat (pubF seed leaf) 35)
  clear hF hin h0 b0 b1 b2 bl
  refine wp_region_tail F 4 (by kernel_rfl) (by kernel_rfl) H0.out ?_
  simp only [List.take_succ_cons, List.take_zero, List.drop_succ_cons, List.drop_zero]
  repeat (go_big_quiet_step (first
    | (go_at_call 79; exact quiet_below HF.out HI.out (fun _ _ h hb => ⟨blk_keep h.1 hb, blk_keep h.2.1 hb, blk_keep h.2.2.1 hb, bel_trans h.2.2.2 hb h.2.2.2.size⟩) (each_public _ (pubF seed leaf) _ _ (pubF_length seed leaf) (fun c hc W hb => public_of W seed leaf c _ _ hs hleaf hc (blk_keep (HF.out _).2.1 hb) (blk_keep (HF.out _).1 hb))))
    | (go_at_call 77; exact quiet_below HF.out HI.out (fun _ _ h hb => ⟨blk_keep h.1 hb, blk_keep h.2.1 hb, blk_keep h.2.2.1 hb, bel_trans h.2.2.2 hb h.2.2.2.size⟩) (compress _ leaf (flat (pubF seed leaf) 35) lf hleaf))))
  refine wpQuiet_nil ?_
  intro i
  go_wp2_with fail
  refine ret2_b16 rfl rfl rfl (blk_setRow (HF.out i).2.2.1 (cl .u8 (cmp leaf (flat (pubF seed leaf) 35)))) lc rfl ⟨rfl, bel_setRow (HF.out i).2.2.2 (by omega) _⟩
end Go.Proofs.Ytlgpipdeckdmjaa.One
