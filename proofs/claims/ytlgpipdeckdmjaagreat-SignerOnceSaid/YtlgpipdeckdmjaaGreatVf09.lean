/-
  Several texts laid into one (merge.py): One10, One11, One12, Ref8, Ref9, Signed.
-/
import Derived.Test.YtlgpipdeckdmjaaGreatVf08
/-
  onetime: Recover, Compress.
-/
set_option linter.unusedVariables false
set_option linter.unusedSimpArgs false
namespace Go.Proofs.YtlgpipdeckdmjaaGreat.One
open Go.RowKit Base Reg Types Slice Sha
set_option maxRecDepth 20000 in
theorem Recover_in (w : World) (leaf : Nat) (d s : List Nat) (hs : s.length = 560) (hd : d.length = 16) (bd : By d) (hleaf : leaf ≤ 65535) :
    Calls Tryz.prog 77 #[.int .i64 (leaf : Int), agg .u8 d, agg .u8 s] w fun e w' => e = .returned (.tuple #[agg .u8 (cmp leaf (flat (endF s d leaf) 35)), .int .i64 0]) ∧ Below w.heap.size w w' := by
  have i1 : decide ((0 : Int) ≤ (leaf : Int) ∧ (leaf : Int) ≤ 65535) = true := by simp; omega
  have I1 := Lib.hid i1
  clear i1
  go_enter Tryz.func77, Tryz.ntmps77
  go_wp2_with fail
  refine (within leaf 65535 _).mono ?_
  rintro e w0 ⟨rfl, rfl⟩
  rw [I1.out]
  go_wp2_with fail
  obtain ⟨W0, hW0⟩ : ∃ W0, W0 = (((w.alloc (.cells (cl .u8 d).toArray 23)).alloc (.cells (cl .u8 s).toArray 74)).alloc (.cells (cl .u8 (zs 16)).toArray 23)) := ⟨_, rfl⟩
  have b2 : blk W0 (w.heap.size + 1 + 1) (cl .u8 (zs 16)) 23 := by rw [hW0]; exact blk_at _ _ _ (by simp only [alloc_size])
  have bl : Below w.heap.size w W0 := by rw [hW0]; exact (((Below.refl w.heap.size w).alloc (Nat.le_refl _) _).alloc (by simp only [alloc_size]; omega) _).alloc (by simp only [alloc_size]; omega) _
  rw [← hW0]
  clear hW0
  refine (ends W0 s d leaf hs hd bd hleaf).mono ?_
  rintro e w1 ⟨rfl, hb1⟩
  have B1 := Lib.hid (blk_keep b2 hb1)
  have L1 := Lib.hid (bel_trans bl hb1 bl.size)
  have lf := flat_length (endF_length hs d leaf) 35
  clear hb1 b2 bl
  go_wp2_with fail
  refine (compress w1 leaf (flat (endF s d leaf) 35) lf hleaf).mono ?_
  rintro e w2 ⟨rfl, hb2⟩
  have B2 := blk_keep B1.out hb2
  have k2 := bk_of B2
  have L2 := bel_trans L1.out hb2 L1.out.size
  have lc := cmp_length leaf (flat (endF s d leaf) 35)
  clear hb2
  go_wp2_with fail
  refine ret2_b16 rfl rfl rfl (blk_setRow B2 (cl .u8 (cmp leaf (flat (endF s d leaf) 35)))) lc rfl ⟨rfl, bel_setRow L2 (by omega) _⟩
theorem Recover_out (w : World) (leaf : Int) (d s : List Nat) (hs : s.length = 560) (hd : d.length = 16) (ho : ¬ (0 ≤ leaf ∧ leaf ≤ 65535)) :
    Calls Tryz.prog 77 #[.int .i64 leaf, agg .u8 d, agg .u8 s] w fun e w' => e = .returned (.tuple #[agg .u8 (zs 16), .int .i64 2]) ∧ Below w.heap.size w w' := by
  go_enter Tryz.func77, Tryz.ntmps77
  go_wp2_with fail
  refine (within leaf 65535 _).mono ?_
  rintro e w0 ⟨rfl, rfl⟩
  rw [decide_eq_false ho]
  clear ho
  go_wp2_with fail
  refine ret2_b16 rfl rfl rfl (blk_at _ (cl .u8 (zs 16)) 23 (by simp only [alloc_size])) rfl rfl ⟨rfl, (((Below.refl w.heap.size w).alloc (Nat.le_refl _) _).alloc (by simp only [alloc_size]; omega) _).alloc (by simp only [alloc_size]; omega) _⟩






























end Go.Proofs.YtlgpipdeckdmjaaGreat.One
/-
  onetime: Sign, Public, Verify.
-/
set_option linter.unusedVariables false
set_option linter.unusedSimpArgs false
namespace Go.Proofs.YtlgpipdeckdmjaaGreat.One
open Go.RowKit Base Reg Types Slice Sha
def sgnF (seed d : List Nat) (leaf c : Nat) : List Nat := adv leaf c 0 (spd d c) (sec seed leaf c)
theorem sgnF_length (seed d : List Nat) (leaf c : Nat) : (sgnF seed d leaf c).length = 16 := adv_length _ _ _ _ _ (sec_length _ _ _)
def pubF (seed : List Nat) (leaf c : Nat) : List Nat := adv leaf c 0 15 (sec seed leaf c)
theorem pubF_length (seed : List Nat) (leaf c : Nat) : (pubF seed leaf c).length = 16 := adv_length _ _ _ _ _ (sec_length _ _ _)
set_option maxRecDepth 20000 in
theorem Sign_in (w : World) (seed d : List Nat) (leaf : Nat) (hs : seed.length = 32) (hd : d.length = 16) (bd : By d) (hleaf : leaf ≤ 65535) :
    Calls Tryz.prog 36 #[agg .u8 seed, .int .i64 (leaf : Int), agg .u8 d] w fun e w' => e = .returned (.tuple #[agg .u8 (flat (sgnF seed d leaf) 35), .int .i64 0]) ∧ Below w.heap.size w w' := by
  have i1 : decide ((0 : Int) ≤ (leaf : Int) ∧ (leaf : Int) ≤ 65535) = true := by simp; omega
  have I1 := Lib.hid i1
  clear i1
  go_enter Tryz.func36, Tryz.ntmps36
  go_wp2_with fail
  refine (within leaf 65535 _).mono ?_
  rintro e w0 ⟨rfl, rfl⟩
  rw [I1.out]
  go_wp2_with fail
  obtain ⟨W0, hW0⟩ : ∃ W0, W0 = ((((w.alloc (.cells (cl .u8 seed).toArray 22)).alloc (.cells #[.int .i64 (leaf : Int)] 3)).alloc (.cells (cl .u8 d).toArray 23)).alloc (.cells (cl .u8 (zs 560)).toArray 74)) := ⟨_, rfl⟩
  have b0 : blk W0 w.heap.size (cl .u8 seed) 22 := by rw [hW0]; exact blk_alloc (blk_alloc (blk_alloc (blk_new _ _ _) _) _) _
  have b1 : blk W0 (w.heap.size + 1) [.int .i64 (leaf : Int)] 3 := by rw [hW0]; exact blk_alloc (blk_alloc (blk_at _ [.int .i64 (leaf : Int)] _ (by simp only [alloc_size])) _) _
  have b3 : blk W0 (w.heap.size + 1 + 1 + 1) (cl .u8 (zs 560)) 74 := by rw [hW0]; exact blk_at _ _ _ (by simp only [alloc_size])
  have bl : Below w.heap.size w W0 := by rw [hW0]; exact ((((Below.refl w.heap.size w).alloc (Nat.le_refl _) _).alloc (by simp only [alloc_size]; omega) _).alloc (by simp only [alloc_size]; omega) _).alloc (by simp only [alloc_size]; omega) _
  rw [← hW0]
  clear hW0
  refine (split W0 d hd bd).mono ?_
  rintro e w1 ⟨rfl, hb1⟩
  have A0 := Lib.hid (blk_alloc (blk_keep b0 hb1) (.cells (cl .i64 (sp d)).toArray 87))
  have A1 := Lib.hid (blk_alloc (blk_keep b1 hb1) (.cells (cl .i64 (sp d)).toArray 87))
  have A3 := Lib.hid (blk_alloc (blk_keep b3 hb1) (.cells (cl .i64 (sp d)).toArray 87))
  have AD := Lib.hid (blk_new w1 (cl .i64 (sp d)) 87)
  have AL := Lib.hid ((bel_trans bl hb1 bl.size).alloc (by have := bel_trans bl hb1 bl.size; exact this.size) (.cells (cl .i64 (sp d)).toArray 87))
  have ld := sp_length d
  clear hb1 b0 b1 b3 bl
  go_wp2_with fail
  refine (each_sign _ (sgnF seed d leaf) _ _ _ (sgnF_length seed d leaf) (fun c hc W hb => by
    have h := sign_of W seed (sp d) leaf c (w.heap.size + 1) w1.heap.size w.heap.size ld (sp_le bd) hs hleaf hc (blk_keep A1.out hb) (blk_keep AD.out hb) (blk_keep A0.out hb)
    rw [sp_getD d c hc] at h
    exact h)).mono ?_
  rintro e w2 ⟨rfl, hb2⟩
  have B3 := blk_keep A3.out hb2
  have k3 := bk_of B3
  have BL := bel_trans AL.out hb2 AL.out.size
  have lf := flat_length (sgnF_length seed d leaf) 35
  clear hb2
  go_wp2_with fail
  refine ret2_sig rfl rfl rfl (blk_setRow B3 (cl .u8 (flat (sgnF seed d leaf) 35))) lf rfl ⟨rfl, bel_setRow BL (by omega) _⟩
set_option maxRecDepth 100000 in
theorem Sign_out (w : World) (seed d : List Nat) (leaf : Int) (hs : seed.length = 32) (hd : d.length = 16) (ho : ¬ (0 ≤ leaf ∧ leaf ≤ 65535)) :
    Calls Tryz.prog 36 #[agg .u8 seed, .int .i64 leaf, agg .u8 d] w fun e w' => e = .returned (.tuple #[agg .u8 (zs 560), .int .i64 2]) ∧ Below w.heap.size w w' := by
  have hz : Tryz.zeroCells74 = (cl .u8 (zs 560)).toArray := by kernel_rfl
  go_enter Tryz.func36, Tryz.ntmps36
  go_wp2_with fail
  refine (within leaf 65535 _).mono ?_
  rintro e w0 ⟨rfl, rfl⟩
  rw [decide_eq_false ho]
  clear ho
  go_wp2_with fail
  refine ret2_sig rfl rfl rfl (blk_at _ (cl .u8 (zs 560)) 74 (by simp only [alloc_size])) rfl rfl ⟨rfl, ((((Below.refl w.heap.size w).alloc (Nat.le_refl _) _).alloc (by simp only [alloc_size]; omega) _).alloc (by simp only [alloc_size]; omega) _).alloc (by simp only [alloc_size]; omega) _⟩
set_option maxRecDepth 20000 in
theorem Public_in (w : World) (seed : List Nat) (leaf : Nat) (hs : seed.length = 32) (hleaf : leaf ≤ 65535) :
    Calls Tryz.prog 70 #[agg .u8 seed, .int .i64 (leaf : Int)] w fun e w' => e = .returned (.tuple #[agg .u8 (cmp leaf (flat (pubF seed leaf) 35)), .int .i64 0]) ∧ Below w.heap.size w w' := by
  have i1 : decide ((0 : Int) ≤ (leaf : Int) ∧ (leaf : Int) ≤ 65535) = true := by simp; omega
  have I1 := Lib.hid i1
  clear i1
  go_enter Tryz.func70, Tryz.ntmps70
  go_wp2_with fail
  refine (within leaf 65535 _).mono ?_
  rintro e w0 ⟨rfl, rfl⟩
  rw [I1.out]
  go_wp2_with fail
  obtain ⟨W0, hW0⟩ : ∃ W0, W0 = (((w.alloc (.cells (cl .u8 seed).toArray 22)).alloc (.cells #[.int .i64 (leaf : Int)] 3)).alloc (.cells (cl .u8 (zs 16)).toArray 23)) := ⟨_, rfl⟩
  have b0 : blk W0 w.heap.size (cl .u8 seed) 22 := by rw [hW0]; exact blk_alloc (blk_alloc (blk_new _ _ _) _) _
  have b1 : blk W0 (w.heap.size + 1) [.int .i64 (leaf : Int)] 3 := by rw [hW0]; exact blk_alloc (blk_at _ [.int .i64 (leaf : Int)] _ (by simp only [alloc_size])) _
  have b2 : blk W0 (w.heap.size + 1 + 1) (cl .u8 (zs 16)) 23 := by rw [hW0]; exact blk_at _ _ _ (by simp only [alloc_size])
  have bl : Below w.heap.size w W0 := by rw [hW0]; exact (((Below.refl w.heap.size w).alloc (Nat.le_refl _) _).alloc (by simp only [alloc_size]; omega) _).alloc (by simp only [alloc_size]; omega) _
  rw [← hW0]
  clear hW0
  obtain ⟨ι, F, hF, hin⟩ := class_of (fun W => blk W w.heap.size (cl .u8 seed) 22 ∧ blk W (w.heap.size + 1) [.int .i64 (leaf : Int)] 3 ∧ blk W (w.heap.size + 1 + 1) (cl .u8 (zs 16)) 23 ∧ Below w.heap.size w W)
  have h0 := hin W0.drew ⟨blk_drew b0, blk_drew b1, blk_drew b2, bl.drew⟩
  have hne : Nonempty ι := ⟨h0.choose⟩
  have q0 : ∀ i, (F i).cell? ⟨w.heap.size + 1, 0, none⟩ = some (.int .i64 (leaf : Int)) := fun i => (blk_cell (hF i).2.1 0).trans rfl
  have q2 : ∀ i, bk (F i) (w.heap.size + 1 + 1) = some (cl .u8 (zs 16)).toArray := fun i => bk_of (hF i).2.2.1
  have HF := Lib.hid hF
  have HI := Lib.hid hin
  have H0 := Lib.hid h0
  have lf := flat_length (pubF_length seed leaf) 35
  have lc := cmp_length leaf (flat (pubF seed leaf) 35)
  clear hF hin h0 b0 b1 b2 bl
  refine wp_region_tail F 4 (by kernel_rfl) (by kernel_rfl) H0.out ?_
  simp only [List.take_succ_cons, List.take_zero, List.drop_succ_cons, List.drop_zero]
  repeat (go_big_quiet_step (first
    | (go_at_call 61; exact quiet_below HF.out HI.out (fun _ _ h hb => ⟨blk_keep h.1 hb, blk_keep h.2.1 hb, blk_keep h.2.2.1 hb, bel_trans h.2.2.2 hb h.2.2.2.size⟩) (each_public _ (pubF seed leaf) _ _ (pubF_length seed leaf) (fun c hc W hb => public_of W seed leaf c _ _ hs hleaf hc (blk_keep (HF.out _).2.1 hb) (blk_keep (HF.out _).1 hb))))
    | (go_at_call 93; exact quiet_below HF.out HI.out (fun _ _ h hb => ⟨blk_keep h.1 hb, blk_keep h.2.1 hb, blk_keep h.2.2.1 hb, bel_trans h.2.2.2 hb h.2.2.2.size⟩) (compress _ leaf (flat (pubF seed leaf) 35) lf hleaf))))
  refine wpQuiet_nil ?_
  intro i
  go_wp2_with fail
  refine ret2_b16 rfl rfl rfl (blk_setRow (HF.out i).2.2.1 (cl .u8 (cmp leaf (flat (pubF seed leaf) 35)))) lc rfl ⟨rfl, bel_setRow (HF.out i).2.2.2 (by omega) _⟩
end Go.Proofs.YtlgpipdeckdmjaaGreat.One
/-
  onetime: Public out of range, Verify.
-/
set_option linter.unusedVariables false
set_option linter.unusedSimpArgs false
namespace Go.Proofs.YtlgpipdeckdmjaaGreat.One
open Go.RowKit Base Reg Types Slice Sha
theorem Public_out (w : World) (seed : List Nat) (leaf : Int) (hs : seed.length = 32) (ho : ¬ (0 ≤ leaf ∧ leaf ≤ 65535)) :
    Calls Tryz.prog 70 #[agg .u8 seed, .int .i64 leaf] w fun e w' => e = .returned (.tuple #[agg .u8 (zs 16), .int .i64 2]) ∧ Below w.heap.size w w' := by
  go_enter Tryz.func70, Tryz.ntmps70
  go_wp2_with fail
  refine (within leaf 65535 _).mono ?_
  rintro e w0 ⟨rfl, rfl⟩
  rw [decide_eq_false ho]
  clear ho
  go_wp2_with fail
  refine ret2_b16 rfl rfl rfl (blk_at _ (cl .u8 (zs 16)) 23 (by simp only [alloc_size])) rfl rfl ⟨rfl, (((Below.refl w.heap.size w).alloc (Nat.le_refl _) _).alloc (by simp only [alloc_size]; omega) _).alloc (by simp only [alloc_size]; omega) _⟩




































end Go.Proofs.YtlgpipdeckdmjaaGreat.One
/-
  The reference of layer 7: All, Compress.
-/
set_option linter.unusedVariables false
set_option linter.unusedSimpArgs false
namespace Go.Proofs.YtlgpipdeckdmjaaGreat.Ref
open Go.RowKit Base Reg Types Slice Sha Law
open Go.Proofs.YtlgpipdeckdmjaaGreat.One
theorem all_calls (w : World) (n : Nat) : Calls Tryz.prog 76 #[.int .i64 (n : Int)] w fun e w' => e = .returned (agg .i64 ((List.range 35).map fun _ => n)) ∧ Below w.heap.size w w' := by
  go_enter Tryz.func76, Tryz.ntmps76
  go_wp2_with fail
  go_loopw [4] (fun i wr => ∃ k : Nat, k ≤ 35 ∧ i = .int .i64 k ∧ blk wr w.heap.size (cl .i64 (zs 35)) 87 ∧ blk wr (w.heap.size + 1) (cl .i64 (upto 35 k fun _ => n)) 87 ∧ Below w.heap.size w wr) (fun i _ => 35 - (intOf i).toNat)
  case atStart => exact ⟨0, by omega, rfl, blk_alloc (blk_new _ _ _) _, by rw [upto_zero]; exact blk_at _ _ _ (by simp only [alloc_size]), ((Below.refl _ _).alloc (Nat.le_refl _) _).alloc (by simp only [alloc_size]; omega) _⟩
  case round =>
    obtain ⟨k, hk, rfl, hb1, hb2, hbel⟩ := hrel
    have hl : (upto 35 k fun _ => n).length = 35 := upto_length _ _ _
    by_cases hk2 : k < 35
    · have cb := (blk_cell hb2 k).trans (cl_get _ _ _ (by omega))
      have fb := blk_free hb2 k
      have HB1 := Lib.hid hb1
      have HB2 := Lib.hid hb2
      clear hb1 hb2
      go_wp2_with fail
      refine ⟨⟨k + 1, by omega, by go_num, blk_setCell_ne HB1.out _ (by simp), ?_, bel_setCell hbel (by simp) _⟩, by simp [intOf]; omega⟩
      have h := blk_setCell HB2.out k (.int .i64 (n : Int))
      rw [cl_set, upto_set 35 k (fun _ => n) hk2] at h
      exact h
    · obtain rfl : k = 35 := by omega
      rw [upto_full] at hb2
      have hl : ((List.range 35).map fun _ => n).length = 35 := by simp
      have hb3 := bk_of hb1
      have hb4 := bk_of hb2
      go_wp2_with fail
      refine ret_i35 rfl rfl (blk_setRow hb1 (cl .i64 ((List.range 35).map fun _ => n))) hl rfl ⟨rfl, bel_setRow hbel (Nat.le_refl _) _⟩
set_option maxRecDepth 20000 in
set_option maxHeartbeats 4000000 in
theorem compress (w : World) (leaf : Nat) (E : List Nat) (hE : E.length = 560) (hleaf : leaf ≤ 65535) :
    Calls Tryz.prog 75 #[.int .i64 (leaf : Int), agg .u8 E] w fun e w' => e = .returned (agg .u8 (cmp leaf E)) ∧ Below w.heap.size w w' := by
  go_enter Tryz.func75, Tryz.ntmps75
  go_wp2_with fail
  refine (head _ 4 leaf hleaf (by omega)).mono ?_
  rintro e w1 ⟨v1, rfl, ho1, hb1⟩
  have hA := blk_keep (blk_alloc (blk_new w (cl .u8 E) 85) (.cells (cl .u8 (zs 16)).toArray 84)) hb1
  have hR := blk_keep (blk_at (w.alloc (.cells (cl .u8 E).toArray 85)) (cl .u8 (zs 16)) 84 (b := w.heap.size + 1) (by simp only [alloc_size])) hb1
  have hl1 := bel_trans (((Below.refl w.heap.size w).alloc (Nat.le_refl _) (.cells (cl .u8 E).toArray 85)).alloc (by simp only [alloc_size]; omega) (.cells (cl .u8 (zs 16)).toArray 84)) hb1 (by simp only [alloc_size]; omega)
  have hs1 := hb1.size
  simp only [alloc_size] at hs1 ho1
  clear hb1
  go_wp2_with fail
  go_loopw [5, 6] (fun v i wr => ∃ k : Nat, k ≤ 35 ∧ i = .int .i64 k ∧ Own wr (w.heap.size + 1 + 1) v (hd 4 leaf ++ E.take (16 * k)) ∧ blk wr w.heap.size (cl .u8 E) 85 ∧ blk wr (w.heap.size + 1) (cl .u8 (zs 16)) 84 ∧ Below w.heap.size w wr ∧ w.heap.size + 1 + 1 ≤ wr.heap.size) (fun _ i _ => 35 - (intOf i).toNat)
  case atStart => exact ⟨0, by omega, rfl, by simpa using ho1, hA, hR, hl1, hs1⟩
  case round =>
    clear ho1 hA hR hl1 hs1
    obtain ⟨k, hk, rfl, ho, hA, hB, hbel, hsz⟩ := hrel
    by_cases hk2 : k < 35
    · have HO := Lib.hid ho
      have HA := Lib.hid hA
      have HB := Lib.hid hB
      have hl16 : ((E.drop (k * 16)).take 16).length = 16 := by simp; omega
      have hsl : Sl wr (.slice (some ⟨w.heap.size, k * 16, none⟩) 16 16) ((E.drop (k * 16)).take 16) := sl_blk hA hl16.symm (Nat.le_refl _) (fun j hj => by
        rw [hl16] at hj
        rw [cl_get _ _ _ (by omega), List.getD_eq_getElem?_getD, List.getD_eq_getElem?_getD, List.getElem?_take, if_pos hj, List.getElem?_drop])
      have HS := Lib.hid hsl
      clear ho hA hB hsl
      go_wp2_with (
        at_builtin
        refine wpList_append_bytes rfl (.tmp 13) (.tmp 16) rfl rfl rfl HO.out HS.out (by rw [hl16]; simp [hd]; omega) hsz ?_
        intro v1 w2 ho1 hg1)
      have hb2 := hbel.grown hg1 hbel.size (fun k hk => by have := own_block HO.out k (by simpa [Act.eval] using hk); omega)
      have hA2 := blk_grown HA.out hg1 (by intro e; have := own_block HO.out w.heap.size (by simpa [Act.eval] using e.symm); omega)
      have hB2 := blk_grown HB.out hg1 (by intro e; have := own_block HO.out (w.heap.size + 1) (by simpa [Act.eval] using e.symm); omega)
      have hs2 := hg1.size
      rw [List.append_assoc, take_more] at ho1
      clear hg1
      go_roundw
      case rel => exact ⟨k + 1, by omega, by go_num, ho1, hA2, hB2, hb2, by omega⟩
      case measure => simp [intOf]; omega
    · obtain rfl : k = 35 := by omega
      rw [List.take_of_length_le (by omega)] at ho
      have HO := Lib.hid (SlC.of_own ho)
      have HB := Lib.hid hB
      clear ho hB
      go_wp2_with fail
      refine (half wr _ _ HO.out (by simp [hd]; omega)).mono ?_
      rintro e w3 ⟨rfl, hb3⟩
      have hB3 := blk_keep HB.out hb3
      have k3 := bk_of hB3
      have lc := cmp_length leaf E
      have hbel3 := bel_trans hbel hb3 hbel.size
      rw [show hf (hd 4 leaf ++ E) = cmp leaf E from rfl]
      clear hb3
      go_wp2_with fail
      refine ret_rv rfl rfl (blk_setRow hB3 (cl .u8 (cmp leaf E))) lc rfl ⟨rfl, bel_setRow hbel3 (by omega) _⟩
end Go.Proofs.YtlgpipdeckdmjaaGreat.Ref
/-
  The reference of layer 7: Values, Last.
-/
set_option linter.unusedVariables false
set_option linter.unusedSimpArgs false
namespace Go.Proofs.YtlgpipdeckdmjaaGreat.Ref
open Go.RowKit Base Reg Types Slice Sha Law
open Go.Proofs.YtlgpipdeckdmjaaGreat.One
theorem flat_elt (s : List Nat) (hs : s.length = 560) : ∀ k, k ≤ 35 → flat (elt s) k = s.take (16 * k)
  | 0, _ => rfl
  | k + 1, hk => by rw [flat_succ, flat_elt s hs k (by omega), elt, take_more]
/-- A value of the reference is written into its place. -/
theorem st_rv_at {w : World} {b k : Nat} {F : Nat → List Nat} {t : TypeId} (h : ∀ c, (F c).length = 16) (hk : k < 35) (hB : blk w b (cl .u8 (fl F k)) t) :
    (stA 84 (.pointer (some ⟨b, k * 16, none⟩)) (agg .u8 (F k))).run Tryz.prog w = .ok () (w.setRow b (cl .u8 (fl F (k + 1))).toArray) := by
  rw [Nat.mul_comm]
  have h1 := run_storeAt_part (P := Tryz.prog) (ty := 84) (vs := cl .u8 (F k)) hB (16 * k) (by rw [cl_length, h]; kernel_rfl) (by rw [cl_length, cl_length, h, fl_length h (by omega)]; omega) (cl_one _ _)
  rw [fl_splice h hk] at h1
  exact h1
def valF (seed D : List Nat) (leaf c : Nat) : List Nat := adv leaf c 0 (D.getD c 0) (sec seed leaf c)
theorem valF_length (seed D : List Nat) (leaf c : Nat) : (valF seed D leaf c).length = 16 := adv_length _ _ _ _ _ (sec_length _ _ _)
set_option maxRecDepth 20000 in
set_option maxHeartbeats 4000000 in
theorem values (w : World) (seed D : List Nat) (leaf : Nat) (hs : seed.length = 32) (hD : D.length = 35) (hD15 : ∀ j, D.getD j 0 ≤ 15) (hleaf : leaf ≤ 65535) :
    Calls Tryz.prog 40 #[agg .u8 seed, .int .i64 (leaf : Int), agg .i64 D] w fun e w' => e = .returned (agg .u8 (flat (valF seed D leaf) 35)) ∧ Below w.heap.size w w' := by
  have HL := Lib.hid (valF_length seed D leaf)
  go_enter Tryz.func40, Tryz.ntmps40
  go_wp2_with fail
  go_loopw [8] (fun i wr => ∃ k : Nat, k ≤ 35 ∧ i = .int .i64 k ∧ blk wr w.heap.size (cl .u8 seed) 22 ∧ blk wr (w.heap.size + 1) (cl .i64 D) 87 ∧ blk wr (w.heap.size + 1 + 1) (cl .u8 (zs 560)) 85 ∧ blk wr (w.heap.size + 1 + 1 + 1) (cl .u8 (fl (valF seed D leaf) k)) 85 ∧ Below w.heap.size w wr) (fun i _ => 35 - (intOf i).toNat)
  case atStart => exact ⟨0, by omega, rfl, blk_alloc (blk_alloc (blk_alloc (blk_new _ _ _) _) _) _, blk_alloc (blk_alloc (blk_at _ _ _ (by simp only [alloc_size])) _) _, blk_alloc (blk_at _ _ _ (by simp only [alloc_size])) _, by rw [fl_zero]; exact blk_at _ _ _ (by simp only [alloc_size]), ((((Below.refl _ _).alloc (Nat.le_refl _) _).alloc (by simp only [alloc_size]; omega) _).alloc (by simp only [alloc_size]; omega) _).alloc (by simp only [alloc_size]; omega) _⟩
  case round =>
    obtain ⟨k, hk, rfl, hb0, hb1, hb2, hb3, hbel⟩ := hrel
    by_cases hk2 : k < 35
    · obtain ⟨x, hx⟩ : ∃ x, x = D.getD k 0 := ⟨_, rfl⟩
      have hx15 : x ≤ 15 := by rw [hx]; exact hD15 k
      obtain ⟨ι, F, hF, hin⟩ := class_of (fun W => blk W w.heap.size (cl .u8 seed) 22 ∧ blk W (w.heap.size + 1) (cl .i64 D) 87 ∧ blk W (w.heap.size + 1 + 1) (cl .u8 (zs 560)) 85 ∧ blk W (w.heap.size + 1 + 1 + 1) (cl .u8 (fl (valF seed D leaf) k)) 85 ∧ Below w.heap.size w W)
      have h0 := hin wr.drew ⟨blk_drew hb0, blk_drew hb1, blk_drew hb2, blk_drew hb3, hbel.drew⟩
      have hne : Nonempty ι := ⟨h0.choose⟩
      have q0 : ∀ i, bk (F i) w.heap.size = some (cl .u8 seed).toArray := fun i => bk_of (hF i).1
      have q1 : ∀ i, (F i).cell? ⟨w.heap.size + 1, k, none⟩ = some (.int .i64 ((x : Nat) : Int)) := fun i => (blk_cell (hF i).2.1 k).trans (by rw [hx]; exact cl_get _ _ _ (by omega))
      have q3 : ∀ i, (stA 84 (.pointer (some ⟨w.heap.size + 1 + 1 + 1, k * 16, none⟩)) (agg .u8 (valF seed D leaf k))).run Tryz.prog (F i) = .ok () ((F i).setRow (w.heap.size + 1 + 1 + 1) (cl .u8 (fl (valF seed D leaf) (k + 1))).toArray) := fun i => st_rv_at HL.out hk2 (hF i).2.2.2.1
      rw [show valF seed D leaf k = adv leaf k 0 x (sec seed leaf k) by rw [hx]; rfl] at q3
      have HF := Lib.hid hF
      have HI := Lib.hid hin
      have H0 := Lib.hid h0
      have l1 := sec_length seed leaf k
      have HX := Lib.hid hx
      clear hF hin h0 hb0 hb1 hb2 hb3 hbel hx
      go_wp2_with fail
      refine wp_region_tail F 12 (by kernel_rfl) (by kernel_rfl) H0.out ?_
      simp only [List.take_succ_cons, List.take_zero, List.drop_succ_cons, List.drop_zero]
      repeat (go_big_quiet_step (first
        | (go_at_call 72; exact quiet_below HF.out HI.out (fun _ _ h hb => ⟨blk_keep h.1 hb, blk_keep h.2.1 hb, blk_keep h.2.2.1 hb, blk_keep h.2.2.2.1 hb, bel_trans h.2.2.2.2 hb h.2.2.2.2.size⟩) (Ref.secret _ seed leaf k hs hleaf (by omega)))
        | (go_at_call 71; exact quiet_below HF.out HI.out (fun _ _ h hb => ⟨blk_keep h.1 hb, blk_keep h.2.1 hb, blk_keep h.2.2.1 hb, blk_keep h.2.2.2.1 hb, bel_trans h.2.2.2.2 hb h.2.2.2.2.size⟩) (Ref.advance _ leaf k 0 x (sec seed leaf k) l1 hleaf (by omega) (by omega) x (by rw [Nat.zero_add])))))
      refine wpQuiet_nil ?_
      intro i
      go_wp2_with fail
      exact ⟨⟨k + 1, by omega, by go_num, blk_setRow_ne (HF.out i).1 _ (by omega), blk_setRow_ne (HF.out i).2.1 _ (by omega), blk_setRow_ne (HF.out i).2.2.1 _ (by omega), blk_setRow (HF.out i).2.2.2.1 (cl .u8 (fl (valF seed D leaf) (k + 1))), bel_setRow (HF.out i).2.2.2.2 (by omega) _⟩, by simp [intOf]; omega⟩
    · obtain rfl : k = 35 := by omega
      rw [fl_full] at hb3
      have hl := flat_length HL.out 35
      have k2 := bk_of hb2
      have k3 := bk_of hb3
      have HB := Lib.hid hb2
      clear hb0 hb1 hb2 hb3
      go_wp2_with fail
      refine ret_rvs rfl rfl (blk_setRow HB.out (cl .u8 (flat (valF seed D leaf) 35))) hl rfl ⟨rfl, bel_setRow hbel (by omega) _⟩
/-- The first k values are advanced to the end. -/
def lst (s d : List Nat) (leaf k : Nat) : List Nat := flat (endF s d leaf) k ++ s.drop (16 * k)
theorem lst_length {s : List Nat} (hs : s.length = 560) (d : List Nat) (leaf : Nat) {k : Nat} (hk : k ≤ 35) : (lst s d leaf k).length = 560 := by
  rw [lst, List.length_append, flat_length (endF_length hs d leaf), List.length_drop]
  omega
theorem lst_elt {s : List Nat} (hs : s.length = 560) (d : List Nat) (leaf : Nat) {k : Nat} (hk : k < 35) : ((lst s d leaf k).drop (k * 16)).take 16 = elt s k := by
  have h := flat_length (endF_length hs d leaf) k
  rw [lst, List.drop_append, h, List.drop_eq_nil_of_le (by omega), List.nil_append, show k * 16 - 16 * k = 0 by omega, List.drop_zero, Nat.mul_comm]
  rw [elt, Nat.mul_comm]
theorem lst_splice {s : List Nat} (hs : s.length = 560) (d : List Nat) (leaf : Nat) {k : Nat} (hk : k < 35) : splice (cl .u8 (lst s d leaf k)) (16 * k) (cl .u8 (endF s d leaf k)) = cl .u8 (lst s d leaf (k + 1)) := by
  unfold splice
  have h := flat_length (endF_length hs d leaf) k
  rw [cl_length, endF_length hs, cl_take, cl_drop, cl_append, cl_append]
  congr 1
  have e1 : (lst s d leaf k).take (16 * k) = flat (endF s d leaf) k := by rw [lst, List.take_left' h]
  have e2 : (lst s d leaf k).drop (16 * k + 16) = s.drop (16 * (k + 1)) := by
    rw [lst, List.drop_append, h, List.drop_eq_nil_of_le (by omega), List.nil_append, List.drop_drop]
    congr 1
    omega
  rw [e1, e2, lst, flat_succ]
theorem st_lst_at {w : World} {b k leaf : Nat} {s d : List Nat} {t : TypeId} (hs : s.length = 560) (hk : k < 35) (hB : blk w b (cl .u8 (lst s d leaf k)) t) :
    (stA 84 (.pointer (some ⟨b, k * 16, none⟩)) (agg .u8 (endF s d leaf k))).run Tryz.prog w = .ok () (w.setRow b (cl .u8 (lst s d leaf (k + 1))).toArray) := by
  rw [Nat.mul_comm]
  have h1 := run_storeAt_part (P := Tryz.prog) (ty := 84) (vs := cl .u8 (endF s d leaf k)) hB (16 * k) (by rw [cl_length, endF_length hs]; kernel_rfl) (by rw [cl_length, cl_length, endF_length hs, lst_length hs d leaf (by omega)]; omega) (cl_one _ _)
  rw [lst_splice hs d leaf hk] at h1
  exact h1
theorem ld_rv_at {W : World} {gs c : Nat} {s : List Nat} {t : TypeId} (hs : s.length = 560) (hc : c < 35) (h : blk W gs (cl .u8 s) t) : (ldA 84 (.pointer (some ⟨gs, c * 16, none⟩))).run Tryz.prog W = .ok (agg .u8 ((s.drop (c * 16)).take 16)) W := by
  have h1 := run_loadAt_part (P := Tryz.prog) (ty := 84) h (c * 16) 16 (d := (Tryz.prog.underlying 84).get (by kernel_rfl)) (by kernel_rfl) (by kernel_rfl) (by kernel_rfl) (by rw [cl_length, hs]; omega)
  rw [cl_drop, cl_take] at h1
  exact h1
set_option maxRecDepth 20000 in
set_option maxHeartbeats 4000000 in
theorem last (w : World) (s d : List Nat) (leaf : Nat) (hs : s.length = 560) (hd : d.length = 16) (bd : By d) (hleaf : leaf ≤ 65535) :
    Calls Tryz.prog 81 #[.int .i64 (leaf : Int), agg .u8 d, agg .u8 s] w fun e w' => e = .returned (agg .u8 (flat (endF s d leaf) 35)) ∧ Below w.heap.size w w' := by
  go_enter Tryz.func81, Tryz.ntmps81
  go_wp2_with fail
  obtain ⟨W0, hW0⟩ : ∃ W0, W0 = (((w.alloc (.cells (cl .u8 d).toArray 23)).alloc (.cells (cl .u8 s).toArray 85)).alloc (.cells (cl .u8 (zs 560)).toArray 85)) := ⟨_, rfl⟩
  have b1 : blk W0 (w.heap.size + 1) (cl .u8 s) 85 := by rw [hW0]; exact blk_alloc (blk_at _ _ _ (by simp only [alloc_size])) _
  have b2 : blk W0 (w.heap.size + 1 + 1) (cl .u8 (zs 560)) 85 := by rw [hW0]; exact blk_at _ _ _ (by simp only [alloc_size])
  have bl : Below w.heap.size w W0 := by rw [hW0]; exact (((Below.refl w.heap.size w).alloc (Nat.le_refl _) _).alloc (by simp only [alloc_size]; omega) _).alloc (by simp only [alloc_size]; omega) _
  rw [← hW0]
  clear hW0
  refine (Ref.split W0 d hd bd).mono ?_
  rintro e w1 ⟨rfl, hw1⟩
  have B1 := blk_alloc (blk_keep b1 hw1) (.cells (cl .i64 (sp d)).toArray 87)
  have B2 := blk_alloc (blk_keep b2 hw1) (.cells (cl .i64 (sp d)).toArray 87)
  have B3 := blk_new w1 (cl .i64 (sp d)) 87
  have BL := (bel_trans bl hw1 bl.size).alloc (by have := bel_trans bl hw1 bl.size; exact this.size) (.cells (cl .i64 (sp d)).toArray 87)
  have lt1 : w.heap.size + 1 + 1 < w1.heap.size := blk_lt (blk_keep b2 hw1)
  have ls := sp_length d
  have S0 := Lib.hid (And.intro B1 (And.intro B2 (And.intro B3 BL)))
  clear b1 b2 bl hw1 B1 B2 B3 BL
  go_wp2_with fail
  go_loopw [8] (fun i wr => ∃ k : Nat, k ≤ 35 ∧ i = .int .i64 k ∧ blk wr (w.heap.size + 1) (cl .u8 (lst s d leaf k)) 85 ∧ blk wr (w.heap.size + 1 + 1) (cl .u8 (zs 560)) 85 ∧ blk wr w1.heap.size (cl .i64 (sp d)) 87 ∧ Below w.heap.size w wr) (fun i _ => 35 - (intOf i).toNat)
  case atStart => exact ⟨0, by omega, rfl, S0.out⟩
  case round =>
    clear S0
    obtain ⟨k, hk, rfl, hb1, hb2, hb3, hbel⟩ := hrel
    by_cases hk2 : k < 35
    · obtain ⟨x, hx⟩ : ∃ x, x = spd d k := ⟨_, rfl⟩
      have hx15 : x ≤ 15 := by rw [hx]; exact spd_le bd k
      obtain ⟨ι, F, hF, hin⟩ := class_of (fun W => blk W (w.heap.size + 1) (cl .u8 (lst s d leaf k)) 85 ∧ blk W (w.heap.size + 1 + 1) (cl .u8 (zs 560)) 85 ∧ blk W w1.heap.size (cl .i64 (sp d)) 87 ∧ Below w.heap.size w W)
      have h0 := hin wr.drew ⟨blk_drew hb1, blk_drew hb2, blk_drew hb3, hbel.drew⟩
      have hne : Nonempty ι := ⟨h0.choose⟩
      have q0 : ∀ i, (ldA 84 (.pointer (some ⟨w.heap.size + 1, k * 16, none⟩))).run Tryz.prog (F i) = .ok (agg .u8 (elt s k)) (F i) := fun i => by
        have h := ld_rv_at (lst_length hs d leaf (by omega)) hk2 (hF i).1
        rw [lst_elt hs d leaf hk2] at h
        exact h
      have q1 : ∀ i, (F i).cell? ⟨w1.heap.size, k, none⟩ = some (.int .i64 ((x : Nat) : Int)) := fun i => (blk_cell (hF i).2.2.1 k).trans (by rw [hx, cl_get _ _ _ (by omega), sp_getD d k hk2])
      have q3 : ∀ i, (stA 84 (.pointer (some ⟨w.heap.size + 1, k * 16, none⟩)) (agg .u8 (endF s d leaf k))).run Tryz.prog (F i) = .ok () ((F i).setRow (w.heap.size + 1) (cl .u8 (lst s d leaf (k + 1))).toArray) := fun i => st_lst_at hs hk2 (hF i).1
      rw [show endF s d leaf k = adv leaf k x (15 - x) (elt s k) by rw [endF, if_pos hk2, hx]] at q3
      have l1 : (elt s k).length = 16 := by unfold elt; simp; omega
      have HF := Lib.hid hF
      have HI := Lib.hid hin
      have H0 := Lib.hid h0
      have HX := Lib.hid hx
      clear hF hin h0 hb1 hb2 hb3 hbel hx
      go_wp2_with fail
      refine wp_region_tail F 11 (by kernel_rfl) (by kernel_rfl) H0.out ?_
      simp only [List.take_succ_cons, List.take_zero, List.drop_succ_cons, List.drop_zero]
      repeat (go_big_quiet_step (first
        | (go_at_call 71; exact quiet_below HF.out HI.out (fun _ _ h hb => ⟨blk_keep h.1 hb, blk_keep h.2.1 hb, blk_keep h.2.2.1 hb, bel_trans h.2.2.2 hb h.2.2.2.size⟩) (Ref.advance _ leaf k x (15 - x) (elt s k) l1 hleaf (by omega) (by omega) 15 (by omega)))))
      refine wpQuiet_nil ?_
      intro i
      go_wp2_with fail
      exact ⟨⟨k + 1, by omega, by go_num, blk_setRow (HF.out i).1 (cl .u8 (lst s d leaf (k + 1))), blk_setRow_ne (HF.out i).2.1 _ (by omega), blk_setRow_ne (HF.out i).2.2.1 _ (by omega), bel_setRow (HF.out i).2.2.2 (by omega) _⟩, by simp [intOf]; omega⟩
    · obtain rfl : k = 35 := by omega
      rw [show lst s d leaf 35 = flat (endF s d leaf) 35 by rw [lst, List.drop_eq_nil_of_le (by omega), List.append_nil]] at hb1
      have hl := flat_length (endF_length hs d leaf) 35
      have k2 := bk_of hb2
      have k1 := bk_of hb1
      have HB := Lib.hid hb2
      clear hb1 hb2 hb3
      go_wp2_with fail
      refine ret_rvs rfl rfl (blk_setRow HB.out (cl .u8 (flat (endF s d leaf) 35))) hl rfl ⟨rfl, bel_setRow hbel (by omega) _⟩












































end Go.Proofs.YtlgpipdeckdmjaaGreat.Ref
/-
  What Sign and Public come to, and how the reference and Recover agree with it.
-/
set_option linter.unusedVariables false
set_option linter.unusedSimpArgs false
namespace Go.Proofs.YtlgpipdeckdmjaaGreat.Signed
open Go.RowKit Base Reg Types Slice Sha
open Go.Proofs.YtlgpipdeckdmjaaGreat.One
theorem adv_parts (leaf chain a m n : Nat) (v : List Nat) : adv leaf chain (a + m) n (adv leaf chain a m v) = adv leaf chain a (m + n) v := by
  induction n with
  | zero => rfl
  | succ n ih => rw [← Nat.add_assoc, adv, adv, ih, Nat.add_assoc]
theorem flat_congr {F G : Nat → List Nat} : ∀ {k : Nat}, (∀ c, c < k → F c = G c) → flat F k = flat G k
  | 0, _ => rfl
  | k + 1, h => by rw [flat_succ, flat_succ, flat_congr (fun c hc => h c (by omega)), h k (by omega)]
theorem elt_flat {F : Nat → List Nat} (hF : ∀ c, (F c).length = 16) : ∀ {k c : Nat}, c < k → elt (flat F k) c = F c
  | 0, c, h => absurd h (Nat.not_lt_zero c)
  | k + 1, c, h => by
    have hl := flat_length hF k
    rw [flat_succ]
    by_cases hc : c < k
    · have := elt_flat hF hc
      unfold elt at this ⊢
      rw [List.drop_append_of_le_length (by omega), List.take_append_of_le_length (by simp; omega)]
      exact this
    · obtain rfl : c = k := by omega
      unfold elt
      rw [List.drop_append, List.drop_eq_nil_of_le (by omega), List.nil_append, hl, show c * 16 - 16 * c = 0 by omega, List.drop_zero, List.take_of_length_le (by rw [hF]; omega)]
def sg (seed d : List Nat) (leaf : Nat) : List Nat := flat (sgnF seed d leaf) 35
def pb (seed : List Nat) (leaf : Nat) : List Nat := cmp leaf (flat (pubF seed leaf) 35)
theorem sg_length (seed d : List Nat) (leaf : Nat) : (sg seed d leaf).length = 560 := flat_length (sgnF_length seed d leaf) 35
theorem pb_length (seed : List Nat) (leaf : Nat) : (pb seed leaf).length = 16 := cmp_length _ _
theorem ends_sg {seed d : List Nat} {leaf : Nat} (bd : By d) : flat (endF (sg seed d leaf) d leaf) 35 = flat (pubF seed leaf) 35 := by
  refine flat_congr fun c hc => ?_
  have h15 := spd_le bd c
  unfold endF
  rw [if_pos hc, sg, elt_flat (sgnF_length seed d leaf) hc]
  unfold sgnF pubF
  have h := adv_parts leaf c 0 (spd d c) (15 - spd d c) (sec seed leaf c)
  rw [Nat.zero_add, show spd d c + (15 - spd d c) = 15 by omega] at h
  exact h
section
variable (w : World) (seed d : List Nat) (leaf : Nat)
theorem Sign_sg (hs : seed.length = 32) (hd : d.length = 16) (bd : By d) (hleaf : leaf ≤ 65535) :
    Calls Tryz.prog 36 #[agg .u8 seed, .int .i64 (leaf : Int), agg .u8 d] w fun e w' => e = .returned (.tuple #[agg .u8 (sg seed d leaf), .int .i64 0]) ∧ Below w.heap.size w w' := Sign_in w seed d leaf hs hd bd hleaf
theorem Public_pb (hs : seed.length = 32) (hleaf : leaf ≤ 65535) :
    Calls Tryz.prog 70 #[agg .u8 seed, .int .i64 (leaf : Int)] w fun e w' => e = .returned (.tuple #[agg .u8 (pb seed leaf), .int .i64 0]) ∧ Below w.heap.size w w' := Public_in w seed leaf hs hleaf
theorem Recover_sg (hd : d.length = 16) (bd : By d) (hleaf : leaf ≤ 65535) :
    Calls Tryz.prog 77 #[.int .i64 (leaf : Int), agg .u8 d, agg .u8 (sg seed d leaf)] w fun e w' => e = .returned (.tuple #[agg .u8 (pb seed leaf), .int .i64 0]) ∧ Below w.heap.size w w' := by
  have h := Recover_in w leaf d (sg seed d leaf) (sg_length _ _ _) hd bd hleaf
  rw [ends_sg bd] at h
  exact h





theorem values_sg (hs : seed.length = 32) (bd : By d) (hleaf : leaf ≤ 65535) :
    Calls Tryz.prog 40 #[agg .u8 seed, .int .i64 (leaf : Int), agg .i64 (sp d)] w fun e w' => e = .returned (agg .u8 (sg seed d leaf)) ∧ Below w.heap.size w w' := by
  have h := Ref.values w seed (sp d) leaf hs (sp_length d) (sp_le bd) hleaf
  rw [show flat (Ref.valF seed (sp d) leaf) 35 = sg seed d leaf from flat_congr fun c hc => by unfold Ref.valF sgnF; rw [sp_getD d c hc]] at h
  exact h
theorem values_pb (hs : seed.length = 32) (hleaf : leaf ≤ 65535) :
    Calls Tryz.prog 40 #[agg .u8 seed, .int .i64 (leaf : Int), agg .i64 ((List.range 35).map fun _ => 15)] w fun e w' => e = .returned (agg .u8 (flat (pubF seed leaf) 35)) ∧ Below w.heap.size w w' := by
  have hg : ∀ c, c < 35 → ((List.range 35).map fun _ => 15).getD c 0 = 15 := fun c hc => by simp [List.getD, hc]
  have h := Ref.values w seed ((List.range 35).map fun _ => 15) leaf hs (by simp) (fun j => by
    by_cases hj : j < 35
    · rw [hg j hj]; omega
    · rw [List.getD_eq_getElem?_getD, List.getElem?_eq_none (by simp; omega)]; decide) hleaf
  rw [show flat (Ref.valF seed ((List.range 35).map fun _ => 15) leaf) 35 = flat (pubF seed leaf) 35 from flat_congr fun c hc => by unfold Ref.valF pubF; rw [hg c hc]] at h
  exact h
theorem compress_pb (hleaf : leaf ≤ 65535) :
    Calls Tryz.prog 75 #[.int .i64 (leaf : Int), agg .u8 (flat (pubF seed leaf) 35)] w fun e w' => e = .returned (agg .u8 (pb seed leaf)) ∧ Below w.heap.size w w' :=
  Ref.compress w leaf (flat (pubF seed leaf) 35) (flat_length (pubF_length seed leaf) 35) hleaf
end
/-- The public value of a seed and a leaf, without its text. -/
theorem pub_facts (seed : List Nat) (leaf : Nat) (hs : seed.length = 32) (hleaf : leaf ≤ 65535) : ∃ P V : List Nat, P.length = 16 ∧ V.length = 560 ∧
    Hid (∀ w, Calls Tryz.prog 70 #[agg .u8 seed, .int .i64 (leaf : Int)] w fun e w' => e = .returned (.tuple #[agg .u8 P, .int .i64 0]) ∧ Below w.heap.size w w') ∧
    Hid (∀ w, Calls Tryz.prog 40 #[agg .u8 seed, .int .i64 (leaf : Int), agg .i64 ((List.range 35).map fun _ => 15)] w fun e w' => e = .returned (agg .u8 V) ∧ Below w.heap.size w w') ∧
    Hid (∀ w, Calls Tryz.prog 75 #[.int .i64 (leaf : Int), agg .u8 V] w fun e w' => e = .returned (agg .u8 P) ∧ Below w.heap.size w w') :=
  ⟨pb seed leaf, flat (pubF seed leaf) 35, pb_length _ _, flat_length (pubF_length seed leaf) 35, Lib.hid fun w => Public_pb w seed leaf hs hleaf, Lib.hid fun w => values_pb w seed leaf hs hleaf, Lib.hid fun w => compress_pb w seed leaf hleaf⟩















/-! arrays that are written as literals -/
def e1 : List Nat := (zs 16).set 0 1
def e2 : List Nat := (zs 16).set 0 2
def e12 : List Nat := ((zs 560).set 0 1).set 16 2
theorem rd_bl16 (x : Array (Nat × Value)) : Instr.build 23 x = blA 23 x := rfl
theorem rd_blrv (x : Array (Nat × Value)) : Instr.build 84 x = blA 84 x := rfl
theorem rd_blsig (x : Array (Nat × Value)) : Instr.build 74 x = blA 74 x := rfl
theorem rd_blbs (x : Array (Nat × Value)) : Instr.build 28 x = blA 28 x := rfl
theorem rd_blrvs (x : Array (Nat × Value)) : Instr.build 85 x = blA 85 x := rfl
theorem bl16_0 (w : World) : (blA 23 #[]).run Tryz.prog w = .ok (agg .u8 (zs 16)) w := by kernel_rfl
theorem bl16_1 (w : World) : (blA 23 #[(0, .int .u8 1)]).run Tryz.prog w = .ok (agg .u8 e1) w := by kernel_rfl
theorem bl16_2 (w : World) : (blA 23 #[(0, .int .u8 2)]).run Tryz.prog w = .ok (agg .u8 e2) w := by kernel_rfl
theorem blrv_1 (w : World) : (blA 84 #[(0, .int .u8 1)]).run Tryz.prog w = .ok (agg .u8 e1) w := by kernel_rfl
theorem blrv_2 (w : World) : (blA 84 #[(0, .int .u8 2)]).run Tryz.prog w = .ok (agg .u8 e2) w := by kernel_rfl
theorem blsig_0 (w : World) : (blA 74 #[]).run Tryz.prog w = .ok (agg .u8 (zs 560)) w := by kernel_rfl
theorem blbs_12 (w : World) : (blA 28 #[(0, agg .u8 e1), (1, agg .u8 e2)]).run Tryz.prog w = .ok (agg .u8 e12) w := by kernel_rfl
theorem blrvs_12 (w : World) : (blA 85 #[(0, agg .u8 e1), (1, agg .u8 e2)]).run Tryz.prog w = .ok (agg .u8 e12) w := by kernel_rfl
/-- The literals, without their texts. -/
theorem lits : ∃ E1 E2 E12 : List Nat, E12.length = 560 ∧ (∀ w : World, (blA 23 #[(0, .int .u8 1)]).run Tryz.prog w = .ok (agg .u8 E1) w) ∧ (∀ w : World, (blA 23 #[(0, .int .u8 2)]).run Tryz.prog w = .ok (agg .u8 E2) w) ∧
    (∀ w : World, (blA 84 #[(0, .int .u8 1)]).run Tryz.prog w = .ok (agg .u8 E1) w) ∧ (∀ w : World, (blA 84 #[(0, .int .u8 2)]).run Tryz.prog w = .ok (agg .u8 E2) w) ∧
    (∀ w : World, (blA 28 #[(0, agg .u8 E1), (1, agg .u8 E2)]).run Tryz.prog w = .ok (agg .u8 E12) w) ∧ (∀ w : World, (blA 85 #[(0, agg .u8 E1), (1, agg .u8 E2)]).run Tryz.prog w = .ok (agg .u8 E12) w) :=
  ⟨e1, e2, e12, by unfold e12; rw [List.length_set, List.length_set, zs_length], bl16_1, bl16_2, blrv_1, blrv_2, blbs_12, blrvs_12⟩
theorem e12_length : e12.length = 560 := by unfold e12; rw [List.length_set, List.length_set, zs_length]
end Go.Proofs.YtlgpipdeckdmjaaGreat.Signed
