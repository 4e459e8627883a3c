/-
  The walk of OnetimeSigns.
-/
import Derived.Test.YtlgpipdeckdmjaaSigned
set_option linter.unusedVariables false
set_option linter.unusedSimpArgs false
namespace Go.Proofs.Ytlgpipdeckdmjaa.SignsWalk
open Go.RowKit Base Reg Types Slice Sha
open Go.Proofs.Ytlgpipdeckdmjaa.One
open Go.Proofs.Ytlgpipdeckdmjaa.Known
open Go.Proofs.Ytlgpipdeckdmjaa.Signed
attribute [local go_sem ↓ high] rd_blsig
attribute [local go_sem] blsig_0
set_option maxRecDepth 20000 in
set_option maxHeartbeats 4000000 in
theorem walk_in (w : World) (seed d : List Nat) (leaf : Nat) (hs : seed.length = 32) (hd : d.length = 16) (bd : By d) (hleaf : leaf ≤ 65535) :
    Calls Try.prog 11 #[agg .u8 seed, .int .i64 (leaf : Int), agg .u8 d] w fun e w' => e = .returned (.bool true) ∧ Below w.heap.size w w' := by
  go_enter Try.func11, Try.ntmps11
  obtain ⟨S, P, D, ls, lp, ld, c1, c2, c3, c4, c5, c6, c7⟩ := sig_facts seed d leaf hs hd bd hleaf
  have i1 : decide ((0 : Int) ≤ (leaf : Int) ∧ (leaf : Int) ≤ 65535) = true := by simp; omega
  have I1 := Lib.hid i1
  clear i1
  go_wp2_with fail
  refine (known _).mono ?_
  rintro e w1 ⟨rfl, hb1⟩
  have A1 := Lib.hid (blk_keep (blk_alloc (blk_new w (cl .u8 seed) 31) (.cells (cl .u8 d).toArray 22)) hb1)
  have D1 := Lib.hid (blk_keep (blk_at (w.alloc (.cells (cl .u8 seed).toArray 31)) (cl .u8 d) 22 (b := w.heap.size + 1) (by simp only [alloc_size])) hb1)
  have L1 := Lib.hid (bel_trans (((Below.refl w.heap.size w).alloc (Nat.le_refl _) (.cells (cl .u8 seed).toArray 31)).alloc (by simp only [alloc_size]; omega) (.cells (cl .u8 d).toArray 22)) hb1 (by simp only [alloc_size]; omega))
  have q1 := bk_of A1.out
  have r1 := bk_of D1.out
  clear hb1
  go_wp2_with fail
  refine (c1.out w1).mono ?_
  rintro e w2 ⟨rfl, hb2⟩
  have A2 := Lib.hid (blk_alloc (blk_keep A1.out hb2) (.cells (cl .u8 S).toArray 68))
  have D2 := Lib.hid (blk_alloc (blk_keep D1.out hb2) (.cells (cl .u8 S).toArray 68))
  have S2 := Lib.hid (blk_new w2 (cl .u8 S) 68)
  have L2 := Lib.hid ((bel_trans L1.out hb2 L1.out.size).alloc (by have := bel_trans L1.out hb2 L1.out.size; exact this.size) (.cells (cl .u8 S).toArray 68))
  have q2 := bk_of (blk_keep A1.out hb2)
  have s2 := blk_lt (blk_keep A1.out hb2)
  clear hb2 q1 r1
  go_wp2_with fail
  refine (c2.out _).mono ?_
  rintro e w3 ⟨rfl, hb3⟩
  have A3 := Lib.hid (blk_alloc (blk_keep A2.out hb3) (.cells (cl .u8 P).toArray 22))
  have D3 := Lib.hid (blk_alloc (blk_keep D2.out hb3) (.cells (cl .u8 P).toArray 22))
  have S3 := Lib.hid (blk_alloc (blk_keep S2.out hb3) (.cells (cl .u8 P).toArray 22))
  have P3 := Lib.hid (blk_new w3 (cl .u8 P) 22)
  have L3 := Lib.hid ((bel_trans L2.out hb3 L2.out.size).alloc (by have := bel_trans L2.out hb3 L2.out.size; exact this.size) (.cells (cl .u8 P).toArray 22))
  have q3 := bk_of (blk_keep D2.out hb3)
  have r3 := bk_of (blk_keep S2.out hb3)
  have s3 := blk_lt (blk_keep D2.out hb3)
  have t3 := blk_lt (blk_keep S2.out hb3)
  clear hb3 q2 s2
  go_wp2_with fail
  refine (isin leaf 65535 _).mono ?_
  rintro e w4 ⟨rfl, rfl⟩
  rw [I1.out]
  go_wp2_with fail
  refine (c3.out _).mono ?_
  rintro e w5 ⟨rfl, hb5⟩
  have A5 := Lib.hid (blk_alloc (blk_keep A3.out hb5) (.cells (cl .u8 P).toArray 22))
  have D5 := Lib.hid (blk_alloc (blk_keep D3.out hb5) (.cells (cl .u8 P).toArray 22))
  have S5 := Lib.hid (blk_alloc (blk_keep S3.out hb5) (.cells (cl .u8 P).toArray 22))
  have P5 := Lib.hid (blk_alloc (blk_keep P3.out hb5) (.cells (cl .u8 P).toArray 22))
  have V5 := Lib.hid (blk_new w5 (cl .u8 P) 22)
  have L5 := Lib.hid ((bel_trans L3.out hb5 L3.out.size).alloc (by have := bel_trans L3.out hb5 L3.out.size; exact this.size) (.cells (cl .u8 P).toArray 22))
  clear hb5 q3 r3 s3 t3
  go_wp2_with fail
  obtain ⟨ι, F, hF, hin⟩ := class_of (fun W => blk W w.heap.size (cl .u8 seed) 31 ∧ blk W (w.heap.size + 1) (cl .u8 d) 22 ∧ blk W w2.heap.size (cl .u8 S) 68 ∧ blk W w3.heap.size (cl .u8 P) 22 ∧ blk W w5.heap.size (cl .u8 P) 22 ∧ Below w.heap.size w W)
  have h0 := hin (w5.alloc (.cells (cl .u8 P).toArray 22)).drew ⟨blk_drew A5.out, blk_drew D5.out, blk_drew S5.out, blk_drew P5.out, blk_drew V5.out, L5.out.drew⟩
  have hne : Nonempty ι := ⟨h0.choose⟩
  have q0 : ∀ i, bk (F i) w.heap.size = some (cl .u8 seed).toArray := fun i => bk_of (hF i).1
  have q1 : ∀ i, bk (F i) (w.heap.size + 1) = some (cl .u8 d).toArray := fun i => bk_of (hF i).2.1
  have q2 : ∀ i, bk (F i) w2.heap.size = some (cl .u8 S).toArray := fun i => bk_of (hF i).2.2.1
  have q3 : ∀ i, bk (F i) w3.heap.size = some (cl .u8 P).toArray := fun i => bk_of (hF i).2.2.2.1
  have q4 : ∀ i, bk (F i) w5.heap.size = some (cl .u8 P).toArray := fun i => bk_of (hF i).2.2.2.2.1
  have HF := Lib.hid hF
  have HI := Lib.hid hin
  have H0 := Lib.hid h0
  have hk : ∀ W W' : World, (blk W w.heap.size (cl .u8 seed) 31 ∧ blk W (w.heap.size + 1) (cl .u8 d) 22 ∧ blk W w2.heap.size (cl .u8 S) 68 ∧ blk W w3.heap.size (cl .u8 P) 22 ∧ blk W w5.heap.size (cl .u8 P) 22 ∧ Below w.heap.size w W) → Below W.heap.size W W' →
    (blk W' w.heap.size (cl .u8 seed) 31 ∧ blk W' (w.heap.size + 1) (cl .u8 d) 22 ∧ blk W' w2.heap.size (cl .u8 S) 68 ∧ blk W' w3.heap.size (cl .u8 P) 22 ∧ blk W' w5.heap.size (cl .u8 P) 22 ∧ Below w.heap.size w W') :=
    fun _ _ h hb => ⟨blk_keep h.1 hb, blk_keep h.2.1 hb, blk_keep h.2.2.1 hb, blk_keep h.2.2.2.1 hb, blk_keep h.2.2.2.2.1 hb, bel_trans h.2.2.2.2.2 hb h.2.2.2.2.2.size⟩
  have HK := Lib.hid hk
  clear hF hin h0 hk
  refine wp_region_all F (by kernel_rfl) (by kernel_rfl) H0.out ?_
  repeat (go_big_quiet_step (first
    | (go_at_call 37; exact quiet_below HF.out HI.out HK.out (c7.out _))
    | (go_at_call 18; exact quiet_below HF.out HI.out HK.out (c5.out _))
    | (go_at_call 40; exact quiet_below HF.out HI.out HK.out (c6.out _))
    | (go_at_call 34; exact quiet_below HF.out HI.out HK.out (c4.out _))))
  refine wpQuiet_nil ?_
  intro i
  go_wp2_with fail
  go_ret
  exact ⟨rfl, (HF.out i).2.2.2.2.2⟩
set_option maxRecDepth 20000 in
set_option maxHeartbeats 4000000 in
theorem walk_out (w : World) (seed d : List Nat) (leaf : Int) (hs : seed.length = 32) (hd : d.length = 16) (ho : ¬ (0 ≤ leaf ∧ leaf ≤ 65535)) :
    Calls Try.prog 11 #[agg .u8 seed, .int .i64 leaf, agg .u8 d] w fun e w' => e = .returned (.bool true) ∧ Below w.heap.size w w' := by
  go_enter Try.func11, Try.ntmps11
  obtain ⟨S, hS⟩ : ∃ S, S = zs 560 := ⟨_, rfl⟩
  obtain ⟨P, hP⟩ : ∃ P, P = zs 16 := ⟨_, rfl⟩
  have ls : S.length = 560 := by rw [hS, zs_length]
  have lp : P.length = 16 := by rw [hP, zs_length]
  have c1 := Lib.hid fun w => Sign_out w seed d leaf hs hd ho
  have c2 := Lib.hid fun w => Public_out w seed leaf hs ho
  rw [← hS] at c1
  rw [← hP] at c2
  have c3 := Lib.hid fun w => Verify_out w P leaf d S lp ls hd ho
  have g1 := blsig_0
  rw [← hS] at g1
  have HO := Lib.hid ho
  clear ho hS hP
  go_wp2_with fail
  refine (known _).mono ?_
  rintro e w1 ⟨rfl, hb1⟩
  have D1 := Lib.hid (blk_keep (blk_at (w.alloc (.cells (cl .u8 seed).toArray 31)) (cl .u8 d) 22 (b := w.heap.size + 1) (by simp only [alloc_size])) hb1)
  have A1 := Lib.hid (blk_keep (blk_alloc (blk_new w (cl .u8 seed) 31) (.cells (cl .u8 d).toArray 22)) hb1)
  have L1 := Lib.hid (bel_trans (((Below.refl w.heap.size w).alloc (Nat.le_refl _) (.cells (cl .u8 seed).toArray 31)).alloc (by simp only [alloc_size]; omega) (.cells (cl .u8 d).toArray 22)) hb1 (by simp only [alloc_size]; omega))
  have q1 := bk_of A1.out
  have r1 := bk_of D1.out
  clear hb1
  go_wp2_with fail
  refine (c1.out w1).mono ?_
  rintro e w2 ⟨rfl, hb2⟩
  have D2 := Lib.hid (blk_alloc (blk_keep D1.out hb2) (.cells (cl .u8 S).toArray 68))
  have S2 := Lib.hid (blk_new w2 (cl .u8 S) 68)
  have L2 := Lib.hid ((bel_trans L1.out hb2 L1.out.size).alloc (by have := bel_trans L1.out hb2 L1.out.size; exact this.size) (.cells (cl .u8 S).toArray 68))
  have q2 := bk_of (blk_keep A1.out hb2)
  have s2 := blk_lt (blk_keep A1.out hb2)
  clear hb2 q1 r1
  go_wp2_with fail
  refine (c2.out _).mono ?_
  rintro e w3 ⟨rfl, hb3⟩
  have D3 := Lib.hid (blk_alloc (blk_keep D2.out hb3) (.cells (cl .u8 P).toArray 22))
  have S3 := Lib.hid (blk_alloc (blk_keep S2.out hb3) (.cells (cl .u8 P).toArray 22))
  have L3 := Lib.hid ((bel_trans L2.out hb3 L2.out.size).alloc (by have := bel_trans L2.out hb3 L2.out.size; exact this.size) (.cells (cl .u8 P).toArray 22))
  have q3 := bk_of (blk_keep D2.out hb3)
  have r3 := bk_of (blk_keep S2.out hb3)
  have s3 := blk_lt (blk_keep D2.out hb3)
  have t3 := blk_lt (blk_keep S2.out hb3)
  clear hb3 q2 s2
  go_wp2_with fail
  refine (isin leaf 65535 _).mono ?_
  rintro e w4 ⟨rfl, rfl⟩
  rw [decide_eq_false HO.out]
  go_wp2_with fail
  refine (c3.out _).mono ?_
  rintro e w5 ⟨rfl, hb5⟩
  have L5 := bel_trans L3.out hb5 L3.out.size
  clear hb5
  go_wp2_with fail
  go_ret
  exact ⟨rfl, L5⟩
theorem walk (w : World) (seed : List Nat) (leaf : Int) (d : List Nat) (hs : seed.length = 32) (hb : ∀ j, seed.getD j 0 < 256) (hd : d.length = 16) (bd : ∀ j, d.getD j 0 < 256) :
    Calls Try.prog 11 #[agg .u8 seed, .int .i64 leaf, agg .u8 d] w fun e w' => e = .returned (.bool true) ∧ Below w.heap.size w w' := by
  by_cases h : 0 ≤ leaf ∧ leaf ≤ 65535
  · obtain ⟨l, rfl⟩ := Int.eq_ofNat_of_zero_le h.1
    exact walk_in w seed d l hs hd bd (by omega)
  · exact walk_out w seed d leaf hs hd h
end Go.Proofs.Ytlgpipdeckdmjaa.SignsWalk
