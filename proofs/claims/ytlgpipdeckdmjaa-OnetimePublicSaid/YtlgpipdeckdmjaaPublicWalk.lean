/-
  The walk of OnetimePublic.
-/
import Derived.Test.YtlgpipdeckdmjaaSigned
set_option linter.unusedVariables false
set_option linter.unusedSimpArgs false
namespace Go.Proofs.Ytlgpipdeckdmjaa.PublicWalk
open Go.RowKit Base Reg Types Slice Sha
open Go.Proofs.Ytlgpipdeckdmjaa.One
open Go.Proofs.Ytlgpipdeckdmjaa.Known
open Go.Proofs.Ytlgpipdeckdmjaa.Signed
attribute [local go_sem ↓ high] rd_bl16 rd_blrv rd_blbs rd_blrvs
attribute [local go_sem] bl16_0
set_option maxRecDepth 20000 in
set_option maxHeartbeats 4000000 in
theorem walk_in (w : World) (seed : List Nat) (leaf : Nat) (hs : seed.length = 32) (hleaf : leaf ≤ 65535) :
    Calls Try.prog 10 #[agg .u8 seed, .int .i64 (leaf : Int)] w fun e w' => e = .returned (.bool true) ∧ Below w.heap.size w w' := by
  go_enter Try.func10, Try.ntmps10
  obtain ⟨E1, E2, E12, le, g1, g2, g3, g4, g5, g6⟩ := lits
  obtain ⟨P, V, lp, lv, c1, c2, c3⟩ := pub_facts seed leaf hs hleaf
  obtain ⟨C, lc, k1, k2⟩ := cmp_facts leaf E12 le hleaf
  have i1 : decide ((0 : Int) ≤ (leaf : Int) ∧ (leaf : Int) ≤ 65535) = true := by simp; omega
  have I1 := Lib.hid i1
  clear i1
  go_wp2_with fail
  refine (known _).mono ?_
  rintro e w1 ⟨rfl, hb1⟩
  have A1 := Lib.hid (blk_keep (blk_new w (cl .u8 seed) 31) hb1)
  have L1 := Lib.hid (bel_trans ((Below.refl w.heap.size w).alloc (Nat.le_refl _) (.cells (cl .u8 seed).toArray 31)) hb1 (by simp only [alloc_size]; omega))
  have q1 := bk_of A1.out
  clear hb1
  go_wp2_with fail
  refine (c1.out w1).mono ?_
  rintro e w2 ⟨rfl, hb2⟩
  have A2 := Lib.hid (blk_alloc (blk_keep A1.out hb2) (.cells (cl .u8 P).toArray 22))
  have P2 := Lib.hid (blk_new w2 (cl .u8 P) 22)
  have L2 := Lib.hid ((bel_trans L1.out hb2 L1.out.size).alloc (by have := bel_trans L1.out hb2 L1.out.size; exact this.size) (.cells (cl .u8 P).toArray 22))
  clear hb2 q1
  go_wp2_with fail
  refine (k1.out _).mono ?_
  rintro e w3 ⟨rfl, hb3⟩
  have A3 := Lib.hid (blk_alloc (blk_keep A2.out hb3) (.cells (cl .u8 C).toArray 22))
  have P3 := Lib.hid (blk_alloc (blk_keep P2.out hb3) (.cells (cl .u8 C).toArray 22))
  have C3 := Lib.hid (blk_new w3 (cl .u8 C) 22)
  have L3 := Lib.hid ((bel_trans L2.out hb3 L2.out.size).alloc (by have := bel_trans L2.out hb3 L2.out.size; exact this.size) (.cells (cl .u8 C).toArray 22))
  clear hb3
  go_wp2_with fail
  refine (isin leaf 65535 _).mono ?_
  rintro e w4 ⟨rfl, rfl⟩
  rw [I1.out]
  go_wp2_with fail
  obtain ⟨ι, F, hF, hin⟩ := class_of (fun W => blk W w.heap.size (cl .u8 seed) 31 ∧ blk W w2.heap.size (cl .u8 P) 22 ∧ blk W w3.heap.size (cl .u8 C) 22 ∧ Below w.heap.size w W)
  have h0 := hin (w3.alloc (.cells (cl .u8 C).toArray 22)).drew ⟨blk_drew A3.out, blk_drew P3.out, blk_drew C3.out, L3.out.drew⟩
  have hne : Nonempty ι := ⟨h0.choose⟩
  have q0 : ∀ i, bk (F i) w.heap.size = some (cl .u8 seed).toArray := fun i => bk_of (hF i).1
  have q1 : ∀ i, bk (F i) w2.heap.size = some (cl .u8 P).toArray := fun i => bk_of (hF i).2.1
  have q2 : ∀ i, bk (F i) w3.heap.size = some (cl .u8 C).toArray := fun i => bk_of (hF i).2.2.1
  have HF := Lib.hid hF
  have HI := Lib.hid hin
  have H0 := Lib.hid h0
  clear hF hin h0
  refine wp_region_all F (by kernel_rfl) (by kernel_rfl) H0.out ?_
  repeat (go_big_quiet_step (first
    | (go_at_call 41; exact quiet_below HF.out HI.out (fun _ _ h hb => ⟨blk_keep h.1 hb, blk_keep h.2.1 hb, blk_keep h.2.2.1 hb, bel_trans h.2.2.2 hb h.2.2.2.size⟩) (Ref.all_calls _ 15))
    | (go_at_call 40; exact quiet_below HF.out HI.out (fun _ _ h hb => ⟨blk_keep h.1 hb, blk_keep h.2.1 hb, blk_keep h.2.2.1 hb, bel_trans h.2.2.2 hb h.2.2.2.size⟩) (c2.out _))
    | (go_at_call 35; first
      | (with_reducible exact quiet_below HF.out HI.out (fun _ _ h hb => ⟨blk_keep h.1 hb, blk_keep h.2.1 hb, blk_keep h.2.2.1 hb, bel_trans h.2.2.2 hb h.2.2.2.size⟩) (c3.out _))
      | (with_reducible exact quiet_below HF.out HI.out (fun _ _ h hb => ⟨blk_keep h.1 hb, blk_keep h.2.1 hb, blk_keep h.2.2.1 hb, bel_trans h.2.2.2 hb h.2.2.2.size⟩) (k2.out _)))))
  refine wpQuiet_nil ?_
  intro i
  go_wp2_with fail
  go_ret
  exact ⟨rfl, (HF.out i).2.2.2⟩
set_option maxRecDepth 20000 in
set_option maxHeartbeats 4000000 in
theorem walk_out (w : World) (seed : List Nat) (leaf : Int) (hs : seed.length = 32) (ho : ¬ (0 ≤ leaf ∧ leaf ≤ 65535)) :
    Calls Try.prog 10 #[agg .u8 seed, .int .i64 leaf] w fun e w' => e = .returned (.bool true) ∧ Below w.heap.size w w' := by
  go_enter Try.func10, Try.ntmps10
  obtain ⟨E1, E2, E12, le, g1, g2, g3, g4, g5, g6⟩ := lits
  have HO := Lib.hid ho
  clear ho
  go_wp2_with fail
  refine (known _).mono ?_
  rintro e w1 ⟨rfl, hb1⟩
  have q1 := bk_of (blk_keep (blk_new w (cl .u8 seed) 31) hb1)
  have L1 := Lib.hid (bel_trans ((Below.refl w.heap.size w).alloc (Nat.le_refl _) (.cells (cl .u8 seed).toArray 31)) hb1 (by simp only [alloc_size]; omega))
  clear hb1
  go_wp2_with fail
  refine (Public_out w1 seed leaf hs HO.out).mono ?_
  rintro e w2 ⟨rfl, hb2⟩
  have P2 := Lib.hid (blk_new w2 (cl .u8 (zs 16)) 22)
  have L2 := Lib.hid ((bel_trans L1.out hb2 L1.out.size).alloc (by have := bel_trans L1.out hb2 L1.out.size; exact this.size) (.cells (cl .u8 (zs 16)).toArray 22))
  have lz : (zs 16).length = 16 := rfl
  clear hb2 q1
  go_wp2_with fail
  refine (Compress_out _ leaf E12 le HO.out).mono ?_
  rintro e w3 ⟨rfl, hb3⟩
  have P3 := bk_of (blk_alloc (blk_keep P2.out hb3) (.cells (cl .u8 (zs 16)).toArray 22))
  have C3 := bk_of (blk_new w3 (cl .u8 (zs 16)) 22)
  have L3 := Lib.hid ((bel_trans L2.out hb3 L2.out.size).alloc (by have := bel_trans L2.out hb3 L2.out.size; exact this.size) (.cells (cl .u8 (zs 16)).toArray 22))
  have s3 := blk_lt (blk_keep P2.out hb3)
  have p3 := bk_of (blk_keep P2.out hb3)
  clear hb3
  go_wp2_with fail
  refine (isin leaf 65535 _).mono ?_
  rintro e w4 ⟨rfl, rfl⟩
  rw [decide_eq_false HO.out]
  go_wp2_with fail
  go_ret
  exact ⟨rfl, L3.out⟩
theorem walk (w : World) (seed : List Nat) (leaf : Int) (hs : seed.length = 32) :
    Calls Try.prog 10 #[agg .u8 seed, .int .i64 leaf] w fun e w' => e = .returned (.bool true) ∧ Below w.heap.size w w' := by
  by_cases h : 0 ≤ leaf ∧ leaf ≤ 65535
  · obtain ⟨l, rfl⟩ := Int.eq_ofNat_of_zero_le h.1
    exact walk_in w seed l hs (by omega)
  · exact walk_out w seed leaf hs h
end Go.Proofs.Ytlgpipdeckdmjaa.PublicWalk
