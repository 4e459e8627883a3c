/-
  The walk of OnetimeSecrets.
-/
import Derived.Test.YtlgpipdeckdmjaaKnown
set_option linter.unusedVariables false
set_option linter.unusedSimpArgs false
namespace Go.Proofs.Ytlgpipdeckdmjaa.SecretsWalk
open Go.RowKit Base Reg Types Slice Sha
open Go.Proofs.Ytlgpipdeckdmjaa.One
open Go.Proofs.Ytlgpipdeckdmjaa.Known
theorem eq_zero (W : World) : (eqA 22 (.agg (cl .u8 (zs 16)).toArray) (.agg #[.int .u8 0, .int .u8 0, .int .u8 0, .int .u8 0, .int .u8 0, .int .u8 0, .int .u8 0, .int .u8 0, .int .u8 0, .int .u8 0, .int .u8 0, .int .u8 0, .int .u8 0, .int .u8 0, .int .u8 0, .int .u8 0])).run Try.prog W = .ok (.bool true) W := by kernel_rfl
set_option maxRecDepth 20000 in
set_option maxHeartbeats 4000000 in
theorem walk_in (w : World) (seed : List Nat) (leaf chain : Nat) (hs : seed.length = 32) (hleaf : leaf ≤ 65535) (hc : chain ≤ 34) :
    Calls Try.prog 5 #[agg .u8 seed, .int .i64 (leaf : Int), .int .i64 (chain : Int)] w fun e w' => e = .returned (.bool true) ∧ Below w.heap.size w w' := by
  go_enter Try.func5, Try.ntmps5
  have i1 : decide ((0 : Int) ≤ (leaf : Int) ∧ (leaf : Int) ≤ 65535) = true := by simp; omega
  have i2 : decide ((0 : Int) ≤ (chain : Int) ∧ (chain : Int) ≤ 34) = true := by simp; omega
  have I1 := Lib.hid i1
  have I2 := Lib.hid i2
  clear i1 i2
  go_wp2_with fail
  refine (Secret_in _ seed leaf chain hs hleaf hc).mono ?_
  rintro e w1 ⟨rfl, hb1⟩
  have A1 := Lib.hid (blk_keep (blk_new w (cl .u8 seed) 31) hb1)
  have L1 := Lib.hid (bel_trans ((Below.refl w.heap.size w).alloc (Nat.le_refl _) (.cells (cl .u8 seed).toArray 31)) hb1 (by simp only [alloc_size]; omega))
  have sl := sec_length seed leaf chain
  clear hb1
  go_wp2_with fail
  refine (isin leaf 65535 _).mono ?_
  rintro e w2 ⟨rfl, rfl⟩
  rw [I1.out]
  go_wp2_with fail
  refine (isin chain 34 _).mono ?_
  rintro e w2 ⟨rfl, rfl⟩
  rw [I2.out]
  go_wp2_with fail
  obtain ⟨ι, F, hF, hin⟩ := class_of (fun W => blk W w.heap.size (cl .u8 seed) 31 ∧ blk W w1.heap.size (cl .u8 (sec seed leaf chain)) 22 ∧ Below w.heap.size w W)
  have h0 := hin (w1.alloc (.cells (cl .u8 (sec seed leaf chain)).toArray 22)).drew ⟨blk_drew (blk_alloc A1.out _), blk_drew (blk_new _ _ _), (L1.out.alloc L1.out.size _).drew⟩
  have hne : Nonempty ι := ⟨h0.choose⟩
  have q0 : ∀ i, bk (F i) w.heap.size = some (cl .u8 seed).toArray := fun i => bk_of (hF i).1
  have q1 : ∀ i, bk (F i) w1.heap.size = some (cl .u8 (sec seed leaf chain)).toArray := fun i => bk_of (hF i).2.1
  have HF := Lib.hid hF
  have HI := Lib.hid hin
  have H0 := Lib.hid h0
  clear hF hin h0
  refine wp_region_all F (by kernel_rfl) (by kernel_rfl) H0.out ?_
  repeat (go_big_quiet_step (first
    | (go_at_call 16; exact quiet_below HF.out HI.out (fun _ _ h hb => ⟨blk_keep h.1 hb, blk_keep h.2.1 hb, bel_trans h.2.2 hb h.2.2.size⟩) (known _))
    | (go_at_call 21; exact quiet_below HF.out HI.out (fun _ _ h hb => ⟨blk_keep h.1 hb, blk_keep h.2.1 hb, bel_trans h.2.2 hb h.2.2.size⟩) (Ref.secret _ seed leaf chain hs hleaf (by omega)))))
  refine wpQuiet_nil ?_
  intro i
  go_wp2_with fail
  go_ret
  exact ⟨rfl, (HF.out i).2.2⟩
set_option maxRecDepth 20000 in
set_option maxHeartbeats 4000000 in
theorem walk_out (w : World) (seed : List Nat) (leaf chain : Int) (hs : seed.length = 32) (ho : ¬ ((0 ≤ leaf ∧ leaf ≤ 65535) ∧ (0 ≤ chain ∧ chain ≤ 34))) :
    Calls Try.prog 5 #[agg .u8 seed, .int .i64 leaf, .int .i64 chain] w fun e w' => e = .returned (.bool true) ∧ Below w.heap.size w w' := by
  go_enter Try.func5, Try.ntmps5
  have HO := Lib.hid ho
  clear ho
  go_wp2_with fail
  refine (Secret_out _ seed leaf chain hs HO.out).mono ?_
  rintro e w1 ⟨rfl, hb1⟩
  have L1 := Lib.hid (bel_trans ((Below.refl w.heap.size w).alloc (Nat.le_refl _) (.cells (cl .u8 seed).toArray 31)) hb1 (by simp only [alloc_size]; omega))
  clear hb1
  go_wp2_with fail
  refine (isin leaf 65535 _).mono ?_
  rintro e w2 ⟨rfl, rfl⟩
  by_cases h1 : 0 ≤ leaf ∧ leaf ≤ 65535
  · rw [decide_eq_true h1]
    go_wp2_with fail
    refine (isin chain 34 _).mono ?_
    rintro e w2 ⟨rfl, rfl⟩
    rw [decide_eq_false (fun h2 => HO.out ⟨h1, h2⟩)]
    clear h1
    go_wp2_with fail
    refine (known _).mono ?_
    rintro e w4 ⟨rfl, hb4⟩
    have B4 := bk_of (blk_keep (blk_new w1 (cl .u8 (zs 16)) 22) hb4)
    have L4 := bel_trans (L1.out.alloc L1.out.size _) hb4 (by have := L1.out.size; simp only [alloc_size]; omega)
    clear hb4
    have eq0 := eq_zero
    go_wp2_with fail
    go_ret
    exact ⟨rfl, L4⟩
  · rw [decide_eq_false h1]
    clear h1
    go_wp2_with fail
    refine (known _).mono ?_
    rintro e w4 ⟨rfl, hb4⟩
    have B4 := bk_of (blk_keep (blk_new w1 (cl .u8 (zs 16)) 22) hb4)
    have L4 := bel_trans (L1.out.alloc L1.out.size _) hb4 (by have := L1.out.size; simp only [alloc_size]; omega)
    clear hb4
    have eq0 := eq_zero
    go_wp2_with fail
    go_ret
    exact ⟨rfl, L4⟩
theorem walk (w : World) (seed : List Nat) (leaf chain : Int) (hs : seed.length = 32) :
    Calls Try.prog 5 #[agg .u8 seed, .int .i64 leaf, .int .i64 chain] w fun e w' => e = .returned (.bool true) ∧ Below w.heap.size w w' := by
  by_cases h : (0 ≤ leaf ∧ leaf ≤ 65535) ∧ (0 ≤ chain ∧ chain ≤ 34)
  · obtain ⟨l, rfl⟩ := Int.eq_ofNat_of_zero_le h.1.1
    obtain ⟨c, rfl⟩ := Int.eq_ofNat_of_zero_le h.2.1
    exact walk_in w seed l c hs (by omega) (by omega)
  · exact walk_out w seed leaf chain hs h
end Go.Proofs.Ytlgpipdeckdmjaa.SecretsWalk
