/-
  The walk of OnetimeDigits.
-/
import Derived.Test.YtlgpipdeckdmjaaKnown
set_option linter.unusedVariables false
set_option linter.unusedSimpArgs false
namespace Go.Proofs.Ytlgpipdeckdmjaa.DigitsWalk
open Go.RowKit Base Reg Types Slice Sha
open Go.Proofs.Ytlgpipdeckdmjaa.One
open Go.Proofs.Ytlgpipdeckdmjaa.Known
set_option maxRecDepth 20000 in
set_option maxHeartbeats 4000000 in
theorem walk (w : World) (a b : List Nat) (ha : a.length = 16) (ba : By a) (hb : b.length = 16) (bb : By b) :
    Calls Try.prog 3 #[agg .u8 a, agg .u8 b] w fun e w' => e = .returned (.bool true) ∧ Below w.heap.size w w' := by
  have la := sp_length a
  have lb := sp_length b
  go_enter Try.func3, Try.ntmps3
  go_wp2_with fail
  obtain ⟨W0, hW0⟩ : ∃ W0, W0 = ((w.alloc (.cells (cl .u8 a).toArray 22)).alloc (.cells (cl .u8 b).toArray 22)) := ⟨_, rfl⟩
  have hA : At5 w a b W0 := by rw [hW0]; exact ⟨blk_alloc (blk_new _ _ _) _, blk_at _ _ _ (by simp only [alloc_size]), ((Below.refl w.heap.size w).alloc (Nat.le_refl _) _).alloc (by simp only [alloc_size]; omega) _⟩
  rw [← hW0]
  clear hW0
  refine (lower W0 a b ha hb ba bb).mono ?_
  rintro e w1 ⟨rfl, hb1⟩
  have A1 := hA.below hb1
  have q1 := bk_of A1.1
  have q2 := bk_of A1.2.1
  have HA1 := Lib.hid A1
  clear hA hb1 A1
  have hc : ∀ c, lwr a b = some c → c < 35 := fun c h => by
    have := List.mem_of_find?_eq_some h
    simpa using this
  cases hl : lwr a b with
  | none =>
    have HL := Lib.hid hl
    clear hl hc
    unfold lwV
    go_wp2_with fail
    refine (Ref.lower w1 a b ha hb ba bb).mono ?_
    rintro e w2 ⟨rfl, hb2⟩
    rw [HL.out]
    have A2 := Lib.hid (HA1.out.below hb2)
    unfold Ref.lwI
    clear hb2 q1 q2
    go_wp2_with fail
    obtain ⟨ι, F, hF, hin⟩ := class_of (At5 w a b)
    have h0 := hin w2.drew A2.out.drew
    have hne : Nonempty ι := ⟨h0.choose⟩
    have q1 : ∀ i, bk (F i) w.heap.size = some (cl .u8 a).toArray := fun i => bk_of (hF i).1
    have q2 : ∀ i, bk (F i) (w.heap.size + 1) = some (cl .u8 b).toArray := fun i => bk_of (hF i).2.1
    have HF := Lib.hid hF
    have HI := Lib.hid hin
    have H0 := Lib.hid h0
    clear hF hin h0
    refine wp_region_all F (by kernel_rfl) (by kernel_rfl) H0.out ?_
    repeat (go_big_quiet_step (first
      | (go_at_call 16; exact quiet_below HF.out HI.out (fun _ _ => At5.below) (known _))
      | (go_at_call 17; exact quiet_below HF.out HI.out (fun _ _ => At5.below) (split _ _ (by assumption) (by assumption)))
      | (go_at_call 18; exact quiet_below HF.out HI.out (fun _ _ => At5.below) (Ref.split _ _ (by assumption) (by assumption)))))
    refine wpQuiet_nil ?_
    intro i
    go_wp2_with fail
    go_ret
    exact ⟨rfl, (HF.out i).2.2⟩
  | some c =>
    have hc35 := hc c hl
    have HL := Lib.hid hl
    clear hl hc
    unfold lwV
    go_wp2_with fail
    refine (Ref.lower w1 a b ha hb ba bb).mono ?_
    rintro e w2 ⟨rfl, hb2⟩
    rw [HL.out]
    have A2 := Lib.hid (HA1.out.below hb2)
    unfold Ref.lwI
    clear hb2 q1 q2
    have hc0 : (0 : Int) ≤ (c : Int) := by omega
    go_wp2_with fail
    obtain ⟨ι, F, hF, hin⟩ := class_of (At5 w a b)
    have h0 := hin w2.drew A2.out.drew
    have hne : Nonempty ι := ⟨h0.choose⟩
    have q1 : ∀ i, bk (F i) w.heap.size = some (cl .u8 a).toArray := fun i => bk_of (hF i).1
    have q2 : ∀ i, bk (F i) (w.heap.size + 1) = some (cl .u8 b).toArray := fun i => bk_of (hF i).2.1
    have HF := Lib.hid hF
    have HI := Lib.hid hin
    have H0 := Lib.hid h0
    clear hF hin h0
    refine wp_region_all F (by kernel_rfl) (by kernel_rfl) H0.out ?_
    repeat (go_big_quiet_step (first
      | (go_at_call 16; exact quiet_below HF.out HI.out (fun _ _ => At5.below) (known _))
      | (go_at_call 17; exact quiet_below HF.out HI.out (fun _ _ => At5.below) (split _ _ (by assumption) (by assumption)))
      | (go_at_call 18; exact quiet_below HF.out HI.out (fun _ _ => At5.below) (Ref.split _ _ (by assumption) (by assumption)))))
    refine wpQuiet_nil ?_
    intro i
    go_wp2_with fail
    go_ret
    exact ⟨rfl, (HF.out i).2.2⟩
end Go.Proofs.Ytlgpipdeckdmjaa.DigitsWalk
