/-
  What Sign and Public come to, and how the reference and Recover agree with it.
-/
import Derived.Test.YtlgpipdeckdmjaaKnown
import Derived.Test.YtlgpipdeckdmjaaOne12
import Derived.Test.YtlgpipdeckdmjaaRef9
set_option linter.unusedVariables false
set_option linter.unusedSimpArgs false
namespace Go.Proofs.Ytlgpipdeckdmjaa.Signed
open Go.RowKit Base Reg Types Slice Sha
open Go.Proofs.Ytlgpipdeckdmjaa.One
theorem adv_parts (leaf chain a m n : Nat) (v : List Nat) : adv leaf chain (a + m) n (adv leaf chain a m v) = adv leaf chain a (m + n) v := by
  induction n with
  | zero => rfl
  | succ n ih => rw [← Nat.add_assoc, adv, adv, ih, Nat.add_assoc]
theorem flat_congr {F G : Nat → List Nat} : ∀ {k : Nat}, (∀ c, c < k → F c = G c) → flat F k = flat G k
  | 0, _ => rfl
  | k + 1, h => by rw [flat_succ, flat_succ, flat_congr (fun c hc => h c (by omega)), h k (by omega)]
theorem elt_flat {F : Nat → List Nat} (hF : ∀ c, (F c).length = 16) : ∀ {k c : Nat}, c < k → elt (flat F k) c = F c
  | 0, c, h => absurd h (Nat.not_lt_zero c)
  | k + 1, c, h => by
    have hl := flat_length hF k
    rw [flat_succ]
    by_cases hc : c < k
    · have := elt_flat hF hc
      unfold elt at this ⊢
      rw [List.drop_append_of_le_length (by omega), List.take_append_of_le_length (by simp; omega)]
      exact this
    · obtain rfl : c = k := by omega
      unfold elt
      rw [List.drop_append, List.drop_eq_nil_of_le (by omega), List.nil_append, hl, show c * 16 - 16 * c = 0 by omega, List.drop_zero, List.take_of_length_le (by rw [hF]; omega)]
def sg (seed d : List Nat) (leaf : Nat) : List Nat := flat (sgnF seed d leaf) 35
def pb (seed : List Nat) (leaf : Nat) : List Nat := cmp leaf (flat (pubF seed leaf) 35)
theorem sg_length (seed d : List Nat) (leaf : Nat) : (sg seed d leaf).length = 560 := flat_length (sgnF_length seed d leaf) 35
theorem pb_length (seed : List Nat) (leaf : Nat) : (pb seed leaf).length = 16 := cmp_length _ _
theorem ends_sg {seed d : List Nat} {leaf : Nat} (bd : By d) : flat (endF (sg seed d leaf) d leaf) 35 = flat (pubF seed leaf) 35 := by
  refine flat_congr fun c hc => ?_
  have h15 := spd_le bd c
  unfold endF
  rw [if_pos hc, sg, elt_flat (sgnF_length seed d leaf) hc]
  unfold sgnF pubF
  have h := adv_parts leaf c 0 (spd d c) (15 - spd d c) (sec seed leaf c)
  rw [Nat.zero_add, show spd d c + (15 - spd d c) = 15 by omega] at h
  exact h
section
variable (w : World) (seed d : List Nat) (leaf : Nat)
theorem Sign_sg (hs : seed.length = 32) (hd : d.length = 16) (bd : By d) (hleaf : leaf ≤ 65535) :
    Calls Try.prog 42 #[agg .u8 seed, .int .i64 (leaf : Int), agg .u8 d] w fun e w' => e = .returned (.tuple #[agg .u8 (sg seed d leaf), .int .i64 0]) ∧ Below w.heap.size w w' := Sign_in w seed d leaf hs hd bd hleaf
theorem Public_pb (hs : seed.length = 32) (hleaf : leaf ≤ 65535) :
    Calls Try.prog 38 #[agg .u8 seed, .int .i64 (leaf : Int)] w fun e w' => e = .returned (.tuple #[agg .u8 (pb seed leaf), .int .i64 0]) ∧ Below w.heap.size w w' := Public_in w seed leaf hs hleaf
theorem Recover_sg (hd : d.length = 16) (bd : By d) (hleaf : leaf ≤ 65535) :
    Calls Try.prog 33 #[.int .i64 (leaf : Int), agg .u8 d, agg .u8 (sg seed d leaf)] w fun e w' => e = .returned (.tuple #[agg .u8 (pb seed leaf), .int .i64 0]) ∧ Below w.heap.size w w' := by
  have h := Recover_in w leaf d (sg seed d leaf) (sg_length _ _ _) hd bd hleaf
  rw [ends_sg bd] at h
  exact h
theorem Verify_sg (hd : d.length = 16) (bd : By d) (hleaf : leaf ≤ 65535) :
    Calls Try.prog 34 #[agg .u8 (pb seed leaf), .int .i64 (leaf : Int), agg .u8 d, agg .u8 (sg seed d leaf)] w fun e w' => e = .returned (.bool true) ∧ Below w.heap.size w w' := by
  have h := Verify_in w (pb seed leaf) leaf d (sg seed d leaf) (pb_length _ _) (sg_length _ _ _) hd bd hleaf
  rw [ends_sg bd, show decide (cmp leaf (flat (pubF seed leaf) 35) = pb seed leaf) = true from decide_eq_true rfl] at h
  exact h
theorem values_sg (hs : seed.length = 32) (bd : By d) (hleaf : leaf ≤ 65535) :
    Calls Try.prog 40 #[agg .u8 seed, .int .i64 (leaf : Int), agg .i64 (sp d)] w fun e w' => e = .returned (agg .u8 (sg seed d leaf)) ∧ Below w.heap.size w w' := by
  have h := Ref.values w seed (sp d) leaf hs (sp_length d) (sp_le bd) hleaf
  rw [show flat (Ref.valF seed (sp d) leaf) 35 = sg seed d leaf from flat_congr fun c hc => by unfold Ref.valF sgnF; rw [sp_getD d c hc]] at h
  exact h
theorem values_pb (hs : seed.length = 32) (hleaf : leaf ≤ 65535) :
    Calls Try.prog 40 #[agg .u8 seed, .int .i64 (leaf : Int), agg .i64 ((List.range 35).map fun _ => 15)] w fun e w' => e = .returned (agg .u8 (flat (pubF seed leaf) 35)) ∧ Below w.heap.size w w' := by
  have hg : ∀ c, c < 35 → ((List.range 35).map fun _ => 15).getD c 0 = 15 := fun c hc => by simp [List.getD, hc]
  have h := Ref.values w seed ((List.range 35).map fun _ => 15) leaf hs (by simp) (fun j => by
    by_cases hj : j < 35
    · rw [hg j hj]; omega
    · rw [List.getD_eq_getElem?_getD, List.getElem?_eq_none (by simp; omega)]; decide) hleaf
  rw [show flat (Ref.valF seed ((List.range 35).map fun _ => 15) leaf) 35 = flat (pubF seed leaf) 35 from flat_congr fun c hc => by unfold Ref.valF pubF; rw [hg c hc]] at h
  exact h
theorem compress_pb (hleaf : leaf ≤ 65535) :
    Calls Try.prog 35 #[.int .i64 (leaf : Int), agg .u8 (flat (pubF seed leaf) 35)] w fun e w' => e = .returned (agg .u8 (pb seed leaf)) ∧ Below w.heap.size w w' :=
  Ref.compress w leaf (flat (pubF seed leaf) 35) (flat_length (pubF_length seed leaf) 35) hleaf
end
/-- The public value of a seed and a leaf, without its text. -/
theorem pub_facts (seed : List Nat) (leaf : Nat) (hs : seed.length = 32) (hleaf : leaf ≤ 65535) : ∃ P V : List Nat, P.length = 16 ∧ V.length = 560 ∧
    Hid (∀ w, Calls Try.prog 38 #[agg .u8 seed, .int .i64 (leaf : Int)] w fun e w' => e = .returned (.tuple #[agg .u8 P, .int .i64 0]) ∧ Below w.heap.size w w') ∧
    Hid (∀ w, Calls Try.prog 40 #[agg .u8 seed, .int .i64 (leaf : Int), agg .i64 ((List.range 35).map fun _ => 15)] w fun e w' => e = .returned (agg .u8 V) ∧ Below w.heap.size w w') ∧
    Hid (∀ w, Calls Try.prog 35 #[.int .i64 (leaf : Int), agg .u8 V] w fun e w' => e = .returned (agg .u8 P) ∧ Below w.heap.size w w') :=
  ⟨pb seed leaf, flat (pubF seed leaf) 35, pb_length _ _, flat_length (pubF_length seed leaf) 35, Lib.hid fun w => Public_pb w seed leaf hs hleaf, Lib.hid fun w => values_pb w seed leaf hs hleaf, Lib.hid fun w => compress_pb w seed leaf hleaf⟩
theorem cmp_facts (leaf : Nat) (E : List Nat) (hE : E.length = 560) (hleaf : leaf ≤ 65535) : ∃ C : List Nat, C.length = 16 ∧
    Hid (∀ w, Calls Try.prog 39 #[.int .i64 (leaf : Int), agg .u8 E] w fun e w' => e = .returned (.tuple #[agg .u8 C, .int .i64 0]) ∧ Below w.heap.size w w') ∧
    Hid (∀ w, Calls Try.prog 35 #[.int .i64 (leaf : Int), agg .u8 E] w fun e w' => e = .returned (agg .u8 C) ∧ Below w.heap.size w w') :=
  ⟨cmp leaf E, cmp_length _ _, Lib.hid fun w => Compress_in w leaf E hE hleaf, Lib.hid fun w => Ref.compress w leaf E hE hleaf⟩
/-- A signature of a seed, a leaf and a digest, without its text. -/
theorem sig_facts (seed d : List Nat) (leaf : Nat) (hs : seed.length = 32) (hd : d.length = 16) (bd : By d) (hleaf : leaf ≤ 65535) : ∃ S P D : List Nat, S.length = 560 ∧ P.length = 16 ∧ D.length = 35 ∧
    Hid (∀ w, Calls Try.prog 42 #[agg .u8 seed, .int .i64 (leaf : Int), agg .u8 d] w fun e w' => e = .returned (.tuple #[agg .u8 S, .int .i64 0]) ∧ Below w.heap.size w w') ∧
    Hid (∀ w, Calls Try.prog 38 #[agg .u8 seed, .int .i64 (leaf : Int)] w fun e w' => e = .returned (.tuple #[agg .u8 P, .int .i64 0]) ∧ Below w.heap.size w w') ∧
    Hid (∀ w, Calls Try.prog 33 #[.int .i64 (leaf : Int), agg .u8 d, agg .u8 S] w fun e w' => e = .returned (.tuple #[agg .u8 P, .int .i64 0]) ∧ Below w.heap.size w w') ∧
    Hid (∀ w, Calls Try.prog 34 #[agg .u8 P, .int .i64 (leaf : Int), agg .u8 d, agg .u8 S] w fun e w' => e = .returned (.bool true) ∧ Below w.heap.size w w') ∧
    Hid (∀ w, Calls Try.prog 18 #[agg .u8 d] w fun e w' => e = .returned (agg .i64 D) ∧ Below w.heap.size w w') ∧
    Hid (∀ w, Calls Try.prog 40 #[agg .u8 seed, .int .i64 (leaf : Int), agg .i64 D] w fun e w' => e = .returned (agg .u8 S) ∧ Below w.heap.size w w') ∧
    Hid (∀ w, Calls Try.prog 37 #[agg .u8 S] w fun e w' => e = .returned (agg .u8 S) ∧ Below w.heap.size w w') :=
  ⟨sg seed d leaf, pb seed leaf, sp d, sg_length _ _ _, pb_length _ _, sp_length d, Lib.hid fun w => Sign_sg w seed d leaf hs hd bd hleaf, Lib.hid fun w => Public_pb w seed leaf hs hleaf, Lib.hid fun w => Recover_sg w seed d leaf hd bd hleaf, Lib.hid fun w => Verify_sg w seed d leaf hd bd hleaf,
    Lib.hid fun w => Ref.split w d hd bd, Lib.hid fun w => values_sg w seed d leaf hs bd hleaf, Lib.hid fun w => Ref.to_calls w _ (sg_length _ _ _)⟩
/-! arrays that are written as literals -/
def e1 : List Nat := (zs 16).set 0 1
def e2 : List Nat := (zs 16).set 0 2
def e12 : List Nat := ((zs 560).set 0 1).set 16 2
theorem rd_bl16 (x : Array (Nat × Value)) : Instr.build 22 x = blA 22 x := rfl
theorem rd_blrv (x : Array (Nat × Value)) : Instr.build 36 x = blA 36 x := rfl
theorem rd_blsig (x : Array (Nat × Value)) : Instr.build 68 x = blA 68 x := rfl
theorem rd_blbs (x : Array (Nat × Value)) : Instr.build 55 x = blA 55 x := rfl
theorem rd_blrvs (x : Array (Nat × Value)) : Instr.build 72 x = blA 72 x := rfl
theorem bl16_0 (w : World) : (blA 22 #[]).run Try.prog w = .ok (agg .u8 (zs 16)) w := by kernel_rfl
theorem bl16_1 (w : World) : (blA 22 #[(0, .int .u8 1)]).run Try.prog w = .ok (agg .u8 e1) w := by kernel_rfl
theorem bl16_2 (w : World) : (blA 22 #[(0, .int .u8 2)]).run Try.prog w = .ok (agg .u8 e2) w := by kernel_rfl
theorem blrv_1 (w : World) : (blA 36 #[(0, .int .u8 1)]).run Try.prog w = .ok (agg .u8 e1) w := by kernel_rfl
theorem blrv_2 (w : World) : (blA 36 #[(0, .int .u8 2)]).run Try.prog w = .ok (agg .u8 e2) w := by kernel_rfl
theorem blsig_0 (w : World) : (blA 68 #[]).run Try.prog w = .ok (agg .u8 (zs 560)) w := by kernel_rfl
theorem blbs_12 (w : World) : (blA 55 #[(0, agg .u8 e1), (1, agg .u8 e2)]).run Try.prog w = .ok (agg .u8 e12) w := by kernel_rfl
theorem blrvs_12 (w : World) : (blA 72 #[(0, agg .u8 e1), (1, agg .u8 e2)]).run Try.prog w = .ok (agg .u8 e12) w := by kernel_rfl
/-- The literals, without their texts. -/
theorem lits : ∃ E1 E2 E12 : List Nat, E12.length = 560 ∧ (∀ w : World, (blA 22 #[(0, .int .u8 1)]).run Try.prog w = .ok (agg .u8 E1) w) ∧ (∀ w : World, (blA 22 #[(0, .int .u8 2)]).run Try.prog w = .ok (agg .u8 E2) w) ∧
    (∀ w : World, (blA 36 #[(0, .int .u8 1)]).run Try.prog w = .ok (agg .u8 E1) w) ∧ (∀ w : World, (blA 36 #[(0, .int .u8 2)]).run Try.prog w = .ok (agg .u8 E2) w) ∧
    (∀ w : World, (blA 55 #[(0, agg .u8 E1), (1, agg .u8 E2)]).run Try.prog w = .ok (agg .u8 E12) w) ∧ (∀ w : World, (blA 72 #[(0, agg .u8 E1), (1, agg .u8 E2)]).run Try.prog w = .ok (agg .u8 E12) w) :=
  ⟨e1, e2, e12, by unfold e12; rw [List.length_set, List.length_set, zs_length], bl16_1, bl16_2, blrv_1, blrv_2, blbs_12, blrvs_12⟩
theorem e12_length : e12.length = 560 := by unfold e12; rw [List.length_set, List.length_set, zs_length]
end Go.Proofs.Ytlgpipdeckdmjaa.Signed
