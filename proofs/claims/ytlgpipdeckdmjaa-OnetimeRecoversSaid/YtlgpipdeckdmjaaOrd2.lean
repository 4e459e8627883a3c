/-
  A region that draws its order and makes memory on the way: .. and what holds as long as an operation has not been done. No program.
-/
import Derived.Test.YtlgpipdeckdmjaaOrd
set_option linter.unusedVariables false
set_option linter.unusedSimpArgs false
namespace Go.Proofs.Ytlgpipdeckdmjaa.Ord
section
variable {P : Program} {ops : Array Oper} {md : Region.Mode}
theorem wpAny_inv2 {n : Nat} {Q : Exit → Act → World → Prop} {B : Act → World → Prop} {G U : Nat → Act → World → Prop} (hs : Region.sinkB md ops n = true) (hc : Region.chainB md ops n = true) (hn : n < ops.size) (ht : topoB md ops n = true) (g : Nat)
    (hop : ∀ i o, i < n → ops[i]? = some o → ∀ a w, B a w → U i a w → (∀ e ∈ o.after, Region.binds md e = true → G e.on a w) → wpOp P ops Q i (fun a' w' => B a' w' ∧ G i a' w' ∧ ∀ j, j < n → j ≠ i → (G j a w → G j a' w') ∧ (U j a w → U j a' w')) a w)
    (htail : ∀ listed a w, HeadInv md ops n listed → (∀ j, j < n → listed.getD j false = true) → B a w → (∀ j, j < n → G j a w) → wpAny P md ops Q g listed a w) :
    ∀ (f : Nat) (listed : Array Bool) (a : Act) (w : World), cnt listed n = f → HeadInv md ops n listed → B a w → (∀ j, j < n → listed.getD j false = true → G j a w) → (∀ j, j < n → listed.getD j false = false → U j a w) → wpAny P md ops Q (f + g) listed a w := by
  intro f
  induction f with
  | zero =>
    intro listed a w hf inv hB hG hU
    rw [Nat.zero_add]
    have := cnt_zero hf
    exact htail listed a w inv this hB (fun j hj => hG j hj (this j hj))
  | succ f ih =>
    intro listed a w hf inv hB hG hU
    rw [show f + 1 + g = (f + g) + 1 by omega]
    have hex : ∃ j, j < n ∧ listed.getD j false = false := by
      refine Classical.byContradiction fun hno => ?_
      have hall : ∀ j, j < n → listed.getD j false = true := fun j hj => by
        by_cases hb : listed.getD j false = true
        · exact hb
        · exact absurd ⟨j, hj, by simpa using hb⟩ hno
      have h0 : ∀ m, m ≤ n → cnt listed m = 0 := by
        intro m
        induction m with
        | zero => intro _; rfl
        | succ m ihm => intro hm; simp only [cnt]; rw [ihm (by omega), hall m (by omega)]; rfl
      have := h0 n (Nat.le_refl _)
      omega
    obtain ⟨r, hr⟩ := first_ready ht (by omega) inv.size hex
    obtain ⟨j0, hj0, hj0f⟩ := hex
    refine ⟨fun h => (by rw [h] at hr; cases hr), fun i hi => ?_⟩
    have hin : i < n := Nat.lt_of_not_le fun h => tail_waits hs hc hn inv _ j0 rfl hj0 (getD_in (by rw [inv.size]; omega) hj0f) i h hi
    obtain ⟨hiu, o, ho, hall⟩ := mem_ready.1 hi
    refine wpOp_mono (fun a' w' h => ?_) (hop i o hin ho a w hB (hU i hin (getD_both hiu)) (fun e he hb => hG e.on (by have := topo_spec ht hin ho e he hb; omega) (hall e he hb)))
    have hsz : i < listed.size := by rw [inv.size]; omega
    refine ih (listed.setIfInBounds i true) a' w' ?_ (inv.set hi hin) h.1 (fun j hj hl => ?_) (fun j hj hl => ?_)
    · have := cnt_set hsz (getD_both hiu) hin
      omega
    · by_cases hji : j = i
      · subst hji; exact h.2.1
      · rw [getD_set_ne false (Ne.symm hji)] at hl
        exact (h.2.2 j hj hji).1 (hG j hj hl)
    · by_cases hji : j = i
      · subst hji
        have h1 : (listed.setIfInBounds j true).getD j false = true := by simp [hsz]
        rw [h1] at hl; cases hl
      · rw [getD_set_ne false (Ne.symm hji)] at hl
        exact (h.2.2 j hj hji).2 (hU j hj hl)

/-- A region that draws: its first n operations in whatever order, each needing what those that it waits for have brought, the others behind them in one order. -/
theorem wp_region_inv2 {id : Nat} {Q : Exit → Act → World → Prop} {a : Act} {w : World} {l : List Oper} (n : Nat) (B : Act → World → Prop) (G U : Nat → Act → World → Prop) (hm : P.follows .mixedOrders = true)
    (hk : (Region.sinkB .any l.toArray n && Region.chainB .any l.toArray n && decide (n < l.toArray.size) && topoB .any l.toArray n && Region.seqB .any l.toArray (l.toArray.size - n) n (Array.replicate n true ++ Array.replicate (l.toArray.size - n) false)) = true)
    (hB : B a w.drew) (hU : ∀ j, j < n → U j a w.drew)
    (hop : ∀ i o, i < n → l[i]? = some o → ∀ a w, B a w → U i a w → (∀ e ∈ o.after, Region.binds .any e = true → G e.on a w) → wpList P l.toArray (QK (fun a' w' => B a' w' ∧ G i a' w' ∧ ∀ j, j < n → j ≠ i → (G j a w → G j a' w') ∧ (U j a w → U j a' w')) Q) [o] a w)
    (htail : ∀ a w, B a w → (∀ j, j < n → G j a w) → wpList P l.toArray Q (l.drop n) a w) : (Code.region id l.toArray true).wp P Q a w := by
  simp only [Bool.and_eq_true, decide_eq_true_eq] at hk
  obtain ⟨⟨⟨⟨hs, hc⟩, hn⟩, ht⟩, hseq⟩ := hk
  have inv0 : HeadInv .any l.toArray n (Array.replicate l.toArray.size false) :=
    ⟨by simp, fun j oj _ hl => (by rw [getD_replicate_false] at hl; cases hl), fun t _ ht => getD_in (by simpa using ht) (getD_replicate_false _ _)⟩
  have hc0 : ∀ m, cnt (Array.replicate l.toArray.size false) m = m := by
    intro m
    induction m with
    | zero => rfl
    | succ m ih => simp only [cnt]; rw [ih, getD_replicate_false]; rfl
  refine wp_region_any hm ?_
  have hdl : (l.drop n).length = l.toArray.size - n := by simp
  have h := wpAny_inv2 (Q := Q) (B := B) (G := G) (U := U) hs hc hn ht (l.toArray.size - n) (fun i o hin ho a w hB hU hG => wpOp_of_list ho (hop i o hin (by simpa using ho) a w hB hU hG)) (fun listed a' w' inv hall hB' hG' => by
    have el : listed = Array.replicate n true ++ Array.replicate (l.toArray.size - n) false := by
      apply Array.ext
      · rw [inv.size]; simp; simp at hn; omega
      · intro i h1 h2
        by_cases hin : i < n
        · have := hall i hin
          rw [Array.getElem_append_left (by simpa using hin)]
          simpa [h1] using this
        · have := inv.tail i (by omega) (by rw [← inv.size]; exact h1)
          rw [Array.getElem_append_right (by simpa using hin)]
          simpa [h1] using this
    have := wpAny_of_seq (md := .any) (Q' := Q) (l.drop n) n listed a' w' (fun j => by simp [List.getElem?_drop]) (by rw [hdl, el]; exact hseq) (htail a' w' hB' hG')
    rwa [hdl] at this) n (Array.replicate l.toArray.size false) a w.drew (hc0 n) inv0 hB (fun j hj hl => by rw [getD_replicate_false] at hl; cases hl) (fun j hj _ => hU j hj)
  rw [show n + (l.toArray.size - n) = l.toArray.size by omega] at h
  exact h
end
end Go.Proofs.Ytlgpipdeckdmjaa.Ord
