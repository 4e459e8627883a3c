/-
  A region that draws its order and makes memory on the way: what each operation needs and brings, in whatever order. No program.
-/
import Derived.Test.YtlgpipdeckdmjaaReg
set_option linter.unusedVariables false
set_option linter.unusedSimpArgs false
namespace Go.Proofs.Ytlgpipdeckdmjaa.Ord

section
variable {P : Program} {ops : Array Oper} {md : Region.Mode}
/-- The end of one operation alone. -/
def QK (K : Act → World → Prop) (Q : Exit → Act → World → Prop) : Exit → Act → World → Prop
  | .normal, a, w => K a w
  | .exit n, a, w => Q (.exit n) a w
  | .goto n, a, w => Q (.goto n) a w
  | .ret, a, w => Q .ret a w
  | .panic c, a, w => Q (.panic c) a w
  | .outgrown, a, w => Q .outgrown a w
theorem wp_QK {o : Oper} {a : Act} {w : World} {K K0 : Act → World → Prop} {Q : Exit → Act → World → Prop} (h : o.wp P a w K (QK K0 Q)) : o.wp P a w K Q := by
  unfold Oper.wp at *
  generalize (execOp a.eval o).run P w = r at *
  cases r with
  | ok n w' => cases n <;> exact h
  | halt x w' => cases x <;> exact h
theorem wpOp_of_list {i : Nat} {o : Oper} {K : Act → World → Prop} {Q : Exit → Act → World → Prop} {a : Act} {w : World} (ho : ops[i]? = some o) (h : wpList P ops (QK K Q) [o] a w) : wpOp P ops Q i K a w := by
  unfold wpOp
  rw [ho]
  simp only [wpList] at h
  show if Region.wanted o (yielded ops a.tmps) = true then _ else _
  split
  · rename_i hw
    rw [if_pos hw] at h
    exact h.imp (fun h => wp_QK h) (fun h => h)
  · rename_i hw
    rw [if_neg hw] at h
    exact h
/-- How many of the first n are not yet done. -/
def cnt (listed : Array Bool) : Nat → Nat
  | 0 => 0
  | k + 1 => cnt listed k + (if listed.getD k false = true then 0 else 1)
theorem cnt_zero {listed : Array Bool} : ∀ {n : Nat}, cnt listed n = 0 → ∀ j, j < n → listed.getD j false = true
  | 0, _, j, hj => absurd hj (Nat.not_lt_zero j)
  | n + 1, h, j, hj => by
    simp only [cnt] at h
    by_cases hjn : j = n
    · subst hjn
      by_cases hb : listed.getD j false = true
      · exact hb
      · rw [if_neg hb] at h; omega
    · exact cnt_zero (n := n) (by omega) j (by omega)
theorem cnt_past {listed : Array Bool} {i : Nat} : ∀ {n : Nat}, n ≤ i → cnt (listed.setIfInBounds i true) n = cnt listed n
  | 0, _ => rfl
  | n + 1, h => by
    simp only [cnt]
    rw [cnt_past (by omega), getD_set_ne false (by omega)]
theorem cnt_set {listed : Array Bool} {i : Nat} (hs : i < listed.size) (hi : listed.getD i false = false) : ∀ {n : Nat}, i < n → cnt (listed.setIfInBounds i true) n + 1 = cnt listed n
  | 0, h => absurd h (Nat.not_lt_zero i)
  | n + 1, h => by
    simp only [cnt]
    by_cases hin : i = n
    · subst hin
      have h1 : (listed.setIfInBounds i true).getD i false = true := by simp [hs]
      rw [cnt_past (Nat.le_refl _), if_pos h1, hi]
      simp
    · rw [getD_set_ne false (by omega)]
      have := cnt_set hs hi (n := n) (by omega)
      omega
/-- Every edge of the first n goes back. -/
def topoB (md : Region.Mode) (ops : Array Oper) (n : Nat) : Bool := (List.range n).all fun i => match ops[i]? with
  | some o => o.after.all fun e => !Region.binds md e || decide (e.on < i)
  | none => false
theorem topo_spec {n i : Nat} {o : Oper} (h : topoB md ops n = true) (hi : i < n) (ho : ops[i]? = some o) : ∀ e ∈ o.after, Region.binds md e = true → e.on < i := by
  have h1 := List.all_eq_true.1 h i (List.mem_range.2 hi)
  simp only [ho, Array.all_eq_true_iff_forall_mem, Bool.or_eq_true, Bool.not_eq_true', decide_eq_true_eq] at h1
  intro e he hb
  rcases h1 e he with h2 | h2
  · rw [hb] at h2; cases h2
  · exact h2
theorem first_ready {n : Nat} {listed : Array Bool} (ht : topoB md ops n = true) (hn : n ≤ ops.size) (hs : listed.size = ops.size) (h : ∃ j, j < n ∧ listed.getD j false = false) : ∃ j, j ∈ Region.ready md ops listed := by
  obtain ⟨j, hj⟩ := h
  induction j using Nat.strongRecOn with
  | _ j ih =>
    obtain ⟨hjn, hjf⟩ := hj
    obtain ⟨o, ho⟩ : ∃ o, ops[j]? = some o := ⟨ops[j]'(by omega), by simp [show j < ops.size by omega]⟩
    by_cases hall : ∀ e ∈ o.after, Region.binds md e = true → listed.getD e.on false = true
    · exact ⟨j, mem_ready.2 ⟨getD_in (by omega) hjf, o, ho, hall⟩⟩
    · obtain ⟨e, he⟩ := Classical.not_forall.1 hall
      obtain ⟨he1, he⟩ := Classical.not_imp.1 he
      obtain ⟨hb, hf⟩ := Classical.not_imp.1 he
      have hlt := topo_spec ht hjn ho e he1 hb
      exact ih e.on hlt ⟨by omega, by simpa using hf⟩

theorem wpAny_inv {n : Nat} {Q : Exit → Act → World → Prop} {B : Act → World → Prop} {G : Nat → Act → World → Prop} (hs : Region.sinkB md ops n = true) (hc : Region.chainB md ops n = true) (hn : n < ops.size) (ht : topoB md ops n = true) (g : Nat)
    (hop : ∀ i o, i < n → ops[i]? = some o → ∀ a w, B a w → (∀ e ∈ o.after, Region.binds md e = true → G e.on a w) → wpOp P ops Q i (fun a' w' => B a' w' ∧ G i a' w' ∧ ∀ j, j < n → j ≠ i → G j a w → G j a' w') a w)
    (htail : ∀ listed a w, HeadInv md ops n listed → (∀ j, j < n → listed.getD j false = true) → B a w → (∀ j, j < n → G j a w) → wpAny P md ops Q g listed a w) :
    ∀ (f : Nat) (listed : Array Bool) (a : Act) (w : World), cnt listed n = f → HeadInv md ops n listed → B a w → (∀ j, j < n → listed.getD j false = true → G j a w) → wpAny P md ops Q (f + g) listed a w := by
  intro f
  induction f with
  | zero =>
    intro listed a w hf inv hB hG
    rw [Nat.zero_add]
    have := cnt_zero hf
    exact htail listed a w inv this hB (fun j hj => hG j hj (this j hj))
  | succ f ih =>
    intro listed a w hf inv hB hG
    rw [show f + 1 + g = (f + g) + 1 by omega]
    have hex : ∃ j, j < n ∧ listed.getD j false = false := by
      refine Classical.byContradiction fun hno => ?_
      have hall : ∀ j, j < n → listed.getD j false = true := fun j hj => by
        by_cases hb : listed.getD j false = true
        · exact hb
        · exact absurd ⟨j, hj, by simpa using hb⟩ hno
      have h0 : ∀ m, m ≤ n → cnt listed m = 0 := by
        intro m
        induction m with
        | zero => intro _; rfl
        | succ m ihm => intro hm; simp only [cnt]; rw [ihm (by omega), hall m (by omega)]; rfl
      have := h0 n (Nat.le_refl _)
      omega
    obtain ⟨r, hr⟩ := first_ready ht (by omega) inv.size hex
    obtain ⟨j0, hj0, hj0f⟩ := hex
    refine ⟨fun h => (by rw [h] at hr; cases hr), fun i hi => ?_⟩
    have hin : i < n := Nat.lt_of_not_le fun h => tail_waits hs hc hn inv _ j0 rfl hj0 (getD_in (by rw [inv.size]; omega) hj0f) i h hi
    obtain ⟨hiu, o, ho, hall⟩ := mem_ready.1 hi
    refine wpOp_mono (fun a' w' h => ?_) (hop i o hin ho a w hB (fun e he hb => hG e.on (by have := topo_spec ht hin ho e he hb; omega) (hall e he hb)))
    have hsz : i < listed.size := by rw [inv.size]; omega
    refine ih (listed.setIfInBounds i true) a' w' ?_ (inv.set hi hin) h.1 (fun j hj hl => ?_)
    · have := cnt_set hsz (getD_both hiu) hin
      omega
    · by_cases hji : j = i
      · subst hji; exact h.2.1
      · rw [getD_set_ne false (Ne.symm hji)] at hl
        exact h.2.2 j hj hji (hG j hj hl)

/-- A region that draws: its first n operations in whatever order, each needing what those that it waits for have brought, the others behind them in one order. -/
theorem wp_region_inv {id : Nat} {Q : Exit → Act → World → Prop} {a : Act} {w : World} {l : List Oper} (n : Nat) (B : Act → World → Prop) (G : Nat → Act → World → Prop) (hm : P.follows .mixedOrders = true)
    (hk : (Region.sinkB .any l.toArray n && Region.chainB .any l.toArray n && decide (n < l.toArray.size) && topoB .any l.toArray n && Region.seqB .any l.toArray (l.toArray.size - n) n (Array.replicate n true ++ Array.replicate (l.toArray.size - n) false)) = true)
    (hB : B a w.drew)
    (hop : ∀ i o, i < n → l[i]? = some o → ∀ a w, B a w → (∀ e ∈ o.after, Region.binds .any e = true → G e.on a w) → wpList P l.toArray (QK (fun a' w' => B a' w' ∧ G i a' w' ∧ ∀ j, j < n → j ≠ i → G j a w → G j a' w') Q) [o] a w)
    (htail : ∀ a w, B a w → (∀ j, j < n → G j a w) → wpList P l.toArray Q (l.drop n) a w) : (Code.region id l.toArray true).wp P Q a w := by
  simp only [Bool.and_eq_true, decide_eq_true_eq] at hk
  obtain ⟨⟨⟨⟨hs, hc⟩, hn⟩, ht⟩, hseq⟩ := hk
  have inv0 : HeadInv .any l.toArray n (Array.replicate l.toArray.size false) :=
    ⟨by simp, fun j oj _ hl => (by rw [getD_replicate_false] at hl; cases hl), fun t _ ht => getD_in (by simpa using ht) (getD_replicate_false _ _)⟩
  have hc0 : ∀ m, cnt (Array.replicate l.toArray.size false) m = m := by
    intro m
    induction m with
    | zero => rfl
    | succ m ih => simp only [cnt]; rw [ih, getD_replicate_false]; rfl
  refine wp_region_any hm ?_
  have hdl : (l.drop n).length = l.toArray.size - n := by simp
  have h := wpAny_inv (Q := Q) (B := B) (G := G) hs hc hn ht (l.toArray.size - n) (fun i o hin ho a w hB hG => wpOp_of_list ho (hop i o hin (by simpa using ho) a w hB hG)) (fun listed a' w' inv hall hB' hG' => by
    have el : listed = Array.replicate n true ++ Array.replicate (l.toArray.size - n) false := by
      apply Array.ext
      · rw [inv.size]; simp; simp at hn; omega
      · intro i h1 h2
        by_cases hin : i < n
        · have := hall i hin
          rw [Array.getElem_append_left (by simpa using hin)]
          simpa [h1] using this
        · have := inv.tail i (by omega) (by rw [← inv.size]; exact h1)
          rw [Array.getElem_append_right (by simpa using hin)]
          simpa [h1] using this
    have := wpAny_of_seq (md := .any) (Q' := Q) (l.drop n) n listed a' w' (fun j => by simp [List.getElem?_drop]) (by rw [hdl, el]; exact hseq) (htail a' w' hB' hG')
    rwa [hdl] at this) n (Array.replicate l.toArray.size false) a w.drew (hc0 n) inv0 hB (fun j hj hl => by rw [getD_replicate_false] at hl; cases hl)
  rw [show n + (l.toArray.size - n) = l.toArray.size by omega] at h
  exact h
end
end Go.Proofs.Ytlgpipdeckdmjaa.Ord
