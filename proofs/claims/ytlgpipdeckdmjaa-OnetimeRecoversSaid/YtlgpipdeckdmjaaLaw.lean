/-
  Laws for single operations of a region that draws its order: a call by its contract; append onto a slice of the call's own.
-/
import Derived.Test.YtlgpipdeckdmjaaSlice
import Derived.Deep.RegionLaw
set_option linter.unusedVariables false
set_option linter.unusedSimpArgs false
namespace Go.Proofs.Ytlgpipdeckdmjaa.Law
open Go.RowKit Base Slice
theorem step_call {P : Program} {ops : Array Oper} {o : Oper} {a : Act} {w : World} {K : Act → World → Prop} {Q : Exit → Act → World → Prop} {X : Prop}
    (hg : o.guard = none) (f : FuncId) (xs : Array Operand) (ts : Array TypeId) (hop : o.op = Op.call { callee := Callee.value (Operand.func f), args := xs, argTypes := ts }) (vs : Array Value) (hv : xs.toList.map a.eval = vs.toList) (hcf : ∀ W, (callFunc f vs).run P W = .ok (.enter f vs) W)
    {E : Ending → World → Prop} (hc : Calls P f vs w E) (hK : ∀ e w', E e w' → ∃ v, e = .returned v ∧ K (a.put o.dst v) w') :
    if Region.wanted o (yielded ops a.tmps) = true then Oper.wp P o a w K Q else X := by
  have hw : Region.wanted o (yielded ops a.tmps) = true := by simp [Region.wanted, hg]
  rw [if_pos hw]
  unfold Oper.wp execOp
  have hvs : xs.map a.eval = vs := by
    apply Array.ext'
    rw [Array.toList_map]
    exact hv
  have hcf' : (callFunc f (vs ++ #[])).run P w = .ok (.enter f vs) w := by rw [Array.append_empty]; exact hcf w
  simp only [hop, resolve, invoke, Sem.run_bind, Sem.run_pure, Result.andThen_ok, hvs, Act.eval, Deferred.ofValue]
  rw [Array.empty_append, hcf']
  refine hc.mono fun e w' he => ?_
  obtain ⟨v, rfl, hk⟩ := hK e w' he
  exact hk
theorem step_append_bytes {ops : Array Oper} {o : Oper} {a : Act} {w : World} {K : Act → World → Prop} {Q : Exit → Act → World → Prop} {X : Prop}
    (hg : o.guard = none) (s y : Operand) (ho : o.op = .call { callee := .builtin .append, args := #[s, y], argTypes := #[99, 99] }) {base : Nat} {v x : Value} {l m : List Nat} (hs : a.eval s = v) (hy : a.eval y = x)
    (hown : Own w base v l) (hx : Sl w x m) (h63 : l.length + m.length ≤ 1099511627776) (hbase : base ≤ w.heap.size)
    (h : ∀ v' w', Own w' base v' (l ++ m) → w.grownBy w' v.ownBlock → K (a.put o.dst v') w') :
    if Region.wanted o (yielded ops a.tmps) = true then Oper.wp Try.prog o a w K Q else X := by
  have hw : Region.wanted o (yielded ops a.tmps) = true := by simp [Region.wanted, hg]
  rw [if_pos hw]
  obtain ⟨v', w', h1, h2, h3⟩ := run_append_bytes o.type hown hx h63 hbase
  unfold Oper.wp execOp
  simp only [ho, resolve, invoke, builtin, Sem.run_bind, Sem.run_pure, Result.andThen_ok, List.map_toArray, List.map_cons, List.map_nil, hs, hy, h1]
  exact h _ _ h2 h3
end Go.Proofs.Ytlgpipdeckdmjaa.Law
