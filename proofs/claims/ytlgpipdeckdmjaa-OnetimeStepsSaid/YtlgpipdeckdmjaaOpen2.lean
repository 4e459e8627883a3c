/-
  Arrays of numbers of 16 bits that come in by value. No program.
-/
import Derived.Test.YtlgpipdeckdmjaaOpen
set_option linter.unusedVariables false
set_option linter.unusedSimpArgs false
namespace Go.Proofs.Ytlgpipdeckdmjaa.Opened
open Go.ChangeShapes Go.WideShapes Go.ChangeAt Go.RowKit Base
theorem open_u16 {H : Type} {enc : TypeId × Value → H} {P : Program} {w : World} {base : Nat} {spare : Nat → Bool} {held : Bool} {t e : TypeId} {n : Nat} {v : Value} {r : Reach} {d : DataW H} {ps : List MemPlace} (ht : P.underlying t = some (.array n e)) (he : P.underlying e = some (.int .u16)) (hce : P.cellsOf e = 1) (hct : P.cellsOf t = n)
    {b0 : Nat} (hval : Value.okWide P w r b0 t v) (hd : DataW.Trod enc P w base spare held t v d ps) : ∃ l : List Nat, v = agg .u16 l ∧ l.length = n ∧ ∀ j, l.getD j 0 < 65536 := by
  obtain ⟨zs, rfl, hl, hw⟩ := open_arr ht he hce hct hval hd
  refine ⟨zs.map Int.toNat, ?_, by simpa using hl, fun j => ?_⟩
  · rw [cl_of zs .u16 (fun z hz => (wf_u16 (hw z hz)).1)]
  · rw [List.getD_eq_getElem?_getD, List.getElem?_map]
    cases hj : zs[j]? with
    | none => simp
    | some z =>
      have := wf_u16 (hw z (List.mem_of_getElem? hj))
      simp only [Option.map_some, Option.getD_some]
      omega
end Go.Proofs.Ytlgpipdeckdmjaa.Opened
