/-
  An array of integers that comes in by value, opened. No program.
-/
import Derived.Test.YtlgpipdeckdmjaaBase
import Derived.OpenShut
import Derived.ProofKit
import Derived.Carry
set_option linter.unusedVariables false
set_option linter.unusedSimpArgs false
namespace Go.Proofs.Ytlgpipdeckdmjaa.Opened
open Go.ChangeShapes Go.WideShapes Go.ChangeAt Go.RowKit Base
section
variable {H : Type} {enc : TypeId × Value → H} {P : Program} {w : World} {base : Nat} {spare : Nat → Bool} {held : Bool} {t e : TypeId} {n : Nat} {k : IntKind} {v : Value}
theorem okWide_arr {r : Reach} {base : Nat} (ht : P.underlying t = some (.array n e)) (h : Value.okWide P w r base t v) : ∃ cs, v = .agg cs ∧ cs.size = P.cellsOf t := by
  unfold Value.okWide at h
  simp only [ht] at h
  obtain ⟨cs, hv, hs, _⟩ := h
  exact ⟨cs, hv, hs⟩
def numOf : Value → Int
  | .int _ z => z
  | _ => 0
theorem cells_arr {fuel : Nat} {cs : List Value} {x : DataW H × List MemPlace} (ht : P.underlying t = some (.array n e)) (he : P.underlying e = some (.int k)) (hce : P.cellsOf e = 1) (hct : P.cellsOf t = n)
    (h : DataW.trod enc P w base spare held fuel t cs = some x) : cs = (cs.map numOf).map (Value.int k) ∧ cs.length = n ∧ ∀ z ∈ cs.map numOf, (Lit.int k z).wf = true := by
  obtain ⟨xs, m, _, _, hl, hxl, hx⟩ := DataW.trod_array ht h
  rw [hct] at hl
  have hi : ∀ i, i < n → ∃ z, cs[i]? = some (.int k z) ∧ (Lit.int k z).wf = true := by
    intro i hin
    have h1 := hx i hin
    rw [hce, Nat.mul_one, List.getElem?_eq_getElem (by omega)] at h1
    obtain ⟨z, hc, _, hw⟩ := DataW.trod_int he h1
    refine ⟨z, ?_, hw⟩
    have := congrArg (·[0]?) hc
    simpa [List.getElem?_take, List.getElem?_drop] using this
  refine ⟨?_, hl, ?_⟩
  · apply List.ext_getElem?
    intro i
    by_cases hin : i < n
    · obtain ⟨z, hz, _⟩ := hi i hin
      simp [hz, numOf]
    · rw [List.getElem?_eq_none (by omega), List.getElem?_eq_none (by simp; omega)]
  · intro z hz
    obtain ⟨u, hu, rfl⟩ := List.mem_map.1 hz
    obtain ⟨i, hi2, rfl⟩ := List.mem_iff_getElem.1 hu
    obtain ⟨z, hz, hw⟩ := hi i (by omega)
    rw [List.getElem?_eq_getElem hi2] at hz
    have e := Option.some.inj hz
    rw [e]
    exact hw
/-- An array of integers of one kind. -/
theorem open_arr {r : Reach} {d : DataW H} {ps : List MemPlace} (ht : P.underlying t = some (.array n e)) (he : P.underlying e = some (.int k)) (hce : P.cellsOf e = 1) (hct : P.cellsOf t = n)
    {b0 : Nat} (hval : Value.okWide P w r b0 t v) (hd : DataW.Trod enc P w base spare held t v d ps) : ∃ zs : List Int, v = .agg (zs.map (Value.int k)).toArray ∧ zs.length = n ∧ ∀ z ∈ zs, (Lit.int k z).wf = true := by
  obtain ⟨cs, rfl, hs⟩ := okWide_arr ht hval
  obtain ⟨fuel, hf⟩ := hd
  obtain ⟨h1, h2, h3⟩ := cells_arr ht he hce hct hf
  refine ⟨_, ?_, ?_, h3⟩
  · rw [← h1]; rfl
  · rw [List.length_map]; exact h2
theorem cl_of (zs : List Int) (k : IntKind) (h : ∀ z ∈ zs, 0 ≤ z) : zs.map (Value.int k) = cl k (zs.map Int.toNat) := by
  unfold cl
  rw [List.map_map]
  apply List.map_congr_left
  intro z hz
  have := h z hz
  simp [Int.toNat_of_nonneg this]
theorem wf_u8 {z : Int} (h : (Lit.int .u8 z).wf = true) : 0 ≤ z ∧ z < 256 := by
  have h2 : IntKind.u8.min ≤ z ∧ z ≤ IntKind.u8.max := by simpa [Lit.wf] using h
  have e1 : IntKind.u8.min = 0 := by decide
  have e2 : IntKind.u8.max = 255 := by decide
  omega
theorem wf_u16 {z : Int} (h : (Lit.int .u16 z).wf = true) : 0 ≤ z ∧ z < 65536 := by
  have h2 : IntKind.u16.min ≤ z ∧ z ≤ IntKind.u16.max := by simpa [Lit.wf] using h
  have e1 : IntKind.u16.min = 0 := by decide
  have e2 : IntKind.u16.max = 65535 := by decide
  omega
/-- .. of bytes. -/
theorem open_bytes {r : Reach} {d : DataW H} {ps : List MemPlace} (ht : P.underlying t = some (.array n e)) (he : P.underlying e = some (.int .u8)) (hce : P.cellsOf e = 1) (hct : P.cellsOf t = n)
    {b0 : Nat} (hval : Value.okWide P w r b0 t v) (hd : DataW.Trod enc P w base spare held t v d ps) : ∃ l : List Nat, v = agg .u8 l ∧ l.length = n ∧ ∀ j, l.getD j 0 < 256 := by
  obtain ⟨zs, rfl, hl, hw⟩ := open_arr ht he hce hct hval hd
  refine ⟨zs.map Int.toNat, ?_, by simpa using hl, fun j => ?_⟩
  · rw [cl_of zs .u8 (fun z hz => (wf_u8 (hw z hz)).1)]
  · rw [List.getD_eq_getElem?_getD, List.getElem?_map]
    cases hj : zs[j]? with
    | none => simp
    | some z =>
      have := wf_u8 (hw z (List.mem_of_getElem? hj))
      simp only [Option.map_some, Option.getD_some]
      omega
end
end Go.Proofs.Ytlgpipdeckdmjaa.Opened
