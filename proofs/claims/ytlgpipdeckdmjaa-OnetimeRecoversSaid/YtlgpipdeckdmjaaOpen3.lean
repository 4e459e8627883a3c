/-
  Arrays of arrays of bytes, and slices of these, that come in, opened. No program.
-/
import Derived.Test.YtlgpipdeckdmjaaOpen
import Derived.ChangeArms
set_option linter.unusedVariables false
set_option linter.unusedSimpArgs false
namespace Go.Proofs.Ytlgpipdeckdmjaa.Opened
open Go.ChangeShapes Go.WideShapes Go.ChangeAt Go.RowKit Base
def AllU8 (cs : List Value) : Prop := ∀ v ∈ cs, ∃ z : Nat, v = .int .u8 (z : Int) ∧ z < 256
def By8 (l : List Nat) : Prop := ∀ j, l.getD j 0 < 256
def nOf : Value → Nat
  | .int _ z => z.toNat
  | _ => 0
theorem allU8_cl {cs : List Value} (h : AllU8 cs) : ∃ l, cs = cl .u8 l ∧ l.length = cs.length ∧ By8 l := by
  refine ⟨cs.map nOf, ?_, by simp, fun j => ?_⟩
  · unfold cl
    rw [List.map_map]
    apply List.ext_getElem (by simp)
    intro j h1 h2
    obtain ⟨z, hz, _⟩ := h cs[j] (List.getElem_mem h1)
    simp [hz, nOf]
  · rw [List.getD_eq_getElem?_getD, List.getElem?_map]
    cases hj : cs[j]? with
    | none => simp
    | some v =>
      obtain ⟨z, rfl, hz⟩ := h v (List.mem_of_getElem? hj)
      simp [nOf, hz]
theorem allU8_chunks {n m : Nat} {cs : List Value} (hl : cs.length = n * m) (h : ∀ i, i < n → AllU8 ((cs.drop (i * m)).take m)) : AllU8 cs := by
  intro v hv
  obtain ⟨j, hj, rfl⟩ := List.mem_iff_getElem.1 hv
  have hm : 0 < m := by
    rcases Nat.eq_zero_or_pos m with h0 | h0
    · subst h0; rw [Nat.mul_zero] at hl; omega
    · exact h0
  have hi : j / m < n := (Nat.div_lt_iff_lt_mul hm).2 (by omega)
  refine h (j / m) hi _ (List.mem_iff_getElem?.2 ⟨j % m, ?_⟩)
  rw [List.getElem?_take, if_pos (Nat.mod_lt _ hm), List.getElem?_drop, Nat.mul_comm, Nat.div_add_mod, List.getElem?_eq_getElem hj]
section
variable {H : Type} {enc : TypeId × Value → H} {P : Program} {w : World} {base : Nat} {spare : Nat → Bool} {held : Bool} {t e u : TypeId} {n m fuel : Nat} {k : IntKind} {v : Value} {cs : List Value} {x : DataW H × List MemPlace}
theorem cells_u8 (ht : P.underlying t = some (.array n e)) (he : P.underlying e = some (.int .u8)) (hce : P.cellsOf e = 1) (hct : P.cellsOf t = n) (h : DataW.trod enc P w base spare held fuel t cs = some x) : AllU8 cs ∧ cs.length = n := by
  obtain ⟨h1, h2, h3⟩ := cells_arr ht he hce hct h
  refine ⟨fun v hv => ?_, h2⟩
  rw [h1] at hv
  obtain ⟨z, hz, rfl⟩ := List.mem_map.1 hv
  have hw := wf_u8 (h3 z hz)
  exact ⟨z.toNat, by rw [Int.toNat_of_nonneg hw.1], by omega⟩
theorem cells_rows (ht : P.underlying t = some (.array n e)) (he : P.underlying e = some (.array m u)) (hu : P.underlying u = some (.int .u8)) (hcu : P.cellsOf u = 1) (hce : P.cellsOf e = m) (hct : P.cellsOf t = n * m)
    (h : DataW.trod enc P w base spare held fuel t cs = some x) : AllU8 cs ∧ cs.length = n * m := by
  obtain ⟨xs, g, _, _, hl, hxl, hx⟩ := DataW.trod_array ht h
  rw [hct] at hl
  refine ⟨allU8_chunks hl fun i hi => ?_, hl⟩
  have h1 := hx i hi
  rw [hce, List.getElem?_eq_getElem (by omega)] at h1
  exact (cells_u8 he hu hcu hce h1).1
/-- An array of arrays of bytes, as one list. -/
theorem open_rows {r : Reach} {d : DataW H} {ps : List MemPlace} (ht : P.underlying t = some (.array n e)) (he : P.underlying e = some (.array m u)) (hu : P.underlying u = some (.int .u8)) (hcu : P.cellsOf u = 1) (hce : P.cellsOf e = m) (hct : P.cellsOf t = n * m)
    {b0 : Nat} (hval : Value.okWide P w r b0 t v) (hd : DataW.Trod enc P w base spare held t v d ps) : ∃ l : List Nat, v = agg .u8 l ∧ l.length = n * m ∧ By8 l := by
  obtain ⟨cs, rfl, hs⟩ := okWide_arr ht hval
  obtain ⟨fuel, hf⟩ := hd
  obtain ⟨h1, h2⟩ := cells_rows ht he hu hcu hce hct hf
  obtain ⟨l, e1, e2, e3⟩ := allU8_cl h1
  refine ⟨l, ?_, ?_, e3⟩
  · unfold agg
    rw [← e1]; rfl
  · have h2' : cs.toList.length = n * m := h2
    rw [e2]; exact h2'
/-- A slice of n elements of 'size' cells each that reads as xs, if it has an element. -/
def Rd (w : World) (size : Nat) (v : Value) (n : Nat) (xs : List Value) : Prop :=
  ∃ A c, v = .slice A n c ∧ n ≤ c ∧ c ≤ maxLen ∧ xs.length = n * size ∧ (A = none → c = 0) ∧ (0 < n → ∃ b o, A = some ⟨b, o, none⟩ ∧ b < w.heap.size ∧ ∀ j u, xs[j]? = some u → w.cell? ⟨b, o + j, none⟩ = some u)
theorem Rd.keep {w' : World} {size : Nat} {xs : List Value} (h : Rd w size v n xs) (hb : Below w.heap.size w w') : Rd w' size v n xs := by
  obtain ⟨A, c, hv, hc, hm, hl, hn, hr⟩ := h
  refine ⟨A, c, hv, hc, hm, hl, hn, fun hp => ?_⟩
  obtain ⟨b, o, hA, hlt, hcell⟩ := hr hp
  exact ⟨b, o, hA, Nat.lt_of_lt_of_le hlt hb.size, fun j u hj => (hb.cell (p := ⟨b, o + j, none⟩) hlt).trans (hcell j u hj)⟩
theorem cell_lt {w : World} {b o : Nat} {u : Value} (h : w.cell? ⟨b, o, none⟩ = some u) : b < w.heap.size := by
  unfold World.cell? at h
  cases hb : w.heap[b]? with
  | none => simp [hb] at h
  | some y => exact (Array.getElem?_eq_some_iff.1 hb).1
/-- A slice of arrays of bytes. -/
theorem cells_slice (ht : P.underlying t = some (.slice e)) (he : P.underlying e = some (.array m u)) (hu : P.underlying u = some (.int .u8)) (hcu : P.cellsOf u = 1) (hce : P.cellsOf e = m) (hm : 0 < m)
    (h : DataW.trod enc P w base spare held fuel t cs = some x) : ∃ v n l, cs = [v] ∧ Rd w m v n (cl .u8 l) ∧ l.length = n * m ∧ By8 l := by
  rcases DataW.trod_slice ht h with ⟨h0, _⟩ | ⟨a, len, cap, elems, rest, g, _, rfl, _, hb, hl, hmx, hlen, hel, _, _⟩
  · exact ⟨_, 0, [], h0, ⟨none, 0, rfl, Nat.le_refl _, Nat.zero_le _, by simp [cl], fun _ => rfl, fun h => absurd h (by omega)⟩, by simp, fun j => by simp⟩
  · have each : ∀ i, i < len → ∃ cs', w.cells? base (a.add (i * m)) m = some cs' ∧ AllU8 cs' ∧ cs'.length = m := by
      intro i hi
      have h1 := hel i hi
      rw [hce, List.getElem?_eq_getElem (by omega), Option.bind_eq_some_iff] at h1
      obtain ⟨cs', h2, h3⟩ := h1
      obtain ⟨h4, h5⟩ := cells_u8 he hu hcu hce h3
      exact ⟨cs', h2, h4, h5⟩
    have at_ : ∀ j, j < len * m → ∃ z : Nat, w.cell? (a.add j) = some (.int .u8 (z : Int)) ∧ z < 256 := by
      intro j hj
      obtain ⟨cs', h2, h4, h5⟩ := each (j / m) ((Nat.div_lt_iff_lt_mul hm).2 hj)
      have h8 : j % m < m := Nat.mod_lt _ hm
      have h6 := (World.cells?_some h2).2.2 (j % m) h8
      have h7 : j % m < cs'.length := by rw [h5]; exact h8
      rw [List.getElem?_eq_getElem h7] at h6
      obtain ⟨z, hz, hz2⟩ := h4 _ (List.getElem_mem h7)
      refine ⟨z, ?_, hz2⟩
      rw [hz] at h6
      rw [← h6]
      have e : j / m * m + j % m = j := by rw [Nat.mul_comm]; exact Nat.div_add_mod j m
      rw [Addr.add_add, e]
    by_cases hp : 0 < len * m
    · obtain ⟨b, o, spot⟩ := a
      have hspot : spot = none := by
        obtain ⟨z, hz, _⟩ := at_ 0 hp
        simpa [Addr.add] using World.cell?_spot hz
      subst hspot
      let l : List Nat := (List.range (len * m)).map fun j => (match w.cell? ⟨b, o + j, none⟩ with | some v => nOf v | none => 0)
      have hll : l.length = len * m := by simp [l]
      have hget : ∀ j, j < len * m → w.cell? ⟨b, o + j, none⟩ = some (.int .u8 ((l.getD j 0 : Nat) : Int)) ∧ l.getD j 0 < 256 := by
        intro j hj
        obtain ⟨z, hz, hz2⟩ := at_ j hj
        rw [Go.WideShapes.add_plain] at hz
        have e : l.getD j 0 = z := by simp [l, List.getD, hj, hz, nOf]
        rw [e]
        exact ⟨hz, hz2⟩
      refine ⟨_, len, l, rfl, ⟨_, _, rfl, hl, hmx, by rw [cl_length, hll], (fun h => by cases h), fun hp2 => ⟨b, o, rfl, ?_, ?_⟩⟩, hll, fun j => ?_⟩
      · exact cell_lt (hget 0 hp).1
      · intro j u hj
        by_cases hj2 : j < len * m
        · rw [cl_get _ _ _ (by omega)] at hj
          rw [← hj]
          exact (hget j hj2).1
        · rw [List.getElem?_eq_none (by rw [cl_length]; omega)] at hj
          cases hj
      · by_cases hj2 : j < len * m
        · exact (hget j hj2).2
        · rw [List.getD_eq_getElem?_getD, List.getElem?_eq_none (by omega)]; decide
    · have h0 : len = 0 := by
        rcases Nat.eq_zero_or_pos len with h0 | h0
        · exact h0
        · exact absurd (Nat.mul_pos h0 hm) hp
      subst h0
      exact ⟨_, 0, [], rfl, ⟨_, _, rfl, hl, hmx, by simp [cl], (fun h => by cases h), fun h => absurd h (by omega)⟩, by simp, fun j => by simp⟩
theorem open_slice_rows {r : Reach} {d : DataW H} {ps : List MemPlace} (ht : P.underlying t = some (.slice e)) (he : P.underlying e = some (.array m u)) (hu : P.underlying u = some (.int .u8)) (hcu : P.cellsOf u = 1) (hce : P.cellsOf e = m) (hm : 0 < m)
    {b0 : Nat} (hval : Value.okWide P w r b0 t v) (hd : DataW.Trod enc P w base spare held t v d ps) : ∃ n l, Rd w m v n (cl .u8 l) ∧ l.length = n * m ∧ By8 l := by
  obtain ⟨a, len, cap, rfl⟩ := okWide_slice ht hval
  obtain ⟨fuel, hf⟩ := hd
  obtain ⟨v, n, l, hv, h1, h2, h3⟩ := cells_slice ht he hu hcu hce hm hf
  have e : v = .slice a len cap := by
    have : Value.cells (.slice a len cap) = #[.slice a len cap] := rfl
    simp [Value.cells] at hv
    exact hv.symm
  subst e
  exact ⟨n, l, h1, h2, h3⟩
end
end Go.Proofs.Ytlgpipdeckdmjaa.Opened
