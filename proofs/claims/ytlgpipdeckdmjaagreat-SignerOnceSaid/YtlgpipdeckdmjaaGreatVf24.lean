/-
  Several texts laid into one (merge.py): Open, Open3, Open4, VerWalk, VerProof.
-/
import Derived.Test.YtlgpipdeckdmjaaGreatVf01
import Derived.OpenShut
import Derived.ProofKit
import Derived.Carry
import Derived.ChangeArms
import Derived.Test.YtlgpipdeckdmjaaGreatVf13
import Derived.Test.YtlgpipdeckdmjaaGreatVf23
import Derived.Test.YtlgpipdeckdmjaaGreatRows
import Derived.WalkKit
import Derived.ShutString
import Derived.ChangeOld
import Derived.Below
/-
  An array of integers that comes in by value, opened. No program.
-/
set_option linter.unusedVariables false
set_option linter.unusedSimpArgs false
namespace Go.Proofs.YtlgpipdeckdmjaaGreat.Opened
open Go.ChangeShapes Go.WideShapes Go.ChangeAt Go.RowKit Base
section
variable {H : Type} {enc : TypeId × Value → H} {P : Program} {w : World} {base : Nat} {spare : Nat → Bool} {held : Bool} {t e : TypeId} {n : Nat} {k : IntKind} {v : Value}
theorem okWide_arr {r : Reach} {base : Nat} (ht : P.underlying t = some (.array n e)) (h : Value.okWide P w r base t v) : ∃ cs, v = .agg cs ∧ cs.size = P.cellsOf t := by
  unfold Value.okWide at h
  simp only [ht] at h
  obtain ⟨cs, hv, hs, _⟩ := h
  exact ⟨cs, hv, hs⟩
def numOf : Value → Int
  | .int _ z => z
  | _ => 0
theorem cells_arr {fuel : Nat} {cs : List Value} {x : DataW H × List MemPlace} (ht : P.underlying t = some (.array n e)) (he : P.underlying e = some (.int k)) (hce : P.cellsOf e = 1) (hct : P.cellsOf t = n)
    (h : DataW.trod enc P w base spare held fuel t cs = some x) : cs = (cs.map numOf).map (Value.int k) ∧ cs.length = n ∧ ∀ z ∈ cs.map numOf, (Lit.int k z).wf = true := by
  obtain ⟨xs, m, _, _, hl, hxl, hx⟩ := DataW.trod_array ht h
  rw [hct] at hl
  have hi : ∀ i, i < n → ∃ z, cs[i]? = some (.int k z) ∧ (Lit.int k z).wf = true := by
    intro i hin
    have h1 := hx i hin
    rw [hce, Nat.mul_one, List.getElem?_eq_getElem (by omega)] at h1
    obtain ⟨z, hc, _, hw⟩ := DataW.trod_int he h1
    refine ⟨z, ?_, hw⟩
    have := congrArg (·[0]?) hc
    simpa [List.getElem?_take, List.getElem?_drop] using this
  refine ⟨?_, hl, ?_⟩
  · apply List.ext_getElem?
    intro i
    by_cases hin : i < n
    · obtain ⟨z, hz, _⟩ := hi i hin
      simp [hz, numOf]
    · rw [List.getElem?_eq_none (by omega), List.getElem?_eq_none (by simp; omega)]
  · intro z hz
    obtain ⟨u, hu, rfl⟩ := List.mem_map.1 hz
    obtain ⟨i, hi2, rfl⟩ := List.mem_iff_getElem.1 hu
    obtain ⟨z, hz, hw⟩ := hi i (by omega)
    rw [List.getElem?_eq_getElem hi2] at hz
    have e := Option.some.inj hz
    rw [e]
    exact hw
/-- An array of integers of one kind. -/
theorem open_arr {r : Reach} {d : DataW H} {ps : List MemPlace} (ht : P.underlying t = some (.array n e)) (he : P.underlying e = some (.int k)) (hce : P.cellsOf e = 1) (hct : P.cellsOf t = n)
    {b0 : Nat} (hval : Value.okWide P w r b0 t v) (hd : DataW.Trod enc P w base spare held t v d ps) : ∃ zs : List Int, v = .agg (zs.map (Value.int k)).toArray ∧ zs.length = n ∧ ∀ z ∈ zs, (Lit.int k z).wf = true := by
  obtain ⟨cs, rfl, hs⟩ := okWide_arr ht hval
  obtain ⟨fuel, hf⟩ := hd
  obtain ⟨h1, h2, h3⟩ := cells_arr ht he hce hct hf
  refine ⟨_, ?_, ?_, h3⟩
  · rw [← h1]; rfl
  · rw [List.length_map]; exact h2
theorem cl_of (zs : List Int) (k : IntKind) (h : ∀ z ∈ zs, 0 ≤ z) : zs.map (Value.int k) = cl k (zs.map Int.toNat) := by
  unfold cl
  rw [List.map_map]
  apply List.map_congr_left
  intro z hz
  have := h z hz
  simp [Int.toNat_of_nonneg this]
theorem wf_u8 {z : Int} (h : (Lit.int .u8 z).wf = true) : 0 ≤ z ∧ z < 256 := by
  have h2 : IntKind.u8.min ≤ z ∧ z ≤ IntKind.u8.max := by simpa [Lit.wf] using h
  have e1 : IntKind.u8.min = 0 := by decide
  have e2 : IntKind.u8.max = 255 := by decide
  omega
theorem wf_u16 {z : Int} (h : (Lit.int .u16 z).wf = true) : 0 ≤ z ∧ z < 65536 := by
  have h2 : IntKind.u16.min ≤ z ∧ z ≤ IntKind.u16.max := by simpa [Lit.wf] using h
  have e1 : IntKind.u16.min = 0 := by decide
  have e2 : IntKind.u16.max = 65535 := by decide
  omega
/-- .. of bytes. -/
theorem open_bytes {r : Reach} {d : DataW H} {ps : List MemPlace} (ht : P.underlying t = some (.array n e)) (he : P.underlying e = some (.int .u8)) (hce : P.cellsOf e = 1) (hct : P.cellsOf t = n)
    {b0 : Nat} (hval : Value.okWide P w r b0 t v) (hd : DataW.Trod enc P w base spare held t v d ps) : ∃ l : List Nat, v = agg .u8 l ∧ l.length = n ∧ ∀ j, l.getD j 0 < 256 := by
  obtain ⟨zs, rfl, hl, hw⟩ := open_arr ht he hce hct hval hd
  refine ⟨zs.map Int.toNat, ?_, by simpa using hl, fun j => ?_⟩
  · rw [cl_of zs .u8 (fun z hz => (wf_u8 (hw z hz)).1)]
  · rw [List.getD_eq_getElem?_getD, List.getElem?_map]
    cases hj : zs[j]? with
    | none => simp
    | some z =>
      have := wf_u8 (hw z (List.mem_of_getElem? hj))
      simp only [Option.map_some, Option.getD_some]
      omega
end
end Go.Proofs.YtlgpipdeckdmjaaGreat.Opened
/-
  Arrays of arrays of bytes, and slices of these, that come in, opened. No program.
-/
set_option linter.unusedVariables false
set_option linter.unusedSimpArgs false
namespace Go.Proofs.YtlgpipdeckdmjaaGreat.Opened
open Go.ChangeShapes Go.WideShapes Go.ChangeAt Go.RowKit Base
def AllU8 (cs : List Value) : Prop := ∀ v ∈ cs, ∃ z : Nat, v = .int .u8 (z : Int) ∧ z < 256
def By8 (l : List Nat) : Prop := ∀ j, l.getD j 0 < 256
def nOf : Value → Nat
  | .int _ z => z.toNat
  | _ => 0
theorem allU8_cl {cs : List Value} (h : AllU8 cs) : ∃ l, cs = cl .u8 l ∧ l.length = cs.length ∧ By8 l := by
  refine ⟨cs.map nOf, ?_, by simp, fun j => ?_⟩
  · unfold cl
    rw [List.map_map]
    apply List.ext_getElem (by simp)
    intro j h1 h2
    obtain ⟨z, hz, _⟩ := h cs[j] (List.getElem_mem h1)
    simp [hz, nOf]
  · rw [List.getD_eq_getElem?_getD, List.getElem?_map]
    cases hj : cs[j]? with
    | none => simp
    | some v =>
      obtain ⟨z, rfl, hz⟩ := h v (List.mem_of_getElem? hj)
      simp [nOf, hz]
theorem allU8_chunks {n m : Nat} {cs : List Value} (hl : cs.length = n * m) (h : ∀ i, i < n → AllU8 ((cs.drop (i * m)).take m)) : AllU8 cs := by
  intro v hv
  obtain ⟨j, hj, rfl⟩ := List.mem_iff_getElem.1 hv
  have hm : 0 < m := by
    rcases Nat.eq_zero_or_pos m with h0 | h0
    · subst h0; rw [Nat.mul_zero] at hl; omega
    · exact h0
  have hi : j / m < n := (Nat.div_lt_iff_lt_mul hm).2 (by omega)
  refine h (j / m) hi _ (List.mem_iff_getElem?.2 ⟨j % m, ?_⟩)
  rw [List.getElem?_take, if_pos (Nat.mod_lt _ hm), List.getElem?_drop, Nat.mul_comm, Nat.div_add_mod, List.getElem?_eq_getElem hj]
section
variable {H : Type} {enc : TypeId × Value → H} {P : Program} {w : World} {base : Nat} {spare : Nat → Bool} {held : Bool} {t e u : TypeId} {n m fuel : Nat} {k : IntKind} {v : Value} {cs : List Value} {x : DataW H × List MemPlace}
theorem cells_u8 (ht : P.underlying t = some (.array n e)) (he : P.underlying e = some (.int .u8)) (hce : P.cellsOf e = 1) (hct : P.cellsOf t = n) (h : DataW.trod enc P w base spare held fuel t cs = some x) : AllU8 cs ∧ cs.length = n := by
  obtain ⟨h1, h2, h3⟩ := cells_arr ht he hce hct h
  refine ⟨fun v hv => ?_, h2⟩
  rw [h1] at hv
  obtain ⟨z, hz, rfl⟩ := List.mem_map.1 hv
  have hw := wf_u8 (h3 z hz)
  exact ⟨z.toNat, by rw [Int.toNat_of_nonneg hw.1], by omega⟩
theorem cells_rows (ht : P.underlying t = some (.array n e)) (he : P.underlying e = some (.array m u)) (hu : P.underlying u = some (.int .u8)) (hcu : P.cellsOf u = 1) (hce : P.cellsOf e = m) (hct : P.cellsOf t = n * m)
    (h : DataW.trod enc P w base spare held fuel t cs = some x) : AllU8 cs ∧ cs.length = n * m := by
  obtain ⟨xs, g, _, _, hl, hxl, hx⟩ := DataW.trod_array ht h
  rw [hct] at hl
  refine ⟨allU8_chunks hl fun i hi => ?_, hl⟩
  have h1 := hx i hi
  rw [hce, List.getElem?_eq_getElem (by omega)] at h1
  exact (cells_u8 he hu hcu hce h1).1
/-- An array of arrays of bytes, as one list. -/
theorem open_rows {r : Reach} {d : DataW H} {ps : List MemPlace} (ht : P.underlying t = some (.array n e)) (he : P.underlying e = some (.array m u)) (hu : P.underlying u = some (.int .u8)) (hcu : P.cellsOf u = 1) (hce : P.cellsOf e = m) (hct : P.cellsOf t = n * m)
    {b0 : Nat} (hval : Value.okWide P w r b0 t v) (hd : DataW.Trod enc P w base spare held t v d ps) : ∃ l : List Nat, v = agg .u8 l ∧ l.length = n * m ∧ By8 l := by
  obtain ⟨cs, rfl, hs⟩ := okWide_arr ht hval
  obtain ⟨fuel, hf⟩ := hd
  obtain ⟨h1, h2⟩ := cells_rows ht he hu hcu hce hct hf
  obtain ⟨l, e1, e2, e3⟩ := allU8_cl h1
  refine ⟨l, ?_, ?_, e3⟩
  · unfold agg
    rw [← e1]; rfl
  · have h2' : cs.toList.length = n * m := h2
    rw [e2]; exact h2'
/-- A slice of n elements of 'size' cells each that reads as xs, if it has an element. -/
def Rd (w : World) (size : Nat) (v : Value) (n : Nat) (xs : List Value) : Prop :=
  ∃ A c, v = .slice A n c ∧ n ≤ c ∧ c ≤ maxLen ∧ xs.length = n * size ∧ (A = none → c = 0) ∧ (0 < n → ∃ b o, A = some ⟨b, o, none⟩ ∧ b < w.heap.size ∧ ∀ j u, xs[j]? = some u → w.cell? ⟨b, o + j, none⟩ = some u)
theorem Rd.keep {w' : World} {size : Nat} {xs : List Value} (h : Rd w size v n xs) (hb : Below w.heap.size w w') : Rd w' size v n xs := by
  obtain ⟨A, c, hv, hc, hm, hl, hn, hr⟩ := h
  refine ⟨A, c, hv, hc, hm, hl, hn, fun hp => ?_⟩
  obtain ⟨b, o, hA, hlt, hcell⟩ := hr hp
  exact ⟨b, o, hA, Nat.lt_of_lt_of_le hlt hb.size, fun j u hj => (hb.cell (p := ⟨b, o + j, none⟩) hlt).trans (hcell j u hj)⟩
theorem cell_lt {w : World} {b o : Nat} {u : Value} (h : w.cell? ⟨b, o, none⟩ = some u) : b < w.heap.size := by
  unfold World.cell? at h
  cases hb : w.heap[b]? with
  | none => simp [hb] at h
  | some y => exact (Array.getElem?_eq_some_iff.1 hb).1
/-- A slice of arrays of bytes. -/
theorem cells_slice (ht : P.underlying t = some (.slice e)) (he : P.underlying e = some (.array m u)) (hu : P.underlying u = some (.int .u8)) (hcu : P.cellsOf u = 1) (hce : P.cellsOf e = m) (hm : 0 < m)
    (h : DataW.trod enc P w base spare held fuel t cs = some x) : ∃ v n l, cs = [v] ∧ Rd w m v n (cl .u8 l) ∧ l.length = n * m ∧ By8 l := by
  rcases DataW.trod_slice ht h with ⟨h0, _⟩ | ⟨a, len, cap, elems, rest, g, _, rfl, _, hb, hl, hmx, hlen, hel, _, _⟩
  · exact ⟨_, 0, [], h0, ⟨none, 0, rfl, Nat.le_refl _, Nat.zero_le _, by simp [cl], fun _ => rfl, fun h => absurd h (by omega)⟩, by simp, fun j => by simp⟩
  · have each : ∀ i, i < len → ∃ cs', w.cells? base (a.add (i * m)) m = some cs' ∧ AllU8 cs' ∧ cs'.length = m := by
      intro i hi
      have h1 := hel i hi
      rw [hce, List.getElem?_eq_getElem (by omega), Option.bind_eq_some_iff] at h1
      obtain ⟨cs', h2, h3⟩ := h1
      obtain ⟨h4, h5⟩ := cells_u8 he hu hcu hce h3
      exact ⟨cs', h2, h4, h5⟩
    have at_ : ∀ j, j < len * m → ∃ z : Nat, w.cell? (a.add j) = some (.int .u8 (z : Int)) ∧ z < 256 := by
      intro j hj
      obtain ⟨cs', h2, h4, h5⟩ := each (j / m) ((Nat.div_lt_iff_lt_mul hm).2 hj)
      have h8 : j % m < m := Nat.mod_lt _ hm
      have h6 := (World.cells?_some h2).2.2 (j % m) h8
      have h7 : j % m < cs'.length := by rw [h5]; exact h8
      rw [List.getElem?_eq_getElem h7] at h6
      obtain ⟨z, hz, hz2⟩ := h4 _ (List.getElem_mem h7)
      refine ⟨z, ?_, hz2⟩
      rw [hz] at h6
      rw [← h6]
      have e : j / m * m + j % m = j := by rw [Nat.mul_comm]; exact Nat.div_add_mod j m
      rw [Addr.add_add, e]
    by_cases hp : 0 < len * m
    · obtain ⟨b, o, spot⟩ := a
      have hspot : spot = none := by
        obtain ⟨z, hz, _⟩ := at_ 0 hp
        simpa [Addr.add] using World.cell?_spot hz
      subst hspot
      let l : List Nat := (List.range (len * m)).map fun j => (match w.cell? ⟨b, o + j, none⟩ with | some v => nOf v | none => 0)
      have hll : l.length = len * m := by simp [l]
      have hget : ∀ j, j < len * m → w.cell? ⟨b, o + j, none⟩ = some (.int .u8 ((l.getD j 0 : Nat) : Int)) ∧ l.getD j 0 < 256 := by
        intro j hj
        obtain ⟨z, hz, hz2⟩ := at_ j hj
        rw [Go.WideShapes.add_plain] at hz
        have e : l.getD j 0 = z := by simp [l, List.getD, hj, hz, nOf]
        rw [e]
        exact ⟨hz, hz2⟩
      refine ⟨_, len, l, rfl, ⟨_, _, rfl, hl, hmx, by rw [cl_length, hll], (fun h => by cases h), fun hp2 => ⟨b, o, rfl, ?_, ?_⟩⟩, hll, fun j => ?_⟩
      · exact cell_lt (hget 0 hp).1
      · intro j u hj
        by_cases hj2 : j < len * m
        · rw [cl_get _ _ _ (by omega)] at hj
          rw [← hj]
          exact (hget j hj2).1
        · rw [List.getElem?_eq_none (by rw [cl_length]; omega)] at hj
          cases hj
      · by_cases hj2 : j < len * m
        · exact (hget j hj2).2
        · rw [List.getD_eq_getElem?_getD, List.getElem?_eq_none (by omega)]; decide
    · have h0 : len = 0 := by
        rcases Nat.eq_zero_or_pos len with h0 | h0
        · exact h0
        · exact absurd (Nat.mul_pos h0 hm) hp
      subst h0
      exact ⟨_, 0, [], rfl, ⟨_, _, rfl, hl, hmx, by simp [cl], (fun h => by cases h), fun h => absurd h (by omega)⟩, by simp, fun j => by simp⟩
theorem open_slice_rows {r : Reach} {d : DataW H} {ps : List MemPlace} (ht : P.underlying t = some (.slice e)) (he : P.underlying e = some (.array m u)) (hu : P.underlying u = some (.int .u8)) (hcu : P.cellsOf u = 1) (hce : P.cellsOf e = m) (hm : 0 < m)
    {b0 : Nat} (hval : Value.okWide P w r b0 t v) (hd : DataW.Trod enc P w base spare held t v d ps) : ∃ n l, Rd w m v n (cl .u8 l) ∧ l.length = n * m ∧ By8 l := by
  obtain ⟨a, len, cap, rfl⟩ := okWide_slice ht hval
  obtain ⟨fuel, hf⟩ := hd
  obtain ⟨v, n, l, hv, h1, h2, h3⟩ := cells_slice ht he hu hcu hce hm hf
  have e : v = .slice a len cap := by
    have : Value.cells (.slice a len cap) = #[.slice a len cap] := rfl
    simp [Value.cells] at hv
    exact hv.symm
  subst e
  exact ⟨n, l, h1, h2, h3⟩
end
end Go.Proofs.YtlgpipdeckdmjaaGreat.Opened
/-
  A signature that comes in, opened. No program.
-/
set_option linter.unusedVariables false
set_option linter.unusedSimpArgs false
namespace Go.Proofs.YtlgpipdeckdmjaaGreat.Opened
open Go.ChangeShapes Go.WideShapes Go.ChangeAt Go.RowKit Base
open Go.Proofs.YtlgpipdeckdmjaaGreat.Str Go.Proofs.YtlgpipdeckdmjaaGreat.Mer
/-- A list cut into rows of 16. -/
def cut16 : Nat → List Nat → List (List Nat)
  | 0, _ => []
  | n + 1, l => l.take 16 :: cut16 n (l.drop 16)
theorem cut16_flatten : ∀ (n : Nat) (l : List Nat), l.length = n * 16 → (cut16 n l).flatten = l
  | 0, l, h => by
    have : l = [] := List.eq_nil_of_length_eq_zero (by omega)
    subst this
    rfl
  | n + 1, l, h => by rw [cut16, List.flatten_cons, cut16_flatten n (l.drop 16) (by rw [List.length_drop]; omega), List.take_append_drop]
theorem cut16_length : ∀ (n : Nat) (l : List Nat), (cut16 n l).length = n
  | 0, _ => rfl
  | n + 1, l => by rw [cut16, List.length_cons, cut16_length n]
theorem cut16_16 : ∀ (n : Nat) (l : List Nat), l.length = n * 16 → N16 (cut16 n l)
  | 0, l, _ => fun x hx => by cases hx
  | n + 1, l, h => fun x hx => by
    rcases List.mem_cons.1 hx with rfl | hx
    · rw [List.length_take]; omega
    · exact cut16_16 n (l.drop 16) (by rw [List.length_drop]; omega) x hx
theorem rd_sln {w : World} {v : Value} {n : Nat} {l : List Nat} (h : Rd w 16 v n (cl .u8 l)) (hl : l.length = n * 16) (ha : ∀ ad k c, v = .slice (some ad) k c → ad.spot = none ∧ ad.block < w.heap.size) : SlN w v (cut16 n l) := by
  obtain ⟨A, c, rfl, hc, hm, hx, hn, hr⟩ := h
  refine ⟨A, c, by rw [cut16_length], by rw [cut16_length]; exact hc, by rw [cut16_length, cut16_flatten n l hl]; exact hx, hn, fun ad had => ?_⟩
  rw [cut16_flatten n l hl]
  subst had
  obtain ⟨h1, h2⟩ := ha ad n c rfl
  obtain ⟨b, o, sp⟩ := ad
  simp only at h1 h2
  subst h1
  refine ⟨b, o, rfl, h2, fun j u hj => ?_⟩
  by_cases h0 : 0 < n
  · obtain ⟨b', o', hA, hlt, hcell⟩ := hr h0
    cases hA
    exact hcell j u hj
  · have : l = [] := List.eq_nil_of_length_eq_zero (by omega)
    subst this
    cases hj
section
variable {H : Type} {enc : TypeId × Value → H} {P : Program} {w : World} {base : Nat} {spare : Nat → Bool} {held : Bool} {t e u : TypeId} {v : Value}
theorem open_sig {r : Reach} {d : DataW H} {pl : List MemPlace} {f0 f1 f2 : Field} (ht : P.underlying t = some (.struct #[f0, f1, f2])) (hcs : P.cellsOf t = 562) (o0 : f0.offset = 0) (o1 : f1.offset = 1) (o2 : f2.offset = 561) (c0 : P.cellsOf f0.type = 1) (c1 : P.cellsOf f1.type = 560) (c2 : P.cellsOf f2.type = 1)
    (u0 : P.underlying f0.type = some (.int .i64)) (u1 : P.underlying f1.type = some (.array 35 e)) (he : P.underlying e = some (.array 16 u)) (hu : P.underlying u = some (.int .u8)) (hcu : P.cellsOf u = 1) (hce : P.cellsOf e = 16) (u2 : P.underlying f2.type = some (.slice e))
    (hts : (P.cellTypes P.depth t).map (fun ts => (ts.length, ts[561]?)) = some (562, some f2.type))
    {b0 : Nat} (hval : Value.okWide P w r b0 t v) (hd : DataW.Trod enc P w base spare held t v d pl) :
    ∃ (l : Int) (ch : List Nat) (p : Value) (ps : List (List Nat)), v = .agg (sigV l ch p).toArray ∧ (Lit.int .i64 l).wf = true ∧ ch.length = 560 ∧ By8 ch ∧ SlN w p ps ∧ N16 ps ∧ (∀ x ∈ ps.flatten, x < 256) := by
  unfold Value.okWide at hval
  simp only [ht] at hval
  obtain ⟨cs, rfl, hs, ts, h1, _, h3⟩ := hval
  rw [h1] at hts
  simp only [Option.map_some, Option.some.injEq, Prod.mk.injEq] at hts
  obtain ⟨t1, t2⟩ := hts
  obtain ⟨fuel, hf⟩ := hd
  obtain ⟨xs, m, _, hx, hl, hlen, hfd⟩ := DataW.trod_struct ht hf
  have hl' : cs.toList.length = 562 := by rw [← hcs]; exact hl
  have d0 := hfd 0 f0 rfl
  have d1 := hfd 1 f1 rfl
  have d2 := hfd 2 f2 rfl
  rw [o0, c0] at d0
  rw [o1, c1] at d1
  rw [o2, c2] at d2
  rw [show (Value.agg cs).cells.toList = cs.toList from rfl] at d0 d1 d2
  have hx3 : xs.length = 3 := hlen
  rw [List.getElem?_eq_getElem (by omega)] at d0 d1 d2
  obtain ⟨z, hz, _, hwf⟩ := DataW.trod_int u0 d0
  obtain ⟨a1, a2⟩ := cells_rows u1 he hu hcu hce (by rw [c1]) d1
  obtain ⟨ch, e1, e2, e3⟩ := allU8_cl a1
  obtain ⟨p, n, l, g1, g2, g3, g4⟩ := cells_slice u2 he hu hcu hce (by omega) d2
  have hC : cs.toList = sigV z ch p := by
    have h5 : cs.toList = cs.toList.take 1 ++ ((cs.toList.drop 1).take 560 ++ (cs.toList.drop 561).take 1) := by
      have x1 : (cs.toList.drop 561).take 1 = cs.toList.drop 561 := List.take_of_length_le (by rw [List.length_drop, hl']; omega)
      have x2 : (cs.toList.drop 1).take 560 ++ cs.toList.drop 561 = cs.toList.drop 1 := by
        have := List.take_append_drop 560 (cs.toList.drop 1)
        rwa [List.drop_drop] at this
      rw [x1, x2, List.take_append_drop]
    rw [h5, g1, e1]
    have hz' : cs.toList.take 1 = [Value.int .i64 z] := by simpa using hz
    rw [hz']
    rfl
  have hp : cs[561]? = some p := by
    rw [← Array.getElem?_toList]
    have : ((cs.toList.drop 561).take 1)[0]? = some p := by rw [g1]; rfl
    rwa [List.getElem?_take, if_pos (by omega), List.getElem?_drop] at this
  have hok := h3 561 p hp
  rw [t1] at hok
  obtain ⟨q, hq1, hq2⟩ := hok
  rw [show 561 % 562 = 561 from rfl, t2] at hq1
  cases hq1
  refine ⟨z, ch, p, cut16 n l, ?_, hwf, by rw [e2, a2], e3, rd_sln g2 g3 ?_, cut16_16 n l g3, ?_⟩
  · congr 1
    apply Array.ext'
    rw [hC]
  · intro ad k c hv
    subst hv
    unfold Cell.okWide Cell.ok at hq2
    simp only [u2] at hq2
    obtain ⟨_, _, _, h6, row, cells, h7, _⟩ := hq2
    refine ⟨h6, ?_⟩
    unfold World.shape? at h7
    rcases Nat.lt_or_ge ad.block w.heap.size with h8 | h8
    · exact h8
    · simp [Array.getElem?_eq_none h8] at h7
  · rw [cut16_flatten n l g3]
    intro x hx
    obtain ⟨j, hj, rfl⟩ := List.mem_iff_getElem.1 hx
    have := g4 j
    rwa [List.getD_eq_getElem?_getD, List.getElem?_eq_getElem hj] at this
end
end Go.Proofs.YtlgpipdeckdmjaaGreat.Opened
/-
  SignerVerify: the walk, whatever comes in.
-/
set_option linter.unusedVariables false
namespace Go.Proofs.YtlgpipdeckdmjaaGreat.VerWalk
open Go.RowKit Base Reg Types Slice Sha
open Go.Proofs.YtlgpipdeckdmjaaGreat.One Go.Proofs.YtlgpipdeckdmjaaGreat.Str Go.Proofs.YtlgpipdeckdmjaaGreat.Mer Go.Proofs.YtlgpipdeckdmjaaGreat.Rm
theorem walk (w : World) (h : Int) (root d : List Nat) (l : Int) (ch : List Nat) (p : Value) (ps : List (List Nat))
    (wh : (Lit.int .i64 h).wf = true) (hr : root.length = 16) (br : ∀ j, root.getD j 0 < 256) (hd : d.length = 16) (bd : ∀ j, d.getD j 0 < 256) (hc : ch.length = 560) (bc : Opened.By8 ch) (hp : SlN w p ps) (hN : N16 ps) (hb : ∀ x ∈ ps.flatten, x < 256) (wl : (Lit.int .i64 l).wf = true) :
    Calls Tryz.prog 4 #[.int .i64 h, agg .u8 root, agg .u8 d, .agg (sigV l ch p).toArray] w fun e w' => e = .returned (.bool true) ∧ Below w.heap.size w w' := by
  by_cases h20 : ps.length ≤ 20
  · by_cases hg : GOk l ps.length
    · obtain ⟨ln, rfl⟩ : ∃ ln : Nat, l = (ln : Int) := ⟨l.toNat, by have := hg.2.1; omega⟩
      exact ver_good w h ln root ch d p ps hr hc hd bd hp hN hg.1.1 hg.1.2 (by have := hg.2.2; exact_mod_cast this)
    · exact ver_bad w h l root ch d p ps hr hc hd bd hp hN h20 hg
  · obtain ⟨A, c, rfl, -⟩ := hp
    exact ver_few w h l root ch d A ps.length c hr hc hd h20
end Go.Proofs.YtlgpipdeckdmjaaGreat.VerWalk
/-
  SignerVerify: the row's step over the walk.
-/
set_option linter.unusedVariables false
namespace Go.Proofs.YtlgpipdeckdmjaaGreat
namespace VerProof
open Go.ChangeShapes Go.WideShapes Go.ChangeAt Go.RowKit
theorem own : ownKnob Tryz.prog.godebug = none := by kernel_rfl
theorem laidOut : laidOutB Tryz.prog = true := by kernel_rfl
set_option maxRecDepth 100000 in
theorem lifted (os : Os) (started : os.Started) (H : Type) (enc : TypeId × Value → H) :
    ReturnsInHanded {} Tryz.checked os 4 .any (Rows.signerVerifySpec.pre6 enc Tryz.prog Tryz.f4 Rows.signerVerifyRow.domain false) (Rows.signerVerifySpec.post enc Tryz.prog Tryz.f4 false true false false) := by
  refine returnsInHanded_of_change (C := Tryz.checked) own started (by kernel_rfl) Tryz.func4
    (ChangeSpec.witness6 (enc := enc) (C := Tryz.checked) false ⟨#[], #[.int .i64 0, .agg (Base.cl .u8 (Base.zs 16)).toArray, .agg (Base.cl .u8 (Base.zs 16)).toArray, .agg (Str.sigV 0 (Base.zs 560) (.slice none 0 0)).toArray], []⟩ 8 (by kernel_rfl) (by kernel_rfl) (by kernel_rfl) (by kernel_rfl)) ?_
  intro W base args ds gs before hval0 hW hcnd _
  have hval : ∀ (j : Nat) t v, Tryz.f4.params[j]? = some t → args[j]? = some v → Value.okWide Tryz.prog W .any base t v := hval0
  have hW' := hW
  obtain ⟨p, q, hA0, hV, rfl, hfz, hnd⟩ := hW
  have hA : DataW.TrodAll enc Tryz.prog W 0 (fun _ => true) true Tryz.f4.params.toList args.toList ds p := hA0
  rw [Tryz.params4] at hA hval
  obtain ⟨v0, vs0, d0, ds0, p0, q0, hargs, rfl, rfl, h0, r0⟩ := trodAll_cons hA
  obtain ⟨v1, vs1, d1, ds1, p1, q1, rfl, rfl, rfl, h1, r1⟩ := trodAll_cons r0
  obtain ⟨v2, vs2, d2, ds2, p2, q2, rfl, rfl, rfl, h2, r2⟩ := trodAll_cons r1
  obtain ⟨v3, vs3, d3, ds3, p3, q3, rfl, rfl, rfl, h3, r3⟩ := trodAll_cons r2
  obtain ⟨rfl, rfl, rfl⟩ := trodAll_nil r3
  obtain rfl : args = #[v0, v1, v2, v3] := by cases args; simp_all
  obtain ⟨rfl, rfl⟩ := trodVars_none hV
  obtain ⟨a0, rfl, rfl, rfl, w0⟩ := open_int Tryz.underlying3 (hval 0 3 v0 rfl rfl) h0
  have k1 := h1
  have lt1 : ∀ x ∈ p1, x.block < W.heap.size := by obtain ⟨m, hm⟩ := k1; exact DataW.trod_lt m _ _ _ hm
  obtain ⟨l1, rfl, hl1, hb1⟩ := Opened.open_bytes Tryz.underlying23 Tryz.underlying5 (by kernel_rfl) (by kernel_rfl) (hval 1 23 v1 rfl rfl) h1
  have k2 := h2
  have lt2 : ∀ x ∈ p2, x.block < W.heap.size := by obtain ⟨m, hm⟩ := k2; exact DataW.trod_lt m _ _ _ hm
  obtain ⟨l2, rfl, hl2, hb2⟩ := Opened.open_bytes Tryz.underlying23 Tryz.underlying5 (by kernel_rfl) (by kernel_rfl) (hval 2 23 v2 rfl rfl) h2
  have k3 := h3
  have lt3 : ∀ x ∈ p3, x.block < W.heap.size := by obtain ⟨m, hm⟩ := k3; exact DataW.trod_lt m _ _ _ hm
  obtain ⟨l3, ch3, pv3, ps3, rfl, wl3, hc3, bc3, hs3, hn3, hb3⟩ := Opened.open_sig Tryz.underlying36 (by kernel_rfl) (by kernel_rfl) (by kernel_rfl) (by kernel_rfl) (by kernel_rfl) (by kernel_rfl) (by kernel_rfl) Tryz.underlying3 Tryz.underlying28 Tryz.underlying23 Tryz.underlying5 (by kernel_rfl) (by kernel_rfl) Tryz.underlying29 (by kernel_rfl) (hval 3 36 v3 rfl rfl) h3
  clear hA0 hval0
  refine (VerWalk.walk W a0 l1 l2 l3 ch3 pv3 ps3 w0 hl1 hb1 hl2 hb2 hc3 bc3 hs3 hn3 hb3 wl3).mono fun e W' ⟨he, bel⟩ => ?_
  subst he
  exact ⟨_, rfl, _, _, _, [], _, [], hW', trodAll_mk1 (shut_bool Tryz.underlying4 _), (trodAll_cons_mk (shut_int Tryz.underlying3 w0) (trodAll_cons_mk (Below.trod laidOut (by kernel_rfl) (of_decide_eq_true (by kernel_rfl)) k1 bel lt1) (trodAll_cons_mk (Below.trod laidOut (by kernel_rfl) (of_decide_eq_true (by kernel_rfl)) k2 bel lt2) (trodAll_cons_mk (Below.trod laidOut (by kernel_rfl) (of_decide_eq_true (by kernel_rfl)) k3 bel lt3) trodAll_mk0)))), rfl, bel.frame _, fun h => by cases h⟩

theorem over : Rows.signerVerifyRow.holds Tryz.pinned (OpenSpec.ofChange Rows.signerVerifySpec) :=
  OpenClaim.holds_of_wide 4 Tryz.f4 rfl rfl rfl rfl rfl rfl rfl ⟨rfl, rfl, rfl, rfl, rfl⟩ rfl rfl rfl rfl rfl (by kernel_rfl) Tryz.func4 (by kernel_rfl)
    (of_decide_eq_true (by kernel_rfl)) (by unfold Func.isWrapper; first | (rw [if_pos (by decide +kernel)]; kernel_rfl) | (rw [if_neg (by decide +kernel)]; exact ⟨rfl, rfl⟩))
    (fun os started H enc _ => lifted os started H enc)
end VerProof
theorem verProved : Rows.SignerVerifySaid := VerProof.over
end Go.Proofs.YtlgpipdeckdmjaaGreat
