/-
  Several texts laid into one (merge.py): Open3, Reg.
-/
import Derived.Test.YtlgpipdeckdmjaaNl01
import Derived.ChangeArms
import Derived.Deep.QuietTactic
import Derived.BigQuiet
import Derived.StillTail
import Derived.Below
/-
  Arrays of arrays of bytes, and slices of these, that come in, opened. No program.
-/
set_option linter.unusedVariables false
set_option linter.unusedSimpArgs false
namespace Go.Proofs.Ytlgpipdeckdmjaa.Opened
open Go.ChangeShapes Go.WideShapes Go.ChangeAt Go.RowKit Base
def AllU8 (cs : List Value) : Prop := ∀ v ∈ cs, ∃ z : Nat, v = .int .u8 (z : Int) ∧ z < 256
def By8 (l : List Nat) : Prop := ∀ j, l.getD j 0 < 256
def nOf : Value → Nat
  | .int _ z => z.toNat
  | _ => 0
theorem allU8_cl {cs : List Value} (h : AllU8 cs) : ∃ l, cs = cl .u8 l ∧ l.length = cs.length ∧ By8 l := by
  refine ⟨cs.map nOf, ?_, by simp, fun j => ?_⟩
  · unfold cl
    rw [List.map_map]
    apply List.ext_getElem (by simp)
    intro j h1 h2
    obtain ⟨z, hz, _⟩ := h cs[j] (List.getElem_mem h1)
    simp [hz, nOf]
  · rw [List.getD_eq_getElem?_getD, List.getElem?_map]
    cases hj : cs[j]? with
    | none => simp
    | some v =>
      obtain ⟨z, rfl, hz⟩ := h v (List.mem_of_getElem? hj)
      simp [nOf, hz]
theorem allU8_chunks {n m : Nat} {cs : List Value} (hl : cs.length = n * m) (h : ∀ i, i < n → AllU8 ((cs.drop (i * m)).take m)) : AllU8 cs := by
  intro v hv
  obtain ⟨j, hj, rfl⟩ := List.mem_iff_getElem.1 hv
  have hm : 0 < m := by
    rcases Nat.eq_zero_or_pos m with h0 | h0
    · subst h0; rw [Nat.mul_zero] at hl; omega
    · exact h0
  have hi : j / m < n := (Nat.div_lt_iff_lt_mul hm).2 (by omega)
  refine h (j / m) hi _ (List.mem_iff_getElem?.2 ⟨j % m, ?_⟩)
  rw [List.getElem?_take, if_pos (Nat.mod_lt _ hm), List.getElem?_drop, Nat.mul_comm, Nat.div_add_mod, List.getElem?_eq_getElem hj]
section
variable {H : Type} {enc : TypeId × Value → H} {P : Program} {w : World} {base : Nat} {spare : Nat → Bool} {held : Bool} {t e u : TypeId} {n m fuel : Nat} {k : IntKind} {v : Value} {cs : List Value} {x : DataW H × List MemPlace}
theorem cells_u8 (ht : P.underlying t = some (.array n e)) (he : P.underlying e = some (.int .u8)) (hce : P.cellsOf e = 1) (hct : P.cellsOf t = n) (h : DataW.trod enc P w base spare held fuel t cs = some x) : AllU8 cs ∧ cs.length = n := by
  obtain ⟨h1, h2, h3⟩ := cells_arr ht he hce hct h
  refine ⟨fun v hv => ?_, h2⟩
  rw [h1] at hv
  obtain ⟨z, hz, rfl⟩ := List.mem_map.1 hv
  have hw := wf_u8 (h3 z hz)
  exact ⟨z.toNat, by rw [Int.toNat_of_nonneg hw.1], by omega⟩
theorem cells_rows (ht : P.underlying t = some (.array n e)) (he : P.underlying e = some (.array m u)) (hu : P.underlying u = some (.int .u8)) (hcu : P.cellsOf u = 1) (hce : P.cellsOf e = m) (hct : P.cellsOf t = n * m)
    (h : DataW.trod enc P w base spare held fuel t cs = some x) : AllU8 cs ∧ cs.length = n * m := by
  obtain ⟨xs, g, _, _, hl, hxl, hx⟩ := DataW.trod_array ht h
  rw [hct] at hl
  refine ⟨allU8_chunks hl fun i hi => ?_, hl⟩
  have h1 := hx i hi
  rw [hce, List.getElem?_eq_getElem (by omega)] at h1
  exact (cells_u8 he hu hcu hce h1).1
/-- An array of arrays of bytes, as one list. -/
theorem open_rows {r : Reach} {d : DataW H} {ps : List MemPlace} (ht : P.underlying t = some (.array n e)) (he : P.underlying e = some (.array m u)) (hu : P.underlying u = some (.int .u8)) (hcu : P.cellsOf u = 1) (hce : P.cellsOf e = m) (hct : P.cellsOf t = n * m)
    {b0 : Nat} (hval : Value.okWide P w r b0 t v) (hd : DataW.Trod enc P w base spare held t v d ps) : ∃ l : List Nat, v = agg .u8 l ∧ l.length = n * m ∧ By8 l := by
  obtain ⟨cs, rfl, hs⟩ := okWide_arr ht hval
  obtain ⟨fuel, hf⟩ := hd
  obtain ⟨h1, h2⟩ := cells_rows ht he hu hcu hce hct hf
  obtain ⟨l, e1, e2, e3⟩ := allU8_cl h1
  refine ⟨l, ?_, ?_, e3⟩
  · unfold agg
    rw [← e1]; rfl
  · have h2' : cs.toList.length = n * m := h2
    rw [e2]; exact h2'
/-- A slice of n elements of 'size' cells each that reads as xs, if it has an element. -/
def Rd (w : World) (size : Nat) (v : Value) (n : Nat) (xs : List Value) : Prop :=
  ∃ A c, v = .slice A n c ∧ n ≤ c ∧ c ≤ maxLen ∧ xs.length = n * size ∧ (A = none → c = 0) ∧ (0 < n → ∃ b o, A = some ⟨b, o, none⟩ ∧ b < w.heap.size ∧ ∀ j u, xs[j]? = some u → w.cell? ⟨b, o + j, none⟩ = some u)
theorem Rd.keep {w' : World} {size : Nat} {xs : List Value} (h : Rd w size v n xs) (hb : Below w.heap.size w w') : Rd w' size v n xs := by
  obtain ⟨A, c, hv, hc, hm, hl, hn, hr⟩ := h
  refine ⟨A, c, hv, hc, hm, hl, hn, fun hp => ?_⟩
  obtain ⟨b, o, hA, hlt, hcell⟩ := hr hp
  exact ⟨b, o, hA, Nat.lt_of_lt_of_le hlt hb.size, fun j u hj => (hb.cell (p := ⟨b, o + j, none⟩) hlt).trans (hcell j u hj)⟩
theorem cell_lt {w : World} {b o : Nat} {u : Value} (h : w.cell? ⟨b, o, none⟩ = some u) : b < w.heap.size := by
  unfold World.cell? at h
  cases hb : w.heap[b]? with
  | none => simp [hb] at h
  | some y => exact (Array.getElem?_eq_some_iff.1 hb).1
/-- A slice of arrays of bytes. -/
theorem cells_slice (ht : P.underlying t = some (.slice e)) (he : P.underlying e = some (.array m u)) (hu : P.underlying u = some (.int .u8)) (hcu : P.cellsOf u = 1) (hce : P.cellsOf e = m) (hm : 0 < m)
    (h : DataW.trod enc P w base spare held fuel t cs = some x) : ∃ v n l, cs = [v] ∧ Rd w m v n (cl .u8 l) ∧ l.length = n * m ∧ By8 l := by
  rcases DataW.trod_slice ht h with ⟨h0, _⟩ | ⟨a, len, cap, elems, rest, g, _, rfl, _, hb, hl, hmx, hlen, hel, _, _⟩
  · exact ⟨_, 0, [], h0, ⟨none, 0, rfl, Nat.le_refl _, Nat.zero_le _, by simp [cl], fun _ => rfl, fun h => absurd h (by omega)⟩, by simp, fun j => by simp⟩
  · have each : ∀ i, i < len → ∃ cs', w.cells? base (a.add (i * m)) m = some cs' ∧ AllU8 cs' ∧ cs'.length = m := by
      intro i hi
      have h1 := hel i hi
      rw [hce, List.getElem?_eq_getElem (by omega), Option.bind_eq_some_iff] at h1
      obtain ⟨cs', h2, h3⟩ := h1
      obtain ⟨h4, h5⟩ := cells_u8 he hu hcu hce h3
      exact ⟨cs', h2, h4, h5⟩
    have at_ : ∀ j, j < len * m → ∃ z : Nat, w.cell? (a.add j) = some (.int .u8 (z : Int)) ∧ z < 256 := by
      intro j hj
      obtain ⟨cs', h2, h4, h5⟩ := each (j / m) ((Nat.div_lt_iff_lt_mul hm).2 hj)
      have h8 : j % m < m := Nat.mod_lt _ hm
      have h6 := (World.cells?_some h2).2.2 (j % m) h8
      have h7 : j % m < cs'.length := by rw [h5]; exact h8
      rw [List.getElem?_eq_getElem h7] at h6
      obtain ⟨z, hz, hz2⟩ := h4 _ (List.getElem_mem h7)
      refine ⟨z, ?_, hz2⟩
      rw [hz] at h6
      rw [← h6]
      have e : j / m * m + j % m = j := by rw [Nat.mul_comm]; exact Nat.div_add_mod j m
      rw [Addr.add_add, e]
    by_cases hp : 0 < len * m
    · obtain ⟨b, o, spot⟩ := a
      have hspot : spot = none := by
        obtain ⟨z, hz, _⟩ := at_ 0 hp
        simpa [Addr.add] using World.cell?_spot hz
      subst hspot
      let l : List Nat := (List.range (len * m)).map fun j => (match w.cell? ⟨b, o + j, none⟩ with | some v => nOf v | none => 0)
      have hll : l.length = len * m := by simp [l]
      have hget : ∀ j, j < len * m → w.cell? ⟨b, o + j, none⟩ = some (.int .u8 ((l.getD j 0 : Nat) : Int)) ∧ l.getD j 0 < 256 := by
        intro j hj
        obtain ⟨z, hz, hz2⟩ := at_ j hj
        rw [Go.WideShapes.add_plain] at hz
        have e : l.getD j 0 = z := by simp [l, List.getD, hj, hz, nOf]
        rw [e]
        exact ⟨hz, hz2⟩
      refine ⟨_, len, l, rfl, ⟨_, _, rfl, hl, hmx, by rw [cl_length, hll], (fun h => by cases h), fun hp2 => ⟨b, o, rfl, ?_, ?_⟩⟩, hll, fun j => ?_⟩
      · exact cell_lt (hget 0 hp).1
      · intro j u hj
        by_cases hj2 : j < len * m
        · rw [cl_get _ _ _ (by omega)] at hj
          rw [← hj]
          exact (hget j hj2).1
        · rw [List.getElem?_eq_none (by rw [cl_length]; omega)] at hj
          cases hj
      · by_cases hj2 : j < len * m
        · exact (hget j hj2).2
        · rw [List.getD_eq_getElem?_getD, List.getElem?_eq_none (by omega)]; decide
    · have h0 : len = 0 := by
        rcases Nat.eq_zero_or_pos len with h0 | h0
        · exact h0
        · exact absurd (Nat.mul_pos h0 hm) hp
      subst h0
      exact ⟨_, 0, [], rfl, ⟨_, _, rfl, hl, hmx, by simp [cl], (fun h => by cases h), fun h => absurd h (by omega)⟩, by simp, fun j => by simp⟩
theorem open_slice_rows {r : Reach} {d : DataW H} {ps : List MemPlace} (ht : P.underlying t = some (.slice e)) (he : P.underlying e = some (.array m u)) (hu : P.underlying u = some (.int .u8)) (hcu : P.cellsOf u = 1) (hce : P.cellsOf e = m) (hm : 0 < m)
    {b0 : Nat} (hval : Value.okWide P w r b0 t v) (hd : DataW.Trod enc P w base spare held t v d ps) : ∃ n l, Rd w m v n (cl .u8 l) ∧ l.length = n * m ∧ By8 l := by
  obtain ⟨a, len, cap, rfl⟩ := okWide_slice ht hval
  obtain ⟨fuel, hf⟩ := hd
  obtain ⟨v, n, l, hv, h1, h2, h3⟩ := cells_slice ht he hu hcu hce hm hf
  have e : v = .slice a len cap := by
    have : Value.cells (.slice a len cap) = #[.slice a len cap] := rfl
    simp [Value.cells] at hv
    exact hv.symm
  subst e
  exact ⟨n, l, h1, h2, h3⟩
end
end Go.Proofs.Ytlgpipdeckdmjaa.Opened
/-
  A region that draws its order, in a class of worlds: its first operations only read, or call functions that stay in the class; the last ones come behind them in one order. No program.
-/
set_option linter.unusedVariables false
set_option linter.unusedSimpArgs false
namespace Go.Proofs.Ytlgpipdeckdmjaa.Reg

section
variable {P : Program} {ops : Array Oper} {md : Region.Mode} {C : World → Prop}

/-- The first 'f' steps of a drawn region, all of them among the operations below 'n'; behind them 'L'. -/
def Head (P : Program) (md : Region.Mode) (ops : Array Oper) (C : World → Prop) (n : Nat) (L : Array Bool → Act → Prop) : Nat → Array Bool → Act → Prop
  | 0, listed, a => L listed a
  | f + 1, listed, a => Region.ready md ops listed ≠ [] ∧ ∀ i ∈ Region.ready md ops listed, i < n ∧ qOp P ops C i (Head P md ops C n L f (listed.setIfInBounds i true)) a

theorem Head.any {n g : Nat} {L : Array Bool → Act → Prop} {Q : Exit → Act → World → Prop} (hL : ∀ listed a w, C w → L listed a → wpAny P md ops Q g listed a w) :
    ∀ (f : Nat) (listed : Array Bool) (a : Act) (w : World), C w → Head P md ops C n L f listed a → wpAny P md ops Q (f + g) listed a w
  | 0, listed, a, w, hw, h => by rw [Nat.zero_add]; exact hL _ _ _ hw h
  | f + 1, listed, a, w, hw, h => by
    rw [show f + 1 + g = (f + g) + 1 by omega]
    exact ⟨fun h0 => absurd h0 h.1, fun i hi => wpOp_of_qOp hw (fun a' w' hw' h' => Head.any hL f _ a' w' hw' h') (h.2 i hi).2⟩

theorem Head.first {n i : Nat} {oi : Oper} {v : Value} {L : Array Bool → Act → Prop} (hi : ops[i]? = some oi) (hsel : ∀ (j : Nat) (o : Oper) cs b, ops[j]? = some o → o.op ≠ .select cs b)
    (hs : Region.sinkB md ops n = true) (hc : Region.chainB md ops n = true) (hn : n < ops.size) (hin : i < n) (hdone : ∀ listed a, L listed a → ∀ j ∈ Region.ready md ops listed, n ≤ j)
    (f : Nat) : ∀ (listed : Array Bool) (a : Act), HeadInv md ops n listed →
      (∀ j oj, ops[j]? = some oj → j ≠ i → listed.getD j true = false → (∀ e ∈ oj.after, Region.binds md e = true → e.on ≠ i) → oi.apart ops oj = true) →
      i ∈ Region.ready md ops listed → YieldsIn P ops C oi v a → Head P md ops C n L f (listed.setIfInBounds i true) (a.put oi.dst v) → Head P md ops C n L (f + 1) listed a := by
  induction f with
  | zero =>
    intro listed a inv _ hr hy H
    refine ⟨fun h => (by rw [h] at hr; cases hr), fun j hj => ?_⟩
    have hjn : j < n := Nat.lt_of_not_le fun h => tail_waits hs hc hn inv _ i rfl hin (mem_ready.1 hr).1 j h hj
    refine ⟨hjn, ?_⟩
    by_cases hji : j = i
    · subst hji; exact hy.qOp hi H
    · exact absurd (hdone _ _ H j (ready_mono hj hji)) (by omega)
  | succ f ih =>
    intro listed a inv hfree hr hy H
    refine ⟨fun h => (by rw [h] at hr; cases hr), fun j hj => ?_⟩
    have hjn : j < n := Nat.lt_of_not_le fun h => tail_waits hs hc hn inv _ i rfl hin (mem_ready.1 hr).1 j h hj
    refine ⟨hjn, ?_⟩
    by_cases hji : j = i
    · subst hji; exact hy.qOp hi H
    · obtain ⟨hjun, oj, hoj, hall⟩ := mem_ready.1 hj
      have hnot : ∀ e ∈ oj.after, Region.binds md e = true → e.on ≠ i := fun e he hb heq => by
        have h1 := hall e he hb
        rw [heq, getD_both (mem_ready.1 hr).1] at h1
        cases h1
      refine qOp_mono (fun a' h3 => ih (listed.setIfInBounds j true) a' (inv.set hj hjn) (fun k ok hk hki hun hno => hfree k ok hk hki ?_ hno) (ready_mono hr (Ne.symm hji)) h3.1 ?_)
        (qOp_put hoj (hfree j oj hoj hji hjun hnot) (fun cs b => hsel i oi cs b hi) (fun cs b => hsel j oj cs b hoj) hy (H.2 j (ready_mono hj hji)).2)
      · by_cases hjk : j = k
        · subst hjk; exact hjun
        · rw [getD_set_ne true hjk] at hun; exact hun
      · rw [Array.setIfInBounds_comm _ _ hji]
        exact h3.2

theorem Head.lex {n g : Nat} {Lq : Act → Prop} (hsel : Region.noSelect ops = true) (hs : Region.sinkB md ops n = true) (hc : Region.chainB md ops n = true) (hn : n < ops.size) :
    ∀ (l : List Oper) (k : Nat) (listed : Array Bool) (a : Act), (∀ j, j < l.length → l[j]? = ops[k + j]?) → k + l.length = n → HeadInv md ops n listed →
    Region.lexHead md ops g l.length k listed = true → wpQuiet P ops C Lq l a →
    Head P md ops C n (fun listed' a' => Region.seqB md ops g n listed' = true ∧ Lq a') l.length listed a
  | [], k, listed, a, _, hk, _, hB, h => by
    have : k = n := by simpa using hk
    subst this
    exact ⟨by simpa [Region.lexHead] using hB, h⟩
  | o :: l, k, listed, a, hl, hk, inv, hB, h => by
    have h0 : ops[k]? = some o := by simpa using (hl 0 (by simp)).symm
    simp only [List.length_cons, Region.lexHead, Bool.and_eq_true] at hB
    obtain ⟨⟨hr, hf⟩, hB'⟩ := hB
    have hkn : k < n := by simp only [List.length_cons] at hk; omega
    have hr' : k ∈ Region.ready md ops listed := by simpa using hr
    obtain ⟨v, hy, hK⟩ := yieldsIn_of_qOp (P := P) (C := C) (K := wpQuiet P ops C Lq l) h0 (by unfold qOp; simp only [h0]; exact h)
    exact Head.first h0 (Region.noSelect_spec hsel) hs hc hn hkn (fun listed' a' hL => seqB_ready hL.1) l.length listed a inv (Region.free_spec h0 hf) hr' hy
      (Head.lex hsel hs hc hn l (k + 1) _ _ (fun j hj => by have := hl (j + 1) (by simp; omega); simpa [Nat.add_assoc, Nat.add_comm 1 j] using this) (by simp only [List.length_cons] at hk; omega) (inv.set hr' hkn) hB' hK)

/-- The worlds that meet S, numbered. -/
theorem class_of (S : World → Prop) : ∃ (ι : Type) (F : ι → World), (∀ i, S (F i)) ∧ (∀ W, S W → ∃ i, W = F i) := ⟨{ x // S x }, Subtype.val, fun i => i.2, fun W h => ⟨⟨W, h⟩, rfl⟩⟩

/-- A region that draws: its first n operations are quiet in the class, the others come behind them in one order. -/
theorem wp_region_tail {ι : Type} (F : ι → World) {id : Nat} {Q : Exit → Act → World → Prop} {a : Act} {w : World} {l : List Oper} (n : Nat) (hm : P.follows .mixedOrders = true) (hB : Region.lexTailB .any l.toArray n = true) (hS : ∃ i, w.drew = F i)
    (h : wpQuiet P l.toArray (fun w' => ∃ i, w' = F i) (fun a' => ∀ i, wpList P l.toArray Q (l.drop n) a' (F i)) (l.take n) a) : (Code.region id l.toArray true).wp P Q a w := by
  simp only [Region.lexTailB, Bool.and_eq_true, decide_eq_true_eq] at hB
  obtain ⟨⟨⟨⟨hsel, hn⟩, hs⟩, hc⟩, hlex⟩ := hB
  have hn' : n < l.length := by simpa using hn
  have htl : (l.take n).length = n := by simp; omega
  have hdl : (l.drop n).length = l.toArray.size - n := by simp
  have inv0 : HeadInv .any l.toArray n (Array.replicate l.toArray.size false) :=
    ⟨by simp, fun j oj _ hl => (by rw [getD_replicate_false] at hl; cases hl), fun t _ ht => getD_in (by simpa using ht) (getD_replicate_false _ _)⟩
  have H := Head.lex (md := .any) (g := l.toArray.size - n) hsel hs hc hn (l.take n) 0 _ a (fun j hj => by
    have hj' : j < n := by rw [htl] at hj; exact hj
    simp [hj']) (by simpa using htl) inv0 (by rw [htl]; exact hlex) h
  refine wp_region_any hm ?_
  have := Head.any (Q := Q) (g := l.toArray.size - n) (fun listed a' w' hw' hL => by
    obtain ⟨i, rfl⟩ := hw'
    have := wpAny_of_seq (md := .any) (Q' := Q) (l.drop n) n listed a' (F i) (fun j => by simp [List.getElem?_drop]) (by rw [hdl]; exact hL.1) (hL.2 i)
    rwa [hdl] at this) _ _ _ w.drew hS H
  rw [htl, show n + (l.toArray.size - n) = l.toArray.size by omega] at this
  exact this

/-- .. all of its operations are quiet in the class. -/
theorem wp_region_all {ι : Type} (F : ι → World) {id : Nat} {Q : Exit → Act → World → Prop} {a : Act} {w : World} {l : List Oper} (hm : P.follows .mixedOrders = true) (hB : Region.lexB .any l.toArray = true) (hS : ∃ i, w.drew = F i)
    (h : wpQuiet P l.toArray (fun w' => ∃ i, w' = F i) (fun a' => ∀ i, Q .normal a' (F i)) l a) : (Code.region id l.toArray true).wp P Q a w :=
  wp_region_quiet (C := fun w' => ∃ i, w' = F i) hm hB hS (by
    have e : (fun a' => ∀ w', (∃ i, w' = F i) → Q .normal a' w') = (fun a' => ∀ i, Q .normal a' (F i)) := by
      funext a'
      exact propext ⟨fun h i => h _ ⟨i, rfl⟩, fun h w' ⟨i, hi⟩ => hi ▸ h i⟩
    rw [e]; exact h)

/-- At a call of a function that leaves the world alone. -/
theorem quiet_left {f : FuncId} {args : Array Value} {w : World} {n : Nat} {v : Value} (h : Calls P f args (w.drewN n) fun e w' => e = .returned v ∧ w.drewN n = w') :
    Calls P f args (w.drewN n) fun e w'' => e = .returned v ∧ ∃ m, w'' = w.drewN m := h.mono fun _ _ ⟨he, hm⟩ => ⟨he, n, hm.symm⟩
theorem quiet_add {f : FuncId} {args : Array Value} {w : World} {a n : Nat} {v : Value} (h : Calls P f args (w.drewN (a + n)) fun e w' => e = .returned v ∧ w.drewN (a + n) = w') :
    Calls P f args (w.drewN (a + n)) fun e w'' => e = .returned v ∧ ∃ m, w'' = w.drewN (a + m) := h.mono fun _ _ ⟨he, hm⟩ => ⟨he, n, hm.symm⟩
theorem quiet_still {ι : Type} {F : ι → World} {f : FuncId} {args : Array Value} {i : ι} {v : Value} (h : Calls P f args (F i) fun e w' => e = .returned v ∧ F i = w') :
    Calls P f args (F i) fun e w'' => e = .returned v ∧ ∃ j, w'' = F j := h.mono fun _ w' ⟨he, hs⟩ => ⟨he, i, hs.symm⟩
/-- At a call of a function that makes memory of its own, if the class is kept by that. -/
theorem quiet_below {ι : Type} {F : ι → World} {S : World → Prop} {f : FuncId} {args : Array Value} {i : ι} {v : Value} (hF : ∀ i, S (F i)) (hin : ∀ W, S W → ∃ i, W = F i)
    (hk : ∀ W W', S W → RowKit.Below W.heap.size W W' → S W') (h : Calls P f args (F i) fun e w' => e = .returned v ∧ RowKit.Below (F i).heap.size (F i) w') :
    Calls P f args (F i) fun e w'' => e = .returned v ∧ ∃ j, w'' = F j := h.mono fun _ w' ⟨he, hb⟩ => ⟨he, hin _ (hk _ _ (hF i) hb)⟩
end
end Go.Proofs.Ytlgpipdeckdmjaa.Reg
