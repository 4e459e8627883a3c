/-
  Slices: one that is read; one that the call itself has made; append of the first onto the second.
-/
import Derived.Test.YtlgpipdeckdmjaaProg
import Derived.Test.YtlgpipdeckdmjaaBase
import Derived.Laws.AppendOwnNone
set_option linter.unusedVariables false
set_option linter.unusedSimpArgs false
namespace Go.Proofs.Ytlgpipdeckdmjaa.Slice
open Go.RowKit Base

/-- A slice value of n elements, 'size' cells each, that reads as the cells xs; nil, or in a block that is there. -/
def SlC (w : World) (size : Nat) (v : Value) (n : Nat) (xs : List Value) : Prop :=
  ∃ A c, v = .slice A n c ∧ n ≤ c ∧ xs.length = n * size ∧ (A = none → c = 0) ∧ (∀ ad, A = some ad → ∃ b o, ad = ⟨b, o, none⟩ ∧ b < w.heap.size ∧ ∀ j u, xs[j]? = some u → w.cell? ⟨b, o + j, none⟩ = some u)
section
variable {w w' : World} {size n B base : Nat} {v x : Value} {xs ys : List Value} {e : TypeId}
theorem SlC.keep (h : SlC w size v n xs) (hb : Below w.heap.size w w') : SlC w' size v n xs := by
  obtain ⟨A, c, hv, hc, hl, hn, hr⟩ := h
  refine ⟨A, c, hv, hc, hl, hn, fun ad had => ?_⟩
  obtain ⟨b, o, hA, hlt, hcell⟩ := hr ad had
  exact ⟨b, o, hA, Nat.lt_of_lt_of_le hlt hb.size, fun j u hj => (hb.cell (p := ⟨b, o + j, none⟩) hlt).trans (hcell j u hj)⟩
/-- .. kept where its own block is. -/
theorem SlC.keepBy (h : SlC w size v n xs) (hs : w.heap.size ≤ w'.heap.size) (hb : ∀ b, v.ownBlock = some b → w'.heap[b]? = w.heap[b]?) : SlC w' size v n xs := by
  obtain ⟨A, c, rfl, hc, hl, hn, hr⟩ := h
  refine ⟨A, c, rfl, hc, hl, hn, fun ad had => ?_⟩
  obtain ⟨b, o, rfl, hlt, hcell⟩ := hr ad had
  subst had
  exact ⟨b, o, rfl, Nat.lt_of_lt_of_le hlt hs, fun j u hj => (World.cell?_of_block (a := ⟨b, o + j, none⟩) (hb b rfl)).trans (hcell j u hj)⟩
theorem SlC.nil (w : World) (size : Nat) : SlC w size (.slice none 0 0) 0 [] := ⟨none, 0, rfl, Nat.le_refl _, by simp, fun _ => rfl, (fun _ h => by cases h)⟩
/-- A slice of a block that is known whole. -/
theorem SlC.of_blk {b o c : Nat} {cs : List Value} {t : TypeId} (h : blk w b cs t) (hn : n ≤ c) (hl : xs.length = n * size) (hx : ∀ j u, xs[j]? = some u → cs[o + j]? = some u) : SlC w size (.slice (some ⟨b, o, none⟩) n c) n xs :=
  ⟨_, _, rfl, hn, hl, (fun h => by cases h), fun ad had => by
    cases had
    exact ⟨b, o, rfl, blk_lt h, fun j u hj => (blk_cell h _).trans (hx j u hj)⟩⟩
theorem SlC.of_own (h : w.ownsRow base e size v n xs) : SlC w size v n xs := by
  have hlen := h.1
  rcases h.2 with ⟨rfl, rfl⟩ | ⟨g, cap, cur, rfl, hb, hh, hnc, _, _, htake⟩
  · exact ⟨none, 0, rfl, Nat.le_refl _, hlen, fun _ => rfl, (fun _ h => by cases h)⟩
  · refine ⟨_, _, rfl, hnc, hlen, (fun h => by cases h), fun ad had => ?_⟩
    cases had
    refine ⟨g, 0, rfl, (Array.getElem?_eq_some_iff.1 hh).1, fun j u hj => ?_⟩
    have := h.cells (g := g) rfl j u hj
    rwa [Addr.add_mid] at this
/-- append(v, x...): v is nil or the call's own. -/
theorem run_append {P : Program} (t ty : TypeId) (i : TypeInfo) (z : Value) (bytes : Nat) (ht : P.underlying t = some (.slice e)) (hi : P.info? e = some i) (hz : i.zero = some z) (hsize : i.size = size) (hby : i.bytes = bytes) (hzs : z.cells.size = size) (hsz : 0 < size)
    {m : Nat} (hown : w.ownsRow base e size v n xs) (hx : SlC w size x m ys) (h1 : ∀ u ∈ ys, u.oneCell' = true) (h63 : n + m ≤ maxLen) (hbytes : (n + m) * bytes ≤ 140737488355328) (hbase : base ≤ w.heap.size) :
    ∃ v' w', (Builtin.append_ #[t, t] ty #[v, x]).run P w = .ok v' w' ∧ w'.ownsRow base e size v' (n + m) (xs ++ ys) ∧ w.grownBy w' v.ownBlock := by
  obtain ⟨A, c, rfl, hc, hl, hn, hr⟩ := hx
  cases A with
  | none =>
    obtain rfl : c = 0 := hn rfl
    obtain rfl : m = 0 := by omega
    obtain rfl : ys = [] := List.eq_nil_of_length_eq_zero (by simpa using hl)
    refine ⟨v, w, run_append_owned_none (P := P) (w := w) base t ty e i size ht hi v n xs hown, by simpa using hown, ⟨rfl, rfl, rfl, Nat.le_refl _, fun _ _ _ => rfl⟩⟩
  | some ad =>
    obtain ⟨b, o, rfl, hlt, hcell⟩ := hr _ rfl
    obtain ⟨v', w', h2, h3, h4, _⟩ := run_append_own (P := P) w base t ty e i z size bytes ht hi hz hsize hby hzs hsz v n xs hown ⟨b, o, none⟩ m c ys hl (fun j u hj => by rw [Addr.add_mid]; exact hcell j u hj) h1 h63 hbytes hbase
    exact ⟨v', w', h2, h3, h4⟩
/-- An empty slice in new memory; a slice literal. -/
theorem own_lit {P : Program} (w : World) (e : TypeId) (cs : List Value) (n : Nat) (hm : n ≤ maxLen) (hs : cs.length = n * size) : (w.alloc (.cells cs.toArray e)).ownsRow w.heap.size e size (.slice (some ⟨w.heap.size, 0, none⟩) n n) n cs :=
  ⟨hs, .inr ⟨w.heap.size, n, cs.toArray, rfl, Nat.le_refl _, heap_alloc_new w _, Nat.le_refl _, hm, by simpa using hs, by rw [← hs]; simp⟩⟩
theorem own_mono {base' : Nat} (h : w.ownsRow base e size v n xs) (hb : base' ≤ base) : w.ownsRow base' e size v n xs :=
  ⟨h.1, h.2.imp id fun ⟨g, cap, cur, h1, h2, h3⟩ => ⟨g, cap, cur, h1, Nat.le_trans hb h2, h3⟩⟩
theorem own_keep (h : w.ownsRow base e size v n xs) (hb : Below w.heap.size w w') : w'.ownsRow base e size v n xs :=
  h.kept (row := none) ⟨hb.os, hb.tape, hb.output, hb.size, fun k hk _ => hb.block k hk⟩ (by cases v.ownBlock <;> simp)
end

/-! bytes -/
abbrev Sl (w : World) (v : Value) (l : List Nat) : Prop := SlC w 1 v l.length (cl .u8 l)
abbrev Own (w : World) (base : Nat) (v : Value) (l : List Nat) : Prop := w.ownsRow base 5 1 v l.length (cl .u8 l)
theorem own_bytes (w : World) (l : List Nat) (h : l.length ≤ 1099511627776) : Own (w.alloc (.cells (cl .u8 l).toArray 5)) w.heap.size (.slice (some ⟨w.heap.size, 0, none⟩) l.length l.length) l :=
  own_lit (P := Try.prog) w 5 (cl .u8 l) l.length (by unfold maxLen; omega) (by rw [cl_length, Nat.mul_one])
theorem own_empty (w : World) : Own (w.alloc (.cells #[] 5)) w.heap.size (.slice (some ⟨w.heap.size, 0, none⟩) 0 0) [] := own_bytes w [] (by simp)
theorem own_empty' {w : World} {b : Nat} (h : b = w.heap.size) : Own (w.alloc (.cells #[] 5)) b (.slice (some ⟨b, 0, none⟩) 0 0) [] := h ▸ own_empty w
theorem own_slice {w : World} {base : Nat} {v : Value} {l : List Nat} (h : Own w base v l) : ∃ A c, v = .slice A l.length c := by
  rcases h.2 with ⟨rfl, h2⟩ | ⟨g, cap, cur, rfl, _⟩
  · exact ⟨none, 0, by rw [h2]⟩
  · exact ⟨_, _, rfl⟩
theorem blk_grown {w w' : World} {b : Nat} {cs : List Value} {t : TypeId} {r : Option Nat} (h : blk w b cs t) (hg : w.grownBy w' r) (hr : some b ≠ r) : blk w' b cs t := (hg.block b (blk_lt h) hr).trans h
theorem alloc_size (w : World) (o : Obj) : (w.alloc o).heap.size = w.heap.size + 1 := by simp
theorem run_append_bytes {w : World} {base : Nat} {v x : Value} {l m : List Nat} (ty : TypeId) (hown : Own w base v l) (hx : Sl w x m) (h63 : l.length + m.length ≤ 1099511627776) (hbase : base ≤ w.heap.size) :
    ∃ v' w', (Builtin.append_ #[99, 99] ty #[v, x]).run Try.prog w = .ok v' w' ∧ Own w' base v' (l ++ m) ∧ w.grownBy w' v.ownBlock := by
  have h := run_append (P := Try.prog) 99 ty ((Try.prog.info? 5).get (by kernel_rfl)) (.int .u8 0) 1 Try.underlying99 (by kernel_rfl) (by kernel_rfl) (by kernel_rfl) (by kernel_rfl) (by kernel_rfl) (by omega) hown hx (cl_one _ _) (by unfold maxLen; omega) (by omega) hbase
  obtain ⟨v', w', h1, h2, h3⟩ := h
  refine ⟨v', w', h1, ?_, h3⟩
  rw [cl_append] at h2
  unfold Own
  rw [List.length_append]
  exact h2
theorem wpList_append_bytes {w : World} {ops : Array Oper} {rest : List Oper} {o : Oper} {a : Act} {Q : Exit → Act → World → Prop} (hgd : o.guard = none) (s y : Operand) 
    (ho : o.op = .call { callee := .builtin .append, args := #[s, y], argTypes := #[99, 99] }) {base : Nat} {v x : Value} {l m : List Nat} (hs : a.eval s = v) (hy : a.eval y = x)
    (hown : Own w base v l) (hx : Sl w x m) (h63 : l.length + m.length ≤ 1099511627776) (hbase : base ≤ w.heap.size)
    (h : ∀ v' w', Own w' base v' (l ++ m) → w.grownBy w' v.ownBlock → wpList Try.prog ops Q rest (a.put o.dst v') w') : wpList Try.prog ops Q (o :: rest) a w := by
  refine wpList_plain hgd fun K hK => ?_
  obtain ⟨v', w', h1, h2, h3⟩ := run_append_bytes o.type hown hx h63 hbase
  unfold Oper.wp execOp
  simp only [ho, resolve, invoke, builtin, Sem.run_bind, Sem.run_pure, Result.andThen_ok, List.map_toArray, List.map_cons, List.map_nil, hs, hy, h1]
  exact hK _ _ (h v' w' h2 h3)
/-- v[k:]. -/
theorem SlC.drop {size n c b o k : Nat} {w : World} {xs : List Value} (h : SlC w size (.slice (some ⟨b, o, none⟩) n c) n xs) (hk : k ≤ n) :
    SlC w size (.slice (if c = k then some ⟨b, o, none⟩ else some ⟨b, o + k * size, none⟩) (n - k) (c - k)) (n - k) (xs.drop (k * size)) := by
  obtain ⟨A, c', hv, hc, hl, hn, hr⟩ := h
  cases hv
  obtain ⟨b', o', he, hlt, hcell⟩ := hr _ rfl
  cases he
  have hl2 : (xs.drop (k * size)).length = (n - k) * size := by simp [hl, Nat.sub_mul]
  refine ⟨_, _, rfl, by omega, hl2, ?_, ?_⟩
  · intro h; split at h <;> cases h
  · intro ad had
    by_cases hck : c = k
    · rw [if_pos hck] at had
      cases had
      refine ⟨_, _, rfl, hlt, fun j u hj => ?_⟩
      have : n - k = 0 := by omega
      rw [this, Nat.zero_mul] at hl2
      have := List.eq_nil_of_length_eq_zero hl2
      rw [this] at hj
      cases hj
    · rw [if_neg hck] at had
      cases had
      refine ⟨_, _, rfl, hlt, fun j u hj => ?_⟩
      rw [List.getElem?_drop] at hj
      have := hcell _ _ hj
      rwa [← Nat.add_assoc] at this
theorem Sl.drop {w : World} {b o c k : Nat} {l : List Nat} (h : Sl w (.slice (some ⟨b, o, none⟩) l.length c) l) (hk : k ≤ l.length) :
    Sl w (.slice (if c = k then some ⟨b, o, none⟩ else some ⟨b, o + k, none⟩) (l.length - k) (c - k)) (l.drop k) := by
  have h2 := SlC.drop h hk
  rw [Nat.mul_one] at h2
  have e : (cl .u8 l).drop k = cl .u8 (l.drop k) := by simp [cl]
  have e2 : (l.drop k).length = l.length - k := by simp
  rw [e] at h2
  unfold Sl
  rw [e2]
  exact h2
end Go.Proofs.Ytlgpipdeckdmjaa.Slice
