/-
  Several texts laid into one (merge.py): Base, Reg.
-/
import Derived.WalkKit
import Derived.WalkLawsBesides
import Derived.WalkSpells
import Derived.Deep.MidRow
import Derived.ChangeKeysEq
import Derived.Deep.QuietTactic
import Derived.BigQuiet
import Derived.StillTail
import Derived.Below
/-
  Words of 32 bits as natural numbers; whole blocks of memory; arrays of whole numbers by value: read, written, indexed, compared. No program.
-/
set_option linter.unusedVariables false
set_option linter.unusedSimpArgs false
namespace Go.Proofs.YtlgpipdeckdmjaaGreat.Base
open Go.RowKit

/-! words of 32 bits as natural numbers, without bounds -/
def ad (a b : Nat) : Nat := (a + b) % 4294967296
def xo (a b : Nat) : Nat := (a ^^^ b) % 4294967296
def an (a b : Nat) : Nat := (a &&& b) % 4294967296
def orr (a b : Nat) : Nat := (a ||| b) % 4294967296
def nt (a : Nat) : Nat := xo 4294967295 a
def sl (a k : Nat) : Nat := a * 2 ^ k % 4294967296
def sr (a k : Nat) : Nat := a / 2 ^ k

theorem wrap_u32 (n : Int) : IntKind.u32.wrap n = n % 4294967296 := IntKind.wrap_u32' n
theorem wrap_ad (a b : Nat) : IntKind.u32.wrap ((a : Int) + (b : Int)) = ((ad a b : Nat) : Int) := by
  rw [wrap_u32]; unfold ad; omega
theorem ofInt32 (a : Nat) : (BitVec.ofInt 32 (a : Int)).toNat = a % 4294967296 := by
  rw [BitVec.ofInt_natCast, BitVec.toNat_ofNat]
theorem mod32 (a : Nat) : ((a : Int) % 4294967296) = ((a % 4294967296 : Nat) : Int) := by omega
theorem bits_xo (a b : Nat) : bits .xor .u32 (a : Int) (b : Int) = ((xo a b : Nat) : Int) := by
  show IntKind.u32.wrap ((BitVec.ofInt 32 (a : Int) ^^^ BitVec.ofInt 32 (b : Int)).toNat : Int) = _
  rw [BitVec.toNat_xor, ofInt32, ofInt32, wrap_u32, mod32]; unfold xo
  have h := @Nat.xor_mod_two_pow a b 32
  rw [show (2 : Nat) ^ 32 = 4294967296 from rfl] at h
  rw [← h, Nat.mod_mod]
theorem bits_an (a b : Nat) : bits .and .u32 (a : Int) (b : Int) = ((an a b : Nat) : Int) := by
  show IntKind.u32.wrap ((BitVec.ofInt 32 (a : Int) &&& BitVec.ofInt 32 (b : Int)).toNat : Int) = _
  rw [BitVec.toNat_and, ofInt32, ofInt32, wrap_u32, mod32]; unfold an
  have h := @Nat.and_mod_two_pow a b 32
  rw [show (2 : Nat) ^ 32 = 4294967296 from rfl] at h
  rw [← h, Nat.mod_mod]
theorem bits_orr (a b : Nat) : bits .or .u32 (a : Int) (b : Int) = ((orr a b : Nat) : Int) := by
  show IntKind.u32.wrap ((BitVec.ofInt 32 (a : Int) ||| BitVec.ofInt 32 (b : Int)).toNat : Int) = _
  rw [BitVec.toNat_or, ofInt32, ofInt32, wrap_u32, mod32]; unfold orr
  have h := @Nat.or_mod_two_pow a b 32
  rw [show (2 : Nat) ^ 32 = 4294967296 from rfl] at h
  rw [← h, Nat.mod_mod]
theorem bits_nt (a : Nat) : bits .xor .u32 4294967295 (a : Int) = ((nt a : Nat) : Int) := bits_xo 4294967295 a
theorem run_shl (P : Program) (w : World) (a : Nat) (k : Nat) : (Op.shift .shl .u32 (a : Int) .u64 (k : Int)).run P w = .ok (.int .u32 ((sl a k : Nat) : Int)) w := by
  have h0 : ¬ ((k : Int) < 0) := by omega
  unfold Op.shift
  rw [if_neg h0]
  show Result.ok (Value.int .u32 (IntKind.u32.wrap ((a : Int) * 2 ^ min (Int.toNat (k : Int)) 32))) w = _
  rw [Int.toNat_natCast, wrap_u32]; unfold sl
  congr 2
  by_cases h : k ≤ 32
  · rw [Nat.min_eq_left h, show ((a : Int) * 2 ^ k) = ((a * 2 ^ k : Nat) : Int) by rw [Int.natCast_mul, Int.natCast_pow]; rfl]
    exact mod32 _
  · rw [Nat.min_eq_right (by omega)]
    obtain ⟨j, rfl⟩ : ∃ j, k = 32 + j := ⟨k - 32, by omega⟩
    have h1 : a * 2 ^ (32 + j) = 4294967296 * (a * 2 ^ j) := by rw [Nat.pow_add, Nat.mul_left_comm]
    rw [h1, Nat.mul_mod_right]
    show (a : Int) * 4294967296 % 4294967296 = 0
    omega
theorem run_shr (P : Program) (w : World) (a : Nat) (k : Nat) (hk : k ≤ 32) : (Op.shift .shr .u32 (a : Int) .u64 (k : Int)).run P w = .ok (.int .u32 ((sr a k : Nat) : Int)) w := by
  have h0 : ¬ ((k : Int) < 0) := by omega
  unfold Op.shift
  rw [if_neg h0]
  show Result.ok (Value.int .u32 (Int.fdiv (a : Int) (2 ^ min (Int.toNat (k : Int)) 32))) w = _
  rw [Int.toNat_natCast, Nat.min_eq_left hk]
  congr 2
  unfold sr
  rw [Int.fdiv_eq_ediv_of_nonneg _ (Int.le_of_lt (Int.pow_pos (by decide)))]
  norm_cast

variable {P : Program}

/-! memory: whole blocks -/
def blk (w : World) (b : Nat) (cs : List Value) (t : TypeId) : Prop := w.heap[b]? = some (.cells cs.toArray t (0, 0))

section
variable {w w' W W' : World} {b g i j n o B : Nat} {cs ds : List Value} {t ty : TypeId} {d : TypeDesc}
theorem blk_lt (h : blk w b cs t) : b < w.heap.size := by
  unfold blk at h
  exact (Array.getElem?_eq_some_iff.1 h).1
theorem blk_new (w : World) (cs : List Value) (t : TypeId) : blk (w.alloc (.cells cs.toArray t)) w.heap.size cs t := heap_alloc_new w _
theorem blk_at (w : World) (cs : List Value) (t : TypeId) (h : b = w.heap.size) : blk (w.alloc (.cells cs.toArray t)) b cs t := by subst h; exact blk_new w cs t
theorem blk_alloc (h : blk w b cs t) (o : Obj) : blk (w.alloc o) b cs t := by
  exact (Below.heap_alloc w o b (blk_lt h)).trans h
theorem blk_drew (h : blk w b cs t) : blk w.drew b cs t := h
theorem blk_drewN (h : blk w b cs t) : blk (w.drewN n) b cs t := h
theorem blk_below (h : blk w b cs t) (hb : Below B w w') (hB : b < B) : blk w' b cs t := (hb.block b hB).trans h
theorem blk_keep (h : blk w b cs t) (hb : Below w.heap.size w w') : blk w' b cs t := blk_below h hb (blk_lt h)
theorem blk_setRow (h : blk w b cs t) (ds : List Value) : blk (w.setRow b ds.toArray) b ds t := setRow_heap w b _ _ t _ h
theorem blk_setRow_ne (h : blk w b cs t) (ds : Array Value) (hne : b ≠ g) : blk (w.setRow g ds) b cs t := (setRow_other w g b ds hne).trans h
theorem blk_setCell (h : blk w b cs t) (i : Nat) (v : Value) : blk (w.setCell ⟨b, i, none⟩ v) b (cs.set i v) t := by
  have := heap_setCell_same w b i _ t v h
  unfold blk
  rw [this]
  simp
theorem blk_setCell_ne {a : Addr} (h : blk w b cs t) (v : Value) (hne : b ≠ a.block) : blk (w.setCell a v) b cs t := (heap_setCell_other w a b v hne).trans h
theorem blk_cell (h : blk w b cs t) (j : Nat) : w.cell? ⟨b, j, none⟩ = cs[j]? := by rw [cell_of_row w b j _ t _ h]; simp
theorem blk_free (h : blk w b cs t) (j : Nat) : w.frozen? ⟨b, j, none⟩ = false := frozen_of_row w b j _ t h
theorem blk_fun (h : blk w b cs t) (h' : blk w b ds ty) : cs = ds ∧ t = ty := by
  unfold blk at h h'
  rw [h] at h'
  injection h' with h'
  injection h' with h1 h2
  exact ⟨by simpa using h1, h2⟩

/-! Below, from the size of the world in which the call began -/
theorem bel_alloc (h : Below B w W) (hB : B ≤ W.heap.size) (o : Obj) : Below B w (W.alloc o) := h.alloc hB o
theorem bel_setRow (h : Below B w W) (hb : B ≤ b) (cs : Array Value) : Below B w (W.setRow b cs) :=
  h.trans ⟨rfl, rfl, rfl, by simp, fun k hk => setRow_other W b k cs (by omega)⟩
theorem bel_setCell (h : Below B w W) {a : Addr} (hb : B ≤ a.block) (v : Value) : Below B w (W.setCell a v) := h.setCell hb v
theorem bel_trans (h : Below B w W) (k : Below W.heap.size W W') (hB : B ≤ W.heap.size) : Below B w W' := h.trans (k.mono hB)
theorem bel_drewN (h : Below B w W) (n : Nat) : Below B w (W.drewN n) := ⟨h.os, h.tape, h.output, h.size, h.block⟩

/-! a whole variable, read and written -/
theorem run_loadAt_blk (h : blk w b cs t) (hu : P.underlying ty = some d) (hd : d.isRow = true) (hi : (P.info? ty).map (·.size) = some cs.length) :
    (Instr.loadAt ty (.pointer (some ⟨b, 0, none⟩))).run P w = .ok (.agg cs.toArray) w := by
  simp only [Instr.loadAt, Instr.sureAddr, Sem.run_bind, Sem.run_pure, Result.andThen_ok]
  exact run_loadVar_row w b t ty _ (0, 0) d h hu (by cases d <;> first | rfl | cases hd) (by simpa using hi)
theorem rangeAt_blk (h : blk w b cs t) (o n : Nat) : w.rangeAt b o ((cs.drop o).take n) := fun j v hv => by
  rw [blk_cell h]
  rw [List.getElem?_take] at hv
  split at hv
  · rwa [List.getElem?_drop] at hv
  · cases hv
theorem run_loadAt_part (h : blk w b cs t) (o n : Nat) (hu : P.underlying ty = some d) (hd : d.isRow = true) (hi : (P.info? ty).map (·.size) = some n) (hn : o + n ≤ cs.length) :
    (Instr.loadAt ty (.pointer (some ⟨b, o, none⟩))).run P w = .ok (.agg ((cs.drop o).take n).toArray) w :=
  run_loadAt_mid (P := P) w b o ty _ d (rangeAt_blk h o n) hu hd (by rw [hi]; simp; omega)
def splice (cs : List Value) (o : Nat) (vs : List Value) : List Value := cs.take o ++ vs ++ cs.drop (o + vs.length)
theorem run_storeAt_part {vs : List Value} (h : blk w b cs t) (o : Nat) (hi : (P.info? ty).map (·.size) = some vs.length) (hn : o + vs.length ≤ cs.length) (h1 : ∀ v ∈ vs, v.oneCell' = true) :
    (Instr.storeAt ty (.pointer (some ⟨b, o, none⟩)) (.agg vs.toArray)).run P w = .ok () (w.setRow b (splice cs o vs).toArray) := by
  have hf := run_storeCells_at P b o t vs 0 cs.toArray w h (by simpa using hn) h1
  cases hq : P.info? ty with
  | none => simp [hq] at hi
  | some i =>
    have hs : i.size = vs.length := by simpa [hq] using hi
    simp only [Instr.storeAt, Instr.sureAddr, Sem.run_bind, Sem.run_pure, Result.andThen_ok]
    simp [storeVar, sizeOf, typeInfo, hq, Value.cells, hs]
    simpa [splice] using hf
theorem splice_whole (cs vs : List Value) (h : cs.length = vs.length) : splice cs 0 vs = vs := by
  unfold splice
  rw [List.take_zero, List.nil_append, Nat.zero_add, ← h, List.drop_length, List.append_nil]
theorem run_storeAt_blk {vs : List Value} (h : blk w b cs t) (hi : (P.info? ty).map (·.size) = some vs.length) (hn : cs.length = vs.length) (h1 : ∀ v ∈ vs, v.oneCell' = true) :
    (Instr.storeAt ty (.pointer (some ⟨b, 0, none⟩)) (.agg vs.toArray)).run P w = .ok () (w.setRow b vs.toArray) := by
  rw [run_storeAt_part h 0 hi (by omega) h1, splice_whole _ _ hn]
end

/-! numbers as cells -/
def cl (k : IntKind) (l : List Nat) : List Value := l.map fun (n : Nat) => Value.int k (n : Int)
theorem cl_length (k : IntKind) (l : List Nat) : (cl k l).length = l.length := by simp [cl]
theorem cl_get (k : IntKind) (l : List Nat) (j : Nat) (h : j < l.length) : (cl k l)[j]? = some (.int k ((l.getD j 0 : Nat) : Int)) := by
  simp [cl, h, List.getD]
theorem cl_get' (k : IntKind) (l : List Nat) (j : Nat) (h : j < l.length) : (cl k l).toArray[j]? = some (.int k ((l.getD j 0 : Nat) : Int)) := by
  rw [List.getElem?_toArray]
  exact cl_get k l j h
theorem cl_getE (k : IntKind) (l : List Nat) (j : Nat) (h : j < (cl k l).length) : (cl k l)[j] = .int k ((l.getD j 0 : Nat) : Int) := by
  have := cl_get k l j (by simpa [cl] using h)
  rw [List.getElem?_eq_getElem h] at this
  exact Option.some.inj this
theorem cl_set (k : IntKind) (l : List Nat) (j n : Nat) : (cl k l).set j (.int k (n : Int)) = cl k (l.set j n) := by simp [cl, List.map_set]
theorem cl_one (k : IntKind) (l : List Nat) : ∀ v ∈ cl k l, v.oneCell' = true := by
  intro v hv
  simp only [cl, List.mem_map] at hv
  obtain ⟨n, _, rfl⟩ := hv
  rfl
theorem cl_append (k : IntKind) (l m : List Nat) : cl k l ++ cl k m = cl k (l ++ m) := by simp [cl]
theorem cl_take (k : IntKind) (l : List Nat) (n : Nat) : (cl k l).take n = cl k (l.take n) := by simp [cl, List.map_take]
theorem cl_drop (k : IntKind) (l : List Nat) (n : Nat) : (cl k l).drop n = cl k (l.drop n) := by simp [cl, List.map_drop]
theorem cl_inj {k : IntKind} {l m : List Nat} (h : cl k l = cl k m) : l = m := by
  unfold cl at h
  induction l generalizing m with
  | nil => cases m <;> simp_all
  | cons a l ih =>
    cases m with
    | nil => simp at h
    | cons b m =>
      simp only [List.map_cons, List.cons.injEq, Value.int.injEq, true_and] at h
      rw [ih h.2, show a = b by omega]
abbrev agg (k : IntKind) (l : List Nat) : Value := .agg (cl k l).toArray

/-! an array by value: an element -/
theorem run_index_agg {w : World} {t e : TypeId} {m : Nat} (k ki : IntKind) (l : List Nat) (i : Int) (hu : P.underlying t = some (.array m e)) (he : P.underlying e = some (.int k)) (hs : (P.info? e).map (·.size) = some 1)
    (hl : l.length = m) (h0 : 0 ≤ i) (h1 : i < m) : (Instr.index t (agg k l) (.int ki i)).run P w = .ok (.int k ((l.getD i.toNat 0 : Nat) : Int)) w := by
  cases hq : P.info? e with
  | none => simp [hq] at hs
  | some inf =>
    have hs1 : inf.size = 1 := by simpa [hq] using hs
    have hg : (cl k l)[i.toNat]? = some (.int k ((l.getD i.toNat 0 : Nat) : Int)) := cl_get k l _ (by omega)
    simp [Instr.index, asIntOf, run_underlying hu, h0, h1, sizeOf, typeInfo, hq, hs1, part, isAgg, run_underlying he, hg]

/-! '==' on arrays of whole numbers, and on arrays of these -/
theorem eqItems_dec {w : World} (d : Nat) (e : TypeId) (s : Nat) (xs ys : Array Value) (A B : Nat → List Nat) (js : List Nat)
    (h : ∀ j ∈ js, ∃ a b, (part e xs (j * s)).run P w = .ok a w ∧ (part e ys (j * s)).run P w = .ok b w ∧ (Op.equalIn d e a b).run P w = .ok (decide (A j = B j)) w) :
    (Op.eqItems d e s xs ys js).run P w = .ok (decide (∀ j ∈ js, A j = B j)) w := by
  induction js with
  | nil => simp [Op.eqItems]
  | cons j js ih =>
    obtain ⟨a, b, ha, hb, hab⟩ := h j (by simp)
    have ih := ih (fun i hi => h i (by simp [hi]))
    unfold Op.eqItems
    simp only [Sem.run_bind, ha, hb, hab, Result.andThen_ok]
    by_cases hj : A j = B j
    · simp [hj, ih]
    · simp [hj]
def EqOk (P : Program) (d : Nat) (t : TypeId) (k : IntKind) (n : Nat) : Prop :=
  ∀ (w : World) (l m : List Nat), l.length = n → m.length = n → (Op.equalIn d t (agg k l) (agg k m)).run P w = .ok (decide (l = m)) w
theorem eqOk_ints {t e : TypeId} {k : IntKind} {n : Nat} {inf : TypeInfo} (d : Nat) (hu : P.underlying t = some (.array n e)) (he : P.underlying e = some (.int k)) (hi : P.info? e = some inf) (hs : P.cellsOf e = 1) : EqOk P (d + 2) t k n := by
  intro w l m hl hm
  rw [Go.run_equalIn_array w (d + 1) _ _ hu hi, hs]
  rw [eqItems_dec (d + 1) e 1 _ _ (fun j => [l.getD j 0]) (fun j => [m.getD j 0])]
  · congr 1
    apply decide_eq_decide.2
    constructor
    · intro h
      apply List.ext_getElem (by omega)
      intro j h1 h2
      have := h j (by simp; omega)
      simp [List.getD, h1, h2] at this
      exact this
    · rintro rfl
      simp
  · intro j hj
    have hj' : j < n := by simpa using hj
    have h1 := cl_get k l j (by omega)
    have h2 := cl_get k m j (by omega)
    refine ⟨.int k ((l.getD j 0 : Nat) : Int), .int k ((m.getD j 0 : Nat) : Int), ?_, ?_, ?_⟩
    · simp [part, isAgg, Sem.run_bind, run_underlying he, h1]
    · simp [part, isAgg, Sem.run_bind, run_underlying he, h2]
    · rw [run_equalIn_int w d e k k _ _ he]
      congr 1
      rw [Bool.eq_iff_iff]
      simp
      omega
theorem chunks_ext {α : Type} {m : Nat} (n : Nat) (l r : List α) (hl : l.length = n * m) (hr : r.length = n * m) (h : ∀ j, j < n → (l.drop (j * m)).take m = (r.drop (j * m)).take m) : l = r := by
  apply List.ext_getElem?
  intro i
  by_cases hi : i < n * m
  · have hm : 0 < m := by
      rcases Nat.eq_zero_or_pos m with h0 | h0
      · subst h0; simp at hi
      · exact h0
    have hj : i / m < n := (Nat.div_lt_iff_lt_mul hm).2 hi
    have h2 := congrArg (fun x => x[i % m]?) (h (i / m) hj)
    simp only [List.getElem?_take, Nat.mod_lt _ hm, if_true, List.getElem?_drop] at h2
    rwa [Nat.mul_comm, Nat.div_add_mod] at h2
  · rw [List.getElem?_eq_none (by omega), List.getElem?_eq_none (by omega)]
theorem eqOk_arrays {t e : TypeId} {k : IntKind} {n m : Nat} {inf : TypeInfo} (d : Nat) {de : TypeDesc} (hu : P.underlying t = some (.array n e)) (he : P.underlying e = some de) (hd : de.isRow = true) (hi : P.info? e = some inf) (hs : inf.size = m) (h : EqOk P d e k m) : EqOk P (d + 1) t k (n * m) := by
  have hc : P.cellsOf e = m := by simp [Program.cellsOf, hi, hs]
  intro w l r hl hr
  have hagg : (isAgg e).run P w = .ok true w := by
    unfold isAgg
    rw [Sem.run_bind, run_underlying he w]
    cases de <;> simp_all
  rw [Go.run_equalIn_array w d _ _ hu hi, hc]
  rw [eqItems_dec d e m _ _ (fun j => (l.drop (j * m)).take m) (fun j => (r.drop (j * m)).take m)]
  · congr 1
    apply decide_eq_decide.2
    constructor
    · intro h
      exact chunks_ext n l r hl hr (fun j hj => h j (by simpa using hj))
    · rintro rfl
      simp
  · intro j hj
    have hj' : j < n := by simpa using hj
    have hjm : j * m + m ≤ n * m := by rw [← Nat.succ_mul]; exact Nat.mul_le_mul_right _ hj'
    refine ⟨agg k ((l.drop (j * m)).take m), agg k ((r.drop (j * m)).take m), ?_, ?_, h w _ _ (by simp; omega) (by simp; omega)⟩
    · simp [part, hagg, sizeOf, typeInfo, hi, hs, ← cl_take, ← cl_drop]
    · simp [part, hagg, sizeOf, typeInfo, hi, hs, ← cl_take, ← cl_drop]

theorem run_eqGuard_agg {w : World} {op : BinOp} {t : TypeId} {x y : Operand} {k k' : IntKind} {l m : List Nat} (hg : P.eqGuardType P.depth t = false) : (eqGuard op t x y (agg k l) (agg k' m)).run P w = .ok () w := by
  unfold eqGuard
  by_cases h : (!(op matches .eql | .neq)) = true
  · cases op <;> simp_all
  · cases op <;> simp_all [Sem.run_bind]
theorem run_eql_agg {w : World} {t : TypeId} {k : IntKind} {n : Nat} {l m : List Nat} (h : EqOk P 10000 t k n) (hl : l.length = n) (hm : m.length = n) :
    (binOp .eql t (agg k l) (agg k m)).run P w = .ok (.bool (decide (l = m))) w := by
  have e : binOp .eql t (agg k l) (agg k m) = (do pure (.bool (← Op.equal t (agg k l) (agg k m)))) := rfl
  rw [e]
  simp [Op.equal, Op.maxDepth, Sem.run_bind, h w l m hl hm]
theorem run_neq_agg {w : World} {t : TypeId} {k : IntKind} {n : Nat} {l m : List Nat} (h : EqOk P 10000 t k n) (hl : l.length = n) (hm : m.length = n) :
    (binOp .neq t (agg k l) (agg k m)).run P w = .ok (.bool (!decide (l = m))) w := by
  have e : binOp .neq t (agg k l) (agg k m) = (do pure (.bool (!(← Op.equal t (agg k l) (agg k m))))) := rfl
  rw [e]
  simp [Op.equal, Op.maxDepth, Sem.run_bind, h w l m hl hm]


/-! the operations on whole arrays, under names of their own: the walk does not open them -/
def ldA (t : TypeId) (x : Value) : Sem Value := Instr.loadAt t x
def stA (t : TypeId) (x y : Value) : Sem Unit := Instr.storeAt t x y
def alA (t : TypeId) (h : Bool) (o : Value) : Sem Value := Instr.alloc t h o
def ixA (t : TypeId) (x i : Value) : Sem Value := Instr.index t x i
def eqA (t : TypeId) (x y : Value) : Sem Value := binOp .eql t x y
def neA (t : TypeId) (x y : Value) : Sem Value := binOp .neq t x y
def blA (t : TypeId) (ps : Array (Nat × Value)) : Sem Value := Instr.build t ps
def zs (n : Nat) : List Nat := List.replicate n 0
theorem zs_length (n : Nat) : (zs n).length = n := by simp [zs]
theorem zs_get (n j : Nat) : (zs n).getD j 0 = 0 := by
  unfold zs
  by_cases h : j < n <;> simp [List.getD, h]
/-- The cells of a block that is not frozen. -/
def bk (w : World) (b : Nat) : Option (Array Value) :=
  match w.heap[b]? with
  | some (.cells c _ (0, 0)) => some c
  | _ => none
section
variable {w W : World} {b n g : Nat} {cs : List Value} {t ty : TypeId} {d : TypeDesc}
theorem bk_of (h : blk w b cs t) : bk w b = some cs.toArray := by
  unfold blk at h
  unfold bk
  rw [h]
  rfl
theorem of_bk {c : Array Value} (h : bk w b = some c) : ∃ t, blk w b c.toList t := by
  unfold bk at h
  split at h
  · rename_i c' t hb
    cases h
    exact ⟨t, by unfold blk; rw [hb]⟩
  · cases h
theorem bk_drew : bk w.drew b = bk w b := rfl
theorem bk_drewN : bk (w.drewN n) b = bk w b := rfl
theorem bk_alloc_at (c : Array Value) (t : TypeId) (h : b = w.heap.size) : bk (w.alloc (.cells c t)) b = some c := by
  subst h
  have := bk_of (blk_new w c.toList t)
  simpa using this
theorem bk_alloc_past (o : Obj) (h : b < w.heap.size) : bk (w.alloc o) b = bk w b := by
  unfold bk
  rw [Below.heap_alloc w o b h]
theorem bk_setCell_other (a : Addr) (v : Value) (h : b ≠ a.block) : bk (w.setCell a v) b = bk w b := by
  unfold bk
  rw [heap_setCell_other w a b v h]
theorem bk_setRow_other (cs : Array Value) (h : b ≠ g) : bk (w.setRow g cs) b = bk w b := by
  unfold bk
  rw [setRow_other w g b cs h]
theorem bk_setRow_same {c : Array Value} (cs : Array Value) (h : bk w b = some c) : bk (w.setRow b cs) b = some cs := by
  obtain ⟨t, h⟩ := of_bk h
  have := bk_of (blk_setRow h cs.toList)
  simpa using this
/-- What a load of a whole variable comes to: its block's cells, if these are as many as the variable has. -/
def ldTo (P : Program) (t : TypeId) (b : Nat) (w : World) : Result Value := (ldA t (.pointer (some ⟨b, 0, none⟩))).run P w
def ldGot (P : Program) (t : TypeId) (b n : Nat) (w : World) : Option (Array Value) → Result Value
  | some c => if c.size = n then .ok (.agg c) w else ldTo P t b w
  | none => ldTo P t b w
theorem run_ldA (hu : P.underlying ty = some d) (hd : d.isRow = true) (hi : (P.info? ty).map (·.size) = some n) (b : Nat) (w : World) :
    (ldA ty (.pointer (some ⟨b, 0, none⟩))).run P w = ldGot P ty b n w (bk w b) := by
  cases h : bk w b with
  | none => rfl
  | some c =>
    obtain ⟨t, hb⟩ := of_bk h
    show _ = if c.size = n then Result.ok (Value.agg c) w else ldTo P ty b w
    split
    · rename_i hs
      have := run_loadAt_blk hb hu hd (by rw [hi]; simp [hs])
      simpa [ldA] using this
    · rfl
theorem ldGot_some {c : Array Value} (h : c.size = n) : ldGot P ty b n w (some c) = .ok (.agg c) w := by
  show (if c.size = n then Result.ok (Value.agg c) w else ldTo P ty b w) = _
  rw [if_pos h]
theorem ld_part (h : blk w b cs t) (hu : P.underlying ty = some d) (hd : d.isRow = true) (hi : (P.info? ty).map (·.size) = some n) (hn : n ≤ cs.length) : ldGot P ty b n w (bk w b) = .ok (.agg (cs.take n).toArray) w := by
  rw [← run_ldA hu hd hi]
  have := run_loadAt_part (P := P) h 0 n hu hd hi (by omega)
  simpa [ldA] using this
def stTo (P : Program) (t : TypeId) (b : Nat) (v : Value) (w : World) : Result Unit := (stA t (.pointer (some ⟨b, 0, none⟩)) v).run P w
def stGot (P : Program) (t : TypeId) (b n : Nat) (v : Value) (w : World) : Option (Array Value) → Result Unit
  | some c => if c.size = n ∧ v.cells.size = n ∧ v.cells.all (·.oneCell') = true then .ok () (w.setRow b v.cells) else stTo P t b v w
  | none => stTo P t b v w
theorem run_stA (hi : (P.info? ty).map (·.size) = some n) (b : Nat) (v : Array Value) (w : World) :
    (stA ty (.pointer (some ⟨b, 0, none⟩)) (.agg v)).run P w = stGot P ty b n (.agg v) w (bk w b) := by
  cases h : bk w b with
  | none => rfl
  | some c =>
    obtain ⟨t, hb⟩ := of_bk h
    show _ = if c.size = n ∧ (Value.agg v).cells.size = n ∧ (Value.agg v).cells.all (·.oneCell') = true then Result.ok () (w.setRow b (Value.agg v).cells) else stTo P ty b (.agg v) w
    split
    · rename_i hs
      have := run_storeAt_blk (ty := ty) (P := P) (vs := v.toList) hb (by rw [hi]; simp; exact hs.2.1.symm) (by simp; rw [hs.1]; exact hs.2.1.symm)
        (fun u hu => (Array.all_eq_true_iff_forall_mem.1 hs.2.2) u (by simpa [Value.cells] using hu))
      simpa [stA, Value.cells] using this
    · rfl
theorem st_part {vs : List Value} (h : blk w b cs t) (hi : (P.info? ty).map (·.size) = some n) (hv : vs.length = n) (hn : n ≤ cs.length) (h1 : ∀ v ∈ vs, v.oneCell' = true) : stGot P ty b n (.agg vs.toArray) w (bk w b) = .ok () (w.setRow b (vs ++ cs.drop n).toArray) := by
  rw [← run_stA hi]
  have := run_storeAt_part (P := P) (ty := ty) (vs := vs) h 0 (by rw [hi, hv]) (by omega) h1
  simpa [stA, splice, hv] using this
theorem stGot_cl {c : Array Value} {k : IntKind} {l : List Nat} (h : c.size = n) (hl : l.length = n) : stGot P ty b n (agg k l) w (some c) = .ok () (w.setRow b (cl k l).toArray) := by
  show (if c.size = n ∧ (agg k l).cells.size = n ∧ (agg k l).cells.all (·.oneCell') = true then Result.ok () (w.setRow b (agg k l).cells) else stTo P ty b (agg k l) w) = _
  rw [if_pos ⟨h, by simp [Value.cells, cl_length, hl], by
    rw [Array.all_eq_true_iff_forall_mem]
    intro v hv
    exact cl_one k l v (by simpa [Value.cells] using hv)⟩]
  rfl
theorem stGot_agg {c v : Array Value} (h : c.size = n) (hl : v.size = n) (h1 : v.all (·.oneCell') = true) : stGot P ty b n (.agg v) w (some c) = .ok () (w.setRow b v) := by
  show (if c.size = n ∧ (Value.agg v).cells.size = n ∧ (Value.agg v).cells.all (·.oneCell') = true then Result.ok () (w.setRow b (Value.agg v).cells) else stTo P ty b (.agg v) w) = _
  rw [if_pos ⟨h, hl, h1⟩]
  rfl
theorem setRow_alloc_at (c c' : Array Value) (t : TypeId) (h : b = w.heap.size) : (w.alloc (.cells c t)).setRow b c' = w.alloc (.cells c' t) := by
  subst h
  unfold World.setRow World.alloc
  congr 1
  apply Array.ext_getElem?
  intro i
  simp only [Array.getElem?_modify, Array.getElem?_push]
  split
  · simp_all
  · split <;> simp_all
theorem size_cl (k : IntKind) (l : List Nat) : (cl k l).toArray.size = l.length := by simp [cl_length]
end

/-! results that lie in memory -/
section
variable {w : World} {g n p q : Nat} {cs : List Value} {t ty : TypeId} {d : TypeDesc} {fn : Func} {a : Act} {R : Ending → World → Prop} {v : Value}
theorem run_loadVar_blk (h : blk w g cs t) (hu : P.underlying ty = some d) (hd : d.isRow = true) (hi : (P.info? ty).map (·.size) = some cs.length) : (loadVar ty ⟨g, 0, none⟩).run P w = .ok (.agg cs.toArray) w :=
  run_loadVar_row w g t ty _ (0, 0) d h hu (by cases d <;> first | rfl | cases hd) (by simpa using hi)
theorem ret_cell (h : fn.results = #[.cell p ty]) (hp : a.tmps.getD p undef = .pointer (some ⟨g, 0, none⟩)) (hb : blk w g cs t) (hu : P.underlying ty = some d) (hd : d.isRow = true) (hi : (P.info? ty).map (·.size) = some cs.length)
    (hD : a.defers = []) (hR : R (.returned (.agg cs.toArray)) w) : bodyPost P fn R .ret a w := by
  have hp' : a.tmps[p]?.getD undef = .pointer (some ⟨g, 0, none⟩) := by simpa using hp
  exact ⟨hD, _, by simp [results, h, hp', asAddr, run_loadVar_blk hb hu hd hi], hR⟩
theorem ret_cell2 (h : fn.results = #[.cell p ty, .tmp q]) (hp : a.tmps.getD p undef = .pointer (some ⟨g, 0, none⟩)) (hq : a.tmps.getD q undef = v) (hb : blk w g cs t) (hu : P.underlying ty = some d) (hd : d.isRow = true) (hi : (P.info? ty).map (·.size) = some cs.length)
    (hD : a.defers = []) (hR : R (.returned (.tuple #[.agg cs.toArray, v])) w) : bodyPost P fn R .ret a w := by
  have hp' : a.tmps[p]?.getD undef = .pointer (some ⟨g, 0, none⟩) := by simpa using hp
  have hq' : a.tmps[q]?.getD undef = v := by simpa using hq
  exact ⟨hD, _, by simp [results, h, hp', hq', asAddr, run_loadVar_blk hb hu hd hi], hR⟩
end

/-! lists that a loop fills -/
def upto (n k : Nat) (f : Nat → Nat) : List Nat := (List.range n).map fun j => if j < k then f j else 0
theorem upto_length (n k : Nat) (f : Nat → Nat) : (upto n k f).length = n := by simp [upto]
theorem upto_zero (n : Nat) (f : Nat → Nat) : upto n 0 f = zs n := by
  apply List.ext_getElem (by simp [upto, zs])
  intro j h1 h2
  simp [upto, zs]
theorem upto_set (n k : Nat) (f : Nat → Nat) (h : k < n) : (upto n k f).set k (f k) = upto n (k + 1) f := by
  apply List.ext_getElem (by simp [upto])
  intro j h1 h2
  rw [List.getElem_set]
  by_cases hj : k = j
  · subst hj; simp [upto]
  · have e : (j < k + 1) ↔ (j < k) := by omega
    simp [upto, hj, e]
theorem upto_full (n : Nat) (f : Nat → Nat) : upto n n f = (List.range n).map f := by
  apply List.ext_getElem (by simp [upto])
  intro j h1 h2
  have : j < n := by simpa [upto] using h1
  simp [upto, this]
end Go.Proofs.YtlgpipdeckdmjaaGreat.Base
/-
  A region that draws its order, in a class of worlds: its first operations only read, or call functions that stay in the class; the last ones come behind them in one order. No program.
-/
set_option linter.unusedVariables false
set_option linter.unusedSimpArgs false
namespace Go.Proofs.YtlgpipdeckdmjaaGreat.Reg

section
variable {P : Program} {ops : Array Oper} {md : Region.Mode} {C : World → Prop}

/-- The first 'f' steps of a drawn region, all of them among the operations below 'n'; behind them 'L'. -/
def Head (P : Program) (md : Region.Mode) (ops : Array Oper) (C : World → Prop) (n : Nat) (L : Array Bool → Act → Prop) : Nat → Array Bool → Act → Prop
  | 0, listed, a => L listed a
  | f + 1, listed, a => Region.ready md ops listed ≠ [] ∧ ∀ i ∈ Region.ready md ops listed, i < n ∧ qOp P ops C i (Head P md ops C n L f (listed.setIfInBounds i true)) a

theorem Head.any {n g : Nat} {L : Array Bool → Act → Prop} {Q : Exit → Act → World → Prop} (hL : ∀ listed a w, C w → L listed a → wpAny P md ops Q g listed a w) :
    ∀ (f : Nat) (listed : Array Bool) (a : Act) (w : World), C w → Head P md ops C n L f listed a → wpAny P md ops Q (f + g) listed a w
  | 0, listed, a, w, hw, h => by rw [Nat.zero_add]; exact hL _ _ _ hw h
  | f + 1, listed, a, w, hw, h => by
    rw [show f + 1 + g = (f + g) + 1 by omega]
    exact ⟨fun h0 => absurd h0 h.1, fun i hi => wpOp_of_qOp hw (fun a' w' hw' h' => Head.any hL f _ a' w' hw' h') (h.2 i hi).2⟩

theorem Head.first {n i : Nat} {oi : Oper} {v : Value} {L : Array Bool → Act → Prop} (hi : ops[i]? = some oi) (hsel : ∀ (j : Nat) (o : Oper) cs b, ops[j]? = some o → o.op ≠ .select cs b)
    (hs : Region.sinkB md ops n = true) (hc : Region.chainB md ops n = true) (hn : n < ops.size) (hin : i < n) (hdone : ∀ listed a, L listed a → ∀ j ∈ Region.ready md ops listed, n ≤ j)
    (f : Nat) : ∀ (listed : Array Bool) (a : Act), HeadInv md ops n listed →
      (∀ j oj, ops[j]? = some oj → j ≠ i → listed.getD j true = false → (∀ e ∈ oj.after, Region.binds md e = true → e.on ≠ i) → oi.apart ops oj = true) →
      i ∈ Region.ready md ops listed → YieldsIn P ops C oi v a → Head P md ops C n L f (listed.setIfInBounds i true) (a.put oi.dst v) → Head P md ops C n L (f + 1) listed a := by
  induction f with
  | zero =>
    intro listed a inv _ hr hy H
    refine ⟨fun h => (by rw [h] at hr; cases hr), fun j hj => ?_⟩
    have hjn : j < n := Nat.lt_of_not_le fun h => tail_waits hs hc hn inv _ i rfl hin (mem_ready.1 hr).1 j h hj
    refine ⟨hjn, ?_⟩
    by_cases hji : j = i
    · subst hji; exact hy.qOp hi H
    · exact absurd (hdone _ _ H j (ready_mono hj hji)) (by omega)
  | succ f ih =>
    intro listed a inv hfree hr hy H
    refine ⟨fun h => (by rw [h] at hr; cases hr), fun j hj => ?_⟩
    have hjn : j < n := Nat.lt_of_not_le fun h => tail_waits hs hc hn inv _ i rfl hin (mem_ready.1 hr).1 j h hj
    refine ⟨hjn, ?_⟩
    by_cases hji : j = i
    · subst hji; exact hy.qOp hi H
    · obtain ⟨hjun, oj, hoj, hall⟩ := mem_ready.1 hj
      have hnot : ∀ e ∈ oj.after, Region.binds md e = true → e.on ≠ i := fun e he hb heq => by
        have h1 := hall e he hb
        rw [heq, getD_both (mem_ready.1 hr).1] at h1
        cases h1
      refine qOp_mono (fun a' h3 => ih (listed.setIfInBounds j true) a' (inv.set hj hjn) (fun k ok hk hki hun hno => hfree k ok hk hki ?_ hno) (ready_mono hr (Ne.symm hji)) h3.1 ?_)
        (qOp_put hoj (hfree j oj hoj hji hjun hnot) (fun cs b => hsel i oi cs b hi) (fun cs b => hsel j oj cs b hoj) hy (H.2 j (ready_mono hj hji)).2)
      · by_cases hjk : j = k
        · subst hjk; exact hjun
        · rw [getD_set_ne true hjk] at hun; exact hun
      · rw [Array.setIfInBounds_comm _ _ hji]
        exact h3.2

theorem Head.lex {n g : Nat} {Lq : Act → Prop} (hsel : Region.noSelect ops = true) (hs : Region.sinkB md ops n = true) (hc : Region.chainB md ops n = true) (hn : n < ops.size) :
    ∀ (l : List Oper) (k : Nat) (listed : Array Bool) (a : Act), (∀ j, j < l.length → l[j]? = ops[k + j]?) → k + l.length = n → HeadInv md ops n listed →
    Region.lexHead md ops g l.length k listed = true → wpQuiet P ops C Lq l a →
    Head P md ops C n (fun listed' a' => Region.seqB md ops g n listed' = true ∧ Lq a') l.length listed a
  | [], k, listed, a, _, hk, _, hB, h => by
    have : k = n := by simpa using hk
    subst this
    exact ⟨by simpa [Region.lexHead] using hB, h⟩
  | o :: l, k, listed, a, hl, hk, inv, hB, h => by
    have h0 : ops[k]? = some o := by simpa using (hl 0 (by simp)).symm
    simp only [List.length_cons, Region.lexHead, Bool.and_eq_true] at hB
    obtain ⟨⟨hr, hf⟩, hB'⟩ := hB
    have hkn : k < n := by simp only [List.length_cons] at hk; omega
    have hr' : k ∈ Region.ready md ops listed := by simpa using hr
    obtain ⟨v, hy, hK⟩ := yieldsIn_of_qOp (P := P) (C := C) (K := wpQuiet P ops C Lq l) h0 (by unfold qOp; simp only [h0]; exact h)
    exact Head.first h0 (Region.noSelect_spec hsel) hs hc hn hkn (fun listed' a' hL => seqB_ready hL.1) l.length listed a inv (Region.free_spec h0 hf) hr' hy
      (Head.lex hsel hs hc hn l (k + 1) _ _ (fun j hj => by have := hl (j + 1) (by simp; omega); simpa [Nat.add_assoc, Nat.add_comm 1 j] using this) (by simp only [List.length_cons] at hk; omega) (inv.set hr' hkn) hB' hK)

/-- The worlds that meet S, numbered. -/
theorem class_of (S : World → Prop) : ∃ (ι : Type) (F : ι → World), (∀ i, S (F i)) ∧ (∀ W, S W → ∃ i, W = F i) := ⟨{ x // S x }, Subtype.val, fun i => i.2, fun W h => ⟨⟨W, h⟩, rfl⟩⟩

/-- A region that draws: its first n operations are quiet in the class, the others come behind them in one order. -/
theorem wp_region_tail {ι : Type} (F : ι → World) {id : Nat} {Q : Exit → Act → World → Prop} {a : Act} {w : World} {l : List Oper} (n : Nat) (hm : P.follows .mixedOrders = true) (hB : Region.lexTailB .any l.toArray n = true) (hS : ∃ i, w.drew = F i)
    (h : wpQuiet P l.toArray (fun w' => ∃ i, w' = F i) (fun a' => ∀ i, wpList P l.toArray Q (l.drop n) a' (F i)) (l.take n) a) : (Code.region id l.toArray true).wp P Q a w := by
  simp only [Region.lexTailB, Bool.and_eq_true, decide_eq_true_eq] at hB
  obtain ⟨⟨⟨⟨hsel, hn⟩, hs⟩, hc⟩, hlex⟩ := hB
  have hn' : n < l.length := by simpa using hn
  have htl : (l.take n).length = n := by simp; omega
  have hdl : (l.drop n).length = l.toArray.size - n := by simp
  have inv0 : HeadInv .any l.toArray n (Array.replicate l.toArray.size false) :=
    ⟨by simp, fun j oj _ hl => (by rw [getD_replicate_false] at hl; cases hl), fun t _ ht => getD_in (by simpa using ht) (getD_replicate_false _ _)⟩
  have H := Head.lex (md := .any) (g := l.toArray.size - n) hsel hs hc hn (l.take n) 0 _ a (fun j hj => by
    have hj' : j < n := by rw [htl] at hj; exact hj
    simp [hj']) (by simpa using htl) inv0 (by rw [htl]; exact hlex) h
  refine wp_region_any hm ?_
  have := Head.any (Q := Q) (g := l.toArray.size - n) (fun listed a' w' hw' hL => by
    obtain ⟨i, rfl⟩ := hw'
    have := wpAny_of_seq (md := .any) (Q' := Q) (l.drop n) n listed a' (F i) (fun j => by simp [List.getElem?_drop]) (by rw [hdl]; exact hL.1) (hL.2 i)
    rwa [hdl] at this) _ _ _ w.drew hS H
  rw [htl, show n + (l.toArray.size - n) = l.toArray.size by omega] at this
  exact this

/-- .. all of its operations are quiet in the class. -/
theorem wp_region_all {ι : Type} (F : ι → World) {id : Nat} {Q : Exit → Act → World → Prop} {a : Act} {w : World} {l : List Oper} (hm : P.follows .mixedOrders = true) (hB : Region.lexB .any l.toArray = true) (hS : ∃ i, w.drew = F i)
    (h : wpQuiet P l.toArray (fun w' => ∃ i, w' = F i) (fun a' => ∀ i, Q .normal a' (F i)) l a) : (Code.region id l.toArray true).wp P Q a w :=
  wp_region_quiet (C := fun w' => ∃ i, w' = F i) hm hB hS (by
    have e : (fun a' => ∀ w', (∃ i, w' = F i) → Q .normal a' w') = (fun a' => ∀ i, Q .normal a' (F i)) := by
      funext a'
      exact propext ⟨fun h i => h _ ⟨i, rfl⟩, fun h w' ⟨i, hi⟩ => hi ▸ h i⟩
    rw [e]; exact h)

/-- At a call of a function that leaves the world alone. -/
theorem quiet_left {f : FuncId} {args : Array Value} {w : World} {n : Nat} {v : Value} (h : Calls P f args (w.drewN n) fun e w' => e = .returned v ∧ w.drewN n = w') :
    Calls P f args (w.drewN n) fun e w'' => e = .returned v ∧ ∃ m, w'' = w.drewN m := h.mono fun _ _ ⟨he, hm⟩ => ⟨he, n, hm.symm⟩
theorem quiet_add {f : FuncId} {args : Array Value} {w : World} {a n : Nat} {v : Value} (h : Calls P f args (w.drewN (a + n)) fun e w' => e = .returned v ∧ w.drewN (a + n) = w') :
    Calls P f args (w.drewN (a + n)) fun e w'' => e = .returned v ∧ ∃ m, w'' = w.drewN (a + m) := h.mono fun _ _ ⟨he, hm⟩ => ⟨he, n, hm.symm⟩
theorem quiet_still {ι : Type} {F : ι → World} {f : FuncId} {args : Array Value} {i : ι} {v : Value} (h : Calls P f args (F i) fun e w' => e = .returned v ∧ F i = w') :
    Calls P f args (F i) fun e w'' => e = .returned v ∧ ∃ j, w'' = F j := h.mono fun _ w' ⟨he, hs⟩ => ⟨he, i, hs.symm⟩
/-- At a call of a function that makes memory of its own, if the class is kept by that. -/
theorem quiet_below {ι : Type} {F : ι → World} {S : World → Prop} {f : FuncId} {args : Array Value} {i : ι} {v : Value} (hF : ∀ i, S (F i)) (hin : ∀ W, S W → ∃ i, W = F i)
    (hk : ∀ W W', S W → RowKit.Below W.heap.size W W' → S W') (h : Calls P f args (F i) fun e w' => e = .returned v ∧ RowKit.Below (F i).heap.size (F i) w') :
    Calls P f args (F i) fun e w'' => e = .returned v ∧ ∃ j, w'' = F j := h.mono fun _ w' ⟨he, hb⟩ => ⟨he, hin _ (hk _ _ (hF i) hb)⟩
end
end Go.Proofs.YtlgpipdeckdmjaaGreat.Reg
