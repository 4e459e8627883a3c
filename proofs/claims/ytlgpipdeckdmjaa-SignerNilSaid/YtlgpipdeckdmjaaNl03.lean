/-
  Several texts laid into one (merge.py): Types.
-/
import Derived.Test.YtlgpipdeckdmjaaProg
import Derived.Test.YtlgpipdeckdmjaaNl01
/-
  The rules of the walk for the program's arrays: each is read, written, made, indexed, compared as a whole.
-/
set_option linter.unusedVariables false
set_option linter.unusedSimpArgs false
namespace Go.Proofs.Ytlgpipdeckdmjaa.Types
open Go.RowKit Base
theorem bk_setRow (w : World) (b g : Nat) (cs : Array Value) (h : b = g) : bk (w.setRow g cs) b = (bk w b).map fun _ => cs := by
  subst h
  unfold bk World.setRow
  simp only [Array.getElem?_modify, if_true]
  cases ho : w.heap[b]? with
  | none => rfl
  | some x =>
    cases x <;> try rfl
    rename_i c e f
    obtain ⟨f1, f2⟩ := f
    cases f1 <;> cases f2 <;> rfl
theorem setRow_alloc_past (w : World) (o : Obj) (g : Nat) (cs : Array Value) (h : g < w.heap.size) : (w.alloc o).setRow g cs = (w.setRow g cs).alloc o := by
  unfold World.setRow World.alloc
  congr 1
  apply Array.ext_getElem?
  intro k
  simp only [Array.getElem?_modify, Array.getElem?_push, Array.size_modify]
  by_cases hk : k = w.heap.size
  · subst hk
    simp [Nat.ne_of_lt h]
  · simp [hk]
attribute [go_sem ↓ high] cl_get cl_get'
attribute [go_sem] cl_getE
attribute [go_sem] stGot_agg Value.oneCell' bk_drew bk_drewN bk_alloc_at bk_alloc_past bk_setRow ldGot_some stGot_cl size_cl cl_set cl_length zs_length setRow_alloc_at setRow_alloc_past
theorem rd_ld_b16 (x : Value) : Instr.loadAt 22 x = ldA 22 x := rfl
theorem rd_st_b16 (x y : Value) : Instr.storeAt 22 x y = stA 22 x y := rfl
theorem rd_al_b16 (h : Bool) (o : Value) : Instr.alloc 22 h o = alA 22 h o := rfl
theorem al_b16 (w : World) : (alA 22 true (.tuple #[])).run Try.prog w = .ok (.pointer (some ⟨w.heap.size, 0, none⟩)) (w.alloc (.cells (cl .u8 (zs 16)).toArray 22)) := by kernel_rfl
theorem ld_b16 (b : Nat) (w : World) : (ldA 22 (.pointer (some ⟨b, 0, none⟩))).run Try.prog w = ldGot Try.prog 22 b 16 w (bk w b) := run_ldA (d := (Try.prog.underlying 22).get (by kernel_rfl)) (by kernel_rfl) (by kernel_rfl) (by kernel_rfl) b w
theorem st_b16 (b : Nat) (v : Array Value) (w : World) : (stA 22 (.pointer (some ⟨b, 0, none⟩)) (.agg v)).run Try.prog w = stGot Try.prog 22 b 16 (.agg v) w (bk w b) := run_stA (by kernel_rfl) b v w
theorem ret_b16 {fn : Func} {a : Act} {R : Ending → World → Prop} {w : World} {g p : Nat} {l : List Nat} {ty : TypeId} (h : fn.results = #[.cell p 22]) (hp : a.tmps.getD p undef = .pointer (some ⟨g, 0, none⟩)) (hb : blk w g (cl .u8 l) ty) (hl : l.length = 16) (hD : a.defers = []) (hR : R (.returned (agg .u8 l)) w) : bodyPost Try.prog fn R .ret a w := ret_cell (d := (Try.prog.underlying 22).get (by kernel_rfl)) h hp hb (by kernel_rfl) (by kernel_rfl) (by rw [cl_length, hl]; kernel_rfl) hD hR
theorem ret2_b16 {fn : Func} {a : Act} {R : Ending → World → Prop} {w : World} {g p q : Nat} {l : List Nat} {ty : TypeId} {v : Value} (h : fn.results = #[.cell p 22, .tmp q]) (hp : a.tmps.getD p undef = .pointer (some ⟨g, 0, none⟩)) (hq : a.tmps.getD q undef = v) (hb : blk w g (cl .u8 l) ty) (hl : l.length = 16) (hD : a.defers = []) (hR : R (.returned (.tuple #[agg .u8 l, v])) w) : bodyPost Try.prog fn R .ret a w := ret_cell2 (d := (Try.prog.underlying 22).get (by kernel_rfl)) h hp hq hb (by kernel_rfl) (by kernel_rfl) (by rw [cl_length, hl]; kernel_rfl) hD hR
theorem rd_eq_b16 (x y : Value) : binOp .eql 22 x y = eqA 22 x y := rfl
theorem rd_ne_b16 (x y : Value) : binOp .neq 22 x y = neA 22 x y := rfl
theorem eg_b16 (op : BinOp) (x y : Operand) (l m : List Nat) (w : World) : (eqGuard op 22 x y (agg .u8 l) (agg .u8 m)).run Try.prog w = .ok () w := Base.run_eqGuard_agg (by kernel_rfl)
theorem ok_b16 : EqOk Try.prog 10000 22 .u8 16 := eqOk_ints (e := 5) (inf := (Try.prog.info? 5).get (by kernel_rfl)) 9998 (by kernel_rfl) (by kernel_rfl) (by kernel_rfl) (by kernel_rfl)
theorem rd_ix_b16 (x i : Value) : Instr.index 22 x i = ixA 22 x i := rfl
theorem ix_b16 (l : List Nat) (ki : IntKind) (i : Int) (w : World) (hl : l.length = 16) (h0 : 0 ≤ i) (h1 : i < 16) : (ixA 22 (agg .u8 l) (.int ki i)).run Try.prog w = .ok (.int .u8 ((l.getD i.toNat 0 : Nat) : Int)) w := run_index_agg (e := 5) .u8 ki l i (by kernel_rfl) (by kernel_rfl) (by kernel_rfl) hl h0 h1
theorem eq_b16 (l m : List Nat) (w : World) (hl : l.length = 16) (hm : m.length = 16) : (eqA 22 (agg .u8 l) (agg .u8 m)).run Try.prog w = .ok (.bool (decide (l = m))) w := run_eql_agg ok_b16 hl hm
theorem ne_b16 (l m : List Nat) (w : World) (hl : l.length = 16) (hm : m.length = 16) : (neA 22 (agg .u8 l) (agg .u8 m)).run Try.prog w = .ok (.bool (!decide (l = m))) w := run_neq_agg ok_b16 hl hm
attribute [go_sem ↓ high] rd_ld_b16 rd_st_b16 rd_al_b16 rd_ix_b16 rd_eq_b16 rd_ne_b16 eg_b16
attribute [go_sem] al_b16 ld_b16 st_b16 ix_b16 eq_b16 ne_b16
theorem rd_ld_b32 (x : Value) : Instr.loadAt 31 x = ldA 31 x := rfl
theorem rd_st_b32 (x y : Value) : Instr.storeAt 31 x y = stA 31 x y := rfl
theorem rd_al_b32 (h : Bool) (o : Value) : Instr.alloc 31 h o = alA 31 h o := rfl
theorem al_b32 (w : World) : (alA 31 true (.tuple #[])).run Try.prog w = .ok (.pointer (some ⟨w.heap.size, 0, none⟩)) (w.alloc (.cells (cl .u8 (zs 32)).toArray 31)) := by kernel_rfl
theorem ld_b32 (b : Nat) (w : World) : (ldA 31 (.pointer (some ⟨b, 0, none⟩))).run Try.prog w = ldGot Try.prog 31 b 32 w (bk w b) := run_ldA (d := (Try.prog.underlying 31).get (by kernel_rfl)) (by kernel_rfl) (by kernel_rfl) (by kernel_rfl) b w
theorem st_b32 (b : Nat) (v : Array Value) (w : World) : (stA 31 (.pointer (some ⟨b, 0, none⟩)) (.agg v)).run Try.prog w = stGot Try.prog 31 b 32 (.agg v) w (bk w b) := run_stA (by kernel_rfl) b v w
theorem ret_b32 {fn : Func} {a : Act} {R : Ending → World → Prop} {w : World} {g p : Nat} {l : List Nat} {ty : TypeId} (h : fn.results = #[.cell p 31]) (hp : a.tmps.getD p undef = .pointer (some ⟨g, 0, none⟩)) (hb : blk w g (cl .u8 l) ty) (hl : l.length = 32) (hD : a.defers = []) (hR : R (.returned (agg .u8 l)) w) : bodyPost Try.prog fn R .ret a w := ret_cell (d := (Try.prog.underlying 31).get (by kernel_rfl)) h hp hb (by kernel_rfl) (by kernel_rfl) (by rw [cl_length, hl]; kernel_rfl) hD hR
theorem ret2_b32 {fn : Func} {a : Act} {R : Ending → World → Prop} {w : World} {g p q : Nat} {l : List Nat} {ty : TypeId} {v : Value} (h : fn.results = #[.cell p 31, .tmp q]) (hp : a.tmps.getD p undef = .pointer (some ⟨g, 0, none⟩)) (hq : a.tmps.getD q undef = v) (hb : blk w g (cl .u8 l) ty) (hl : l.length = 32) (hD : a.defers = []) (hR : R (.returned (.tuple #[agg .u8 l, v])) w) : bodyPost Try.prog fn R .ret a w := ret_cell2 (d := (Try.prog.underlying 31).get (by kernel_rfl)) h hp hq hb (by kernel_rfl) (by kernel_rfl) (by rw [cl_length, hl]; kernel_rfl) hD hR
theorem rd_eq_b32 (x y : Value) : binOp .eql 31 x y = eqA 31 x y := rfl
theorem rd_ne_b32 (x y : Value) : binOp .neq 31 x y = neA 31 x y := rfl
theorem eg_b32 (op : BinOp) (x y : Operand) (l m : List Nat) (w : World) : (eqGuard op 31 x y (agg .u8 l) (agg .u8 m)).run Try.prog w = .ok () w := Base.run_eqGuard_agg (by kernel_rfl)
theorem ok_b32 : EqOk Try.prog 10000 31 .u8 32 := eqOk_ints (e := 5) (inf := (Try.prog.info? 5).get (by kernel_rfl)) 9998 (by kernel_rfl) (by kernel_rfl) (by kernel_rfl) (by kernel_rfl)
theorem rd_ix_b32 (x i : Value) : Instr.index 31 x i = ixA 31 x i := rfl
theorem ix_b32 (l : List Nat) (ki : IntKind) (i : Int) (w : World) (hl : l.length = 32) (h0 : 0 ≤ i) (h1 : i < 32) : (ixA 31 (agg .u8 l) (.int ki i)).run Try.prog w = .ok (.int .u8 ((l.getD i.toNat 0 : Nat) : Int)) w := run_index_agg (e := 5) .u8 ki l i (by kernel_rfl) (by kernel_rfl) (by kernel_rfl) hl h0 h1
theorem eq_b32 (l m : List Nat) (w : World) (hl : l.length = 32) (hm : m.length = 32) : (eqA 31 (agg .u8 l) (agg .u8 m)).run Try.prog w = .ok (.bool (decide (l = m))) w := run_eql_agg ok_b32 hl hm
theorem ne_b32 (l m : List Nat) (w : World) (hl : l.length = 32) (hm : m.length = 32) : (neA 31 (agg .u8 l) (agg .u8 m)).run Try.prog w = .ok (.bool (!decide (l = m))) w := run_neq_agg ok_b32 hl hm
attribute [go_sem ↓ high] rd_ld_b32 rd_st_b32 rd_al_b32 rd_ix_b32 rd_eq_b32 rd_ne_b32 eg_b32
attribute [go_sem] al_b32 ld_b32 st_b32 ix_b32 eq_b32 ne_b32
theorem rd_ld_i35 (x : Value) : Instr.loadAt 27 x = ldA 27 x := rfl
theorem rd_st_i35 (x y : Value) : Instr.storeAt 27 x y = stA 27 x y := rfl
theorem rd_al_i35 (h : Bool) (o : Value) : Instr.alloc 27 h o = alA 27 h o := rfl
theorem al_i35 (w : World) : (alA 27 true (.tuple #[])).run Try.prog w = .ok (.pointer (some ⟨w.heap.size, 0, none⟩)) (w.alloc (.cells (cl .i64 (zs 35)).toArray 27)) := by kernel_rfl
theorem ld_i35 (b : Nat) (w : World) : (ldA 27 (.pointer (some ⟨b, 0, none⟩))).run Try.prog w = ldGot Try.prog 27 b 35 w (bk w b) := run_ldA (d := (Try.prog.underlying 27).get (by kernel_rfl)) (by kernel_rfl) (by kernel_rfl) (by kernel_rfl) b w
theorem st_i35 (b : Nat) (v : Array Value) (w : World) : (stA 27 (.pointer (some ⟨b, 0, none⟩)) (.agg v)).run Try.prog w = stGot Try.prog 27 b 35 (.agg v) w (bk w b) := run_stA (by kernel_rfl) b v w
theorem ret_i35 {fn : Func} {a : Act} {R : Ending → World → Prop} {w : World} {g p : Nat} {l : List Nat} {ty : TypeId} (h : fn.results = #[.cell p 27]) (hp : a.tmps.getD p undef = .pointer (some ⟨g, 0, none⟩)) (hb : blk w g (cl .i64 l) ty) (hl : l.length = 35) (hD : a.defers = []) (hR : R (.returned (agg .i64 l)) w) : bodyPost Try.prog fn R .ret a w := ret_cell (d := (Try.prog.underlying 27).get (by kernel_rfl)) h hp hb (by kernel_rfl) (by kernel_rfl) (by rw [cl_length, hl]; kernel_rfl) hD hR
theorem ret2_i35 {fn : Func} {a : Act} {R : Ending → World → Prop} {w : World} {g p q : Nat} {l : List Nat} {ty : TypeId} {v : Value} (h : fn.results = #[.cell p 27, .tmp q]) (hp : a.tmps.getD p undef = .pointer (some ⟨g, 0, none⟩)) (hq : a.tmps.getD q undef = v) (hb : blk w g (cl .i64 l) ty) (hl : l.length = 35) (hD : a.defers = []) (hR : R (.returned (.tuple #[agg .i64 l, v])) w) : bodyPost Try.prog fn R .ret a w := ret_cell2 (d := (Try.prog.underlying 27).get (by kernel_rfl)) h hp hq hb (by kernel_rfl) (by kernel_rfl) (by rw [cl_length, hl]; kernel_rfl) hD hR
theorem rd_eq_i35 (x y : Value) : binOp .eql 27 x y = eqA 27 x y := rfl
theorem rd_ne_i35 (x y : Value) : binOp .neq 27 x y = neA 27 x y := rfl
theorem eg_i35 (op : BinOp) (x y : Operand) (l m : List Nat) (w : World) : (eqGuard op 27 x y (agg .i64 l) (agg .i64 m)).run Try.prog w = .ok () w := Base.run_eqGuard_agg (by kernel_rfl)
theorem ok_i35 : EqOk Try.prog 10000 27 .i64 35 := eqOk_ints (e := 3) (inf := (Try.prog.info? 3).get (by kernel_rfl)) 9998 (by kernel_rfl) (by kernel_rfl) (by kernel_rfl) (by kernel_rfl)
theorem rd_ix_i35 (x i : Value) : Instr.index 27 x i = ixA 27 x i := rfl
theorem ix_i35 (l : List Nat) (ki : IntKind) (i : Int) (w : World) (hl : l.length = 35) (h0 : 0 ≤ i) (h1 : i < 35) : (ixA 27 (agg .i64 l) (.int ki i)).run Try.prog w = .ok (.int .i64 ((l.getD i.toNat 0 : Nat) : Int)) w := run_index_agg (e := 3) .i64 ki l i (by kernel_rfl) (by kernel_rfl) (by kernel_rfl) hl h0 h1
theorem eq_i35 (l m : List Nat) (w : World) (hl : l.length = 35) (hm : m.length = 35) : (eqA 27 (agg .i64 l) (agg .i64 m)).run Try.prog w = .ok (.bool (decide (l = m))) w := run_eql_agg ok_i35 hl hm
theorem ne_i35 (l m : List Nat) (w : World) (hl : l.length = 35) (hm : m.length = 35) : (neA 27 (agg .i64 l) (agg .i64 m)).run Try.prog w = .ok (.bool (!decide (l = m))) w := run_neq_agg ok_i35 hl hm
attribute [go_sem ↓ high] rd_ld_i35 rd_st_i35 rd_al_i35 rd_ix_i35 rd_eq_i35 rd_ne_i35 eg_i35
attribute [go_sem] al_i35 ld_i35 st_i35 ix_i35 eq_i35 ne_i35
theorem rd_ld_bs (x : Value) : Instr.loadAt 55 x = ldA 55 x := rfl
theorem rd_st_bs (x y : Value) : Instr.storeAt 55 x y = stA 55 x y := rfl
theorem rd_al_bs (h : Bool) (o : Value) : Instr.alloc 55 h o = alA 55 h o := rfl
theorem al_bs (w : World) : (alA 55 true (.tuple #[])).run Try.prog w = .ok (.pointer (some ⟨w.heap.size, 0, none⟩)) (w.alloc (.cells (cl .u8 (zs 560)).toArray 55)) := by kernel_rfl
theorem ld_bs (b : Nat) (w : World) : (ldA 55 (.pointer (some ⟨b, 0, none⟩))).run Try.prog w = ldGot Try.prog 55 b 560 w (bk w b) := run_ldA (d := (Try.prog.underlying 55).get (by kernel_rfl)) (by kernel_rfl) (by kernel_rfl) (by kernel_rfl) b w
theorem st_bs (b : Nat) (v : Array Value) (w : World) : (stA 55 (.pointer (some ⟨b, 0, none⟩)) (.agg v)).run Try.prog w = stGot Try.prog 55 b 560 (.agg v) w (bk w b) := run_stA (by kernel_rfl) b v w
theorem ret_bs {fn : Func} {a : Act} {R : Ending → World → Prop} {w : World} {g p : Nat} {l : List Nat} {ty : TypeId} (h : fn.results = #[.cell p 55]) (hp : a.tmps.getD p undef = .pointer (some ⟨g, 0, none⟩)) (hb : blk w g (cl .u8 l) ty) (hl : l.length = 560) (hD : a.defers = []) (hR : R (.returned (agg .u8 l)) w) : bodyPost Try.prog fn R .ret a w := ret_cell (d := (Try.prog.underlying 55).get (by kernel_rfl)) h hp hb (by kernel_rfl) (by kernel_rfl) (by rw [cl_length, hl]; kernel_rfl) hD hR
theorem ret2_bs {fn : Func} {a : Act} {R : Ending → World → Prop} {w : World} {g p q : Nat} {l : List Nat} {ty : TypeId} {v : Value} (h : fn.results = #[.cell p 55, .tmp q]) (hp : a.tmps.getD p undef = .pointer (some ⟨g, 0, none⟩)) (hq : a.tmps.getD q undef = v) (hb : blk w g (cl .u8 l) ty) (hl : l.length = 560) (hD : a.defers = []) (hR : R (.returned (.tuple #[agg .u8 l, v])) w) : bodyPost Try.prog fn R .ret a w := ret_cell2 (d := (Try.prog.underlying 55).get (by kernel_rfl)) h hp hq hb (by kernel_rfl) (by kernel_rfl) (by rw [cl_length, hl]; kernel_rfl) hD hR
theorem rd_eq_bs (x y : Value) : binOp .eql 55 x y = eqA 55 x y := rfl
theorem rd_ne_bs (x y : Value) : binOp .neq 55 x y = neA 55 x y := rfl
theorem eg_bs (op : BinOp) (x y : Operand) (l m : List Nat) (w : World) : (eqGuard op 55 x y (agg .u8 l) (agg .u8 m)).run Try.prog w = .ok () w := Base.run_eqGuard_agg (by kernel_rfl)
theorem ok_bs : EqOk Try.prog 10000 55 .u8 560 := eqOk_arrays (e := 22) (n := 35) (m := 16) (inf := (Try.prog.info? 22).get (by kernel_rfl)) (de := (Try.prog.underlying 22).get (by kernel_rfl)) 9999 (by kernel_rfl) (by kernel_rfl) (by kernel_rfl) (by kernel_rfl) (by kernel_rfl) (eqOk_ints (e := 5) (inf := (Try.prog.info? 5).get (by kernel_rfl)) 9997 (by kernel_rfl) (by kernel_rfl) (by kernel_rfl) (by kernel_rfl))
theorem eq_bs (l m : List Nat) (w : World) (hl : l.length = 560) (hm : m.length = 560) : (eqA 55 (agg .u8 l) (agg .u8 m)).run Try.prog w = .ok (.bool (decide (l = m))) w := run_eql_agg ok_bs hl hm
theorem ne_bs (l m : List Nat) (w : World) (hl : l.length = 560) (hm : m.length = 560) : (neA 55 (agg .u8 l) (agg .u8 m)).run Try.prog w = .ok (.bool (!decide (l = m))) w := run_neq_agg ok_bs hl hm
attribute [go_sem ↓ high] rd_ld_bs rd_st_bs rd_al_bs rd_eq_bs rd_ne_bs eg_bs
attribute [go_sem] al_bs ld_bs st_bs eq_bs ne_bs
theorem rd_ld_sig (x : Value) : Instr.loadAt 68 x = ldA 68 x := rfl
theorem rd_st_sig (x y : Value) : Instr.storeAt 68 x y = stA 68 x y := rfl
theorem rd_al_sig (h : Bool) (o : Value) : Instr.alloc 68 h o = alA 68 h o := rfl
theorem al_sig (w : World) : (alA 68 true (.tuple #[])).run Try.prog w = .ok (.pointer (some ⟨w.heap.size, 0, none⟩)) (w.alloc (.cells (cl .u8 (zs 560)).toArray 68)) := by kernel_rfl
theorem ld_sig (b : Nat) (w : World) : (ldA 68 (.pointer (some ⟨b, 0, none⟩))).run Try.prog w = ldGot Try.prog 68 b 560 w (bk w b) := run_ldA (d := (Try.prog.underlying 68).get (by kernel_rfl)) (by kernel_rfl) (by kernel_rfl) (by kernel_rfl) b w
theorem st_sig (b : Nat) (v : Array Value) (w : World) : (stA 68 (.pointer (some ⟨b, 0, none⟩)) (.agg v)).run Try.prog w = stGot Try.prog 68 b 560 (.agg v) w (bk w b) := run_stA (by kernel_rfl) b v w
theorem ret_sig {fn : Func} {a : Act} {R : Ending → World → Prop} {w : World} {g p : Nat} {l : List Nat} {ty : TypeId} (h : fn.results = #[.cell p 68]) (hp : a.tmps.getD p undef = .pointer (some ⟨g, 0, none⟩)) (hb : blk w g (cl .u8 l) ty) (hl : l.length = 560) (hD : a.defers = []) (hR : R (.returned (agg .u8 l)) w) : bodyPost Try.prog fn R .ret a w := ret_cell (d := (Try.prog.underlying 68).get (by kernel_rfl)) h hp hb (by kernel_rfl) (by kernel_rfl) (by rw [cl_length, hl]; kernel_rfl) hD hR
theorem ret2_sig {fn : Func} {a : Act} {R : Ending → World → Prop} {w : World} {g p q : Nat} {l : List Nat} {ty : TypeId} {v : Value} (h : fn.results = #[.cell p 68, .tmp q]) (hp : a.tmps.getD p undef = .pointer (some ⟨g, 0, none⟩)) (hq : a.tmps.getD q undef = v) (hb : blk w g (cl .u8 l) ty) (hl : l.length = 560) (hD : a.defers = []) (hR : R (.returned (.tuple #[agg .u8 l, v])) w) : bodyPost Try.prog fn R .ret a w := ret_cell2 (d := (Try.prog.underlying 68).get (by kernel_rfl)) h hp hq hb (by kernel_rfl) (by kernel_rfl) (by rw [cl_length, hl]; kernel_rfl) hD hR
theorem rd_eq_sig (x y : Value) : binOp .eql 68 x y = eqA 68 x y := rfl
theorem rd_ne_sig (x y : Value) : binOp .neq 68 x y = neA 68 x y := rfl
theorem eg_sig (op : BinOp) (x y : Operand) (l m : List Nat) (w : World) : (eqGuard op 68 x y (agg .u8 l) (agg .u8 m)).run Try.prog w = .ok () w := Base.run_eqGuard_agg (by kernel_rfl)
theorem ok_sig : EqOk Try.prog 10000 68 .u8 560 := eqOk_arrays (e := 22) (n := 35) (m := 16) (inf := (Try.prog.info? 22).get (by kernel_rfl)) (de := (Try.prog.underlying 22).get (by kernel_rfl)) 9999 (by kernel_rfl) (by kernel_rfl) (by kernel_rfl) (by kernel_rfl) (by kernel_rfl) (eqOk_ints (e := 5) (inf := (Try.prog.info? 5).get (by kernel_rfl)) 9997 (by kernel_rfl) (by kernel_rfl) (by kernel_rfl) (by kernel_rfl))
theorem eq_sig (l m : List Nat) (w : World) (hl : l.length = 560) (hm : m.length = 560) : (eqA 68 (agg .u8 l) (agg .u8 m)).run Try.prog w = .ok (.bool (decide (l = m))) w := run_eql_agg ok_sig hl hm
theorem ne_sig (l m : List Nat) (w : World) (hl : l.length = 560) (hm : m.length = 560) : (neA 68 (agg .u8 l) (agg .u8 m)).run Try.prog w = .ok (.bool (!decide (l = m))) w := run_neq_agg ok_sig hl hm
attribute [go_sem ↓ high] rd_ld_sig rd_st_sig rd_al_sig rd_eq_sig rd_ne_sig eg_sig
attribute [go_sem] al_sig ld_sig st_sig eq_sig ne_sig
theorem rd_ld_rv (x : Value) : Instr.loadAt 36 x = ldA 36 x := rfl
theorem rd_st_rv (x y : Value) : Instr.storeAt 36 x y = stA 36 x y := rfl
theorem rd_al_rv (h : Bool) (o : Value) : Instr.alloc 36 h o = alA 36 h o := rfl
theorem al_rv (w : World) : (alA 36 true (.tuple #[])).run Try.prog w = .ok (.pointer (some ⟨w.heap.size, 0, none⟩)) (w.alloc (.cells (cl .u8 (zs 16)).toArray 36)) := by kernel_rfl
theorem ld_rv (b : Nat) (w : World) : (ldA 36 (.pointer (some ⟨b, 0, none⟩))).run Try.prog w = ldGot Try.prog 36 b 16 w (bk w b) := run_ldA (d := (Try.prog.underlying 36).get (by kernel_rfl)) (by kernel_rfl) (by kernel_rfl) (by kernel_rfl) b w
theorem st_rv (b : Nat) (v : Array Value) (w : World) : (stA 36 (.pointer (some ⟨b, 0, none⟩)) (.agg v)).run Try.prog w = stGot Try.prog 36 b 16 (.agg v) w (bk w b) := run_stA (by kernel_rfl) b v w
theorem ret_rv {fn : Func} {a : Act} {R : Ending → World → Prop} {w : World} {g p : Nat} {l : List Nat} {ty : TypeId} (h : fn.results = #[.cell p 36]) (hp : a.tmps.getD p undef = .pointer (some ⟨g, 0, none⟩)) (hb : blk w g (cl .u8 l) ty) (hl : l.length = 16) (hD : a.defers = []) (hR : R (.returned (agg .u8 l)) w) : bodyPost Try.prog fn R .ret a w := ret_cell (d := (Try.prog.underlying 36).get (by kernel_rfl)) h hp hb (by kernel_rfl) (by kernel_rfl) (by rw [cl_length, hl]; kernel_rfl) hD hR
theorem ret2_rv {fn : Func} {a : Act} {R : Ending → World → Prop} {w : World} {g p q : Nat} {l : List Nat} {ty : TypeId} {v : Value} (h : fn.results = #[.cell p 36, .tmp q]) (hp : a.tmps.getD p undef = .pointer (some ⟨g, 0, none⟩)) (hq : a.tmps.getD q undef = v) (hb : blk w g (cl .u8 l) ty) (hl : l.length = 16) (hD : a.defers = []) (hR : R (.returned (.tuple #[agg .u8 l, v])) w) : bodyPost Try.prog fn R .ret a w := ret_cell2 (d := (Try.prog.underlying 36).get (by kernel_rfl)) h hp hq hb (by kernel_rfl) (by kernel_rfl) (by rw [cl_length, hl]; kernel_rfl) hD hR
theorem rd_eq_rv (x y : Value) : binOp .eql 36 x y = eqA 36 x y := rfl
theorem rd_ne_rv (x y : Value) : binOp .neq 36 x y = neA 36 x y := rfl
theorem eg_rv (op : BinOp) (x y : Operand) (l m : List Nat) (w : World) : (eqGuard op 36 x y (agg .u8 l) (agg .u8 m)).run Try.prog w = .ok () w := Base.run_eqGuard_agg (by kernel_rfl)
theorem ok_rv : EqOk Try.prog 10000 36 .u8 16 := eqOk_ints (e := 5) (inf := (Try.prog.info? 5).get (by kernel_rfl)) 9998 (by kernel_rfl) (by kernel_rfl) (by kernel_rfl) (by kernel_rfl)
theorem rd_ix_rv (x i : Value) : Instr.index 36 x i = ixA 36 x i := rfl
theorem ix_rv (l : List Nat) (ki : IntKind) (i : Int) (w : World) (hl : l.length = 16) (h0 : 0 ≤ i) (h1 : i < 16) : (ixA 36 (agg .u8 l) (.int ki i)).run Try.prog w = .ok (.int .u8 ((l.getD i.toNat 0 : Nat) : Int)) w := run_index_agg (e := 5) .u8 ki l i (by kernel_rfl) (by kernel_rfl) (by kernel_rfl) hl h0 h1
theorem eq_rv (l m : List Nat) (w : World) (hl : l.length = 16) (hm : m.length = 16) : (eqA 36 (agg .u8 l) (agg .u8 m)).run Try.prog w = .ok (.bool (decide (l = m))) w := run_eql_agg ok_rv hl hm
theorem ne_rv (l m : List Nat) (w : World) (hl : l.length = 16) (hm : m.length = 16) : (neA 36 (agg .u8 l) (agg .u8 m)).run Try.prog w = .ok (.bool (!decide (l = m))) w := run_neq_agg ok_rv hl hm
attribute [go_sem ↓ high] rd_ld_rv rd_st_rv rd_al_rv rd_ix_rv rd_eq_rv rd_ne_rv eg_rv
attribute [go_sem] al_rv ld_rv st_rv ix_rv eq_rv ne_rv
theorem rd_ld_rvs (x : Value) : Instr.loadAt 72 x = ldA 72 x := rfl
theorem rd_st_rvs (x y : Value) : Instr.storeAt 72 x y = stA 72 x y := rfl
theorem rd_al_rvs (h : Bool) (o : Value) : Instr.alloc 72 h o = alA 72 h o := rfl
theorem al_rvs (w : World) : (alA 72 true (.tuple #[])).run Try.prog w = .ok (.pointer (some ⟨w.heap.size, 0, none⟩)) (w.alloc (.cells (cl .u8 (zs 560)).toArray 72)) := by kernel_rfl
theorem ld_rvs (b : Nat) (w : World) : (ldA 72 (.pointer (some ⟨b, 0, none⟩))).run Try.prog w = ldGot Try.prog 72 b 560 w (bk w b) := run_ldA (d := (Try.prog.underlying 72).get (by kernel_rfl)) (by kernel_rfl) (by kernel_rfl) (by kernel_rfl) b w
theorem st_rvs (b : Nat) (v : Array Value) (w : World) : (stA 72 (.pointer (some ⟨b, 0, none⟩)) (.agg v)).run Try.prog w = stGot Try.prog 72 b 560 (.agg v) w (bk w b) := run_stA (by kernel_rfl) b v w
theorem ret_rvs {fn : Func} {a : Act} {R : Ending → World → Prop} {w : World} {g p : Nat} {l : List Nat} {ty : TypeId} (h : fn.results = #[.cell p 72]) (hp : a.tmps.getD p undef = .pointer (some ⟨g, 0, none⟩)) (hb : blk w g (cl .u8 l) ty) (hl : l.length = 560) (hD : a.defers = []) (hR : R (.returned (agg .u8 l)) w) : bodyPost Try.prog fn R .ret a w := ret_cell (d := (Try.prog.underlying 72).get (by kernel_rfl)) h hp hb (by kernel_rfl) (by kernel_rfl) (by rw [cl_length, hl]; kernel_rfl) hD hR
theorem ret2_rvs {fn : Func} {a : Act} {R : Ending → World → Prop} {w : World} {g p q : Nat} {l : List Nat} {ty : TypeId} {v : Value} (h : fn.results = #[.cell p 72, .tmp q]) (hp : a.tmps.getD p undef = .pointer (some ⟨g, 0, none⟩)) (hq : a.tmps.getD q undef = v) (hb : blk w g (cl .u8 l) ty) (hl : l.length = 560) (hD : a.defers = []) (hR : R (.returned (.tuple #[agg .u8 l, v])) w) : bodyPost Try.prog fn R .ret a w := ret_cell2 (d := (Try.prog.underlying 72).get (by kernel_rfl)) h hp hq hb (by kernel_rfl) (by kernel_rfl) (by rw [cl_length, hl]; kernel_rfl) hD hR
theorem rd_eq_rvs (x y : Value) : binOp .eql 72 x y = eqA 72 x y := rfl
theorem rd_ne_rvs (x y : Value) : binOp .neq 72 x y = neA 72 x y := rfl
theorem eg_rvs (op : BinOp) (x y : Operand) (l m : List Nat) (w : World) : (eqGuard op 72 x y (agg .u8 l) (agg .u8 m)).run Try.prog w = .ok () w := Base.run_eqGuard_agg (by kernel_rfl)
theorem ok_rvs : EqOk Try.prog 10000 72 .u8 560 := eqOk_arrays (e := 36) (n := 35) (m := 16) (inf := (Try.prog.info? 36).get (by kernel_rfl)) (de := (Try.prog.underlying 36).get (by kernel_rfl)) 9999 (by kernel_rfl) (by kernel_rfl) (by kernel_rfl) (by kernel_rfl) (by kernel_rfl) (eqOk_ints (e := 5) (inf := (Try.prog.info? 5).get (by kernel_rfl)) 9997 (by kernel_rfl) (by kernel_rfl) (by kernel_rfl) (by kernel_rfl))
theorem eq_rvs (l m : List Nat) (w : World) (hl : l.length = 560) (hm : m.length = 560) : (eqA 72 (agg .u8 l) (agg .u8 m)).run Try.prog w = .ok (.bool (decide (l = m))) w := run_eql_agg ok_rvs hl hm
theorem ne_rvs (l m : List Nat) (w : World) (hl : l.length = 560) (hm : m.length = 560) : (neA 72 (agg .u8 l) (agg .u8 m)).run Try.prog w = .ok (.bool (!decide (l = m))) w := run_neq_agg ok_rvs hl hm
attribute [go_sem ↓ high] rd_ld_rvs rd_st_rvs rd_al_rvs rd_eq_rvs rd_ne_rvs eg_rvs
attribute [go_sem] al_rvs ld_rvs st_rvs eq_rvs ne_rvs
theorem rd_ld_half (x : Value) : Instr.loadAt 148 x = ldA 148 x := rfl
theorem rd_st_half (x y : Value) : Instr.storeAt 148 x y = stA 148 x y := rfl
theorem rd_al_half (h : Bool) (o : Value) : Instr.alloc 148 h o = alA 148 h o := rfl
theorem al_half (w : World) : (alA 148 true (.tuple #[])).run Try.prog w = .ok (.pointer (some ⟨w.heap.size, 0, none⟩)) (w.alloc (.cells (cl .u8 (zs 16)).toArray 148)) := by kernel_rfl
theorem ld_half (b : Nat) (w : World) : (ldA 148 (.pointer (some ⟨b, 0, none⟩))).run Try.prog w = ldGot Try.prog 148 b 16 w (bk w b) := run_ldA (d := (Try.prog.underlying 148).get (by kernel_rfl)) (by kernel_rfl) (by kernel_rfl) (by kernel_rfl) b w
theorem st_half (b : Nat) (v : Array Value) (w : World) : (stA 148 (.pointer (some ⟨b, 0, none⟩)) (.agg v)).run Try.prog w = stGot Try.prog 148 b 16 (.agg v) w (bk w b) := run_stA (by kernel_rfl) b v w
theorem ret_half {fn : Func} {a : Act} {R : Ending → World → Prop} {w : World} {g p : Nat} {l : List Nat} {ty : TypeId} (h : fn.results = #[.cell p 148]) (hp : a.tmps.getD p undef = .pointer (some ⟨g, 0, none⟩)) (hb : blk w g (cl .u8 l) ty) (hl : l.length = 16) (hD : a.defers = []) (hR : R (.returned (agg .u8 l)) w) : bodyPost Try.prog fn R .ret a w := ret_cell (d := (Try.prog.underlying 148).get (by kernel_rfl)) h hp hb (by kernel_rfl) (by kernel_rfl) (by rw [cl_length, hl]; kernel_rfl) hD hR
theorem ret2_half {fn : Func} {a : Act} {R : Ending → World → Prop} {w : World} {g p q : Nat} {l : List Nat} {ty : TypeId} {v : Value} (h : fn.results = #[.cell p 148, .tmp q]) (hp : a.tmps.getD p undef = .pointer (some ⟨g, 0, none⟩)) (hq : a.tmps.getD q undef = v) (hb : blk w g (cl .u8 l) ty) (hl : l.length = 16) (hD : a.defers = []) (hR : R (.returned (.tuple #[agg .u8 l, v])) w) : bodyPost Try.prog fn R .ret a w := ret_cell2 (d := (Try.prog.underlying 148).get (by kernel_rfl)) h hp hq hb (by kernel_rfl) (by kernel_rfl) (by rw [cl_length, hl]; kernel_rfl) hD hR
theorem rd_eq_half (x y : Value) : binOp .eql 148 x y = eqA 148 x y := rfl
theorem rd_ne_half (x y : Value) : binOp .neq 148 x y = neA 148 x y := rfl
theorem eg_half (op : BinOp) (x y : Operand) (l m : List Nat) (w : World) : (eqGuard op 148 x y (agg .u8 l) (agg .u8 m)).run Try.prog w = .ok () w := Base.run_eqGuard_agg (by kernel_rfl)
theorem ok_half : EqOk Try.prog 10000 148 .u8 16 := eqOk_ints (e := 5) (inf := (Try.prog.info? 5).get (by kernel_rfl)) 9998 (by kernel_rfl) (by kernel_rfl) (by kernel_rfl) (by kernel_rfl)
theorem rd_ix_half (x i : Value) : Instr.index 148 x i = ixA 148 x i := rfl
theorem ix_half (l : List Nat) (ki : IntKind) (i : Int) (w : World) (hl : l.length = 16) (h0 : 0 ≤ i) (h1 : i < 16) : (ixA 148 (agg .u8 l) (.int ki i)).run Try.prog w = .ok (.int .u8 ((l.getD i.toNat 0 : Nat) : Int)) w := run_index_agg (e := 5) .u8 ki l i (by kernel_rfl) (by kernel_rfl) (by kernel_rfl) hl h0 h1
theorem eq_half (l m : List Nat) (w : World) (hl : l.length = 16) (hm : m.length = 16) : (eqA 148 (agg .u8 l) (agg .u8 m)).run Try.prog w = .ok (.bool (decide (l = m))) w := run_eql_agg ok_half hl hm
theorem ne_half (l m : List Nat) (w : World) (hl : l.length = 16) (hm : m.length = 16) : (neA 148 (agg .u8 l) (agg .u8 m)).run Try.prog w = .ok (.bool (!decide (l = m))) w := run_neq_agg ok_half hl hm
attribute [go_sem ↓ high] rd_ld_half rd_st_half rd_al_half rd_ix_half rd_eq_half rd_ne_half eg_half
attribute [go_sem] al_half ld_half st_half ix_half eq_half ne_half
theorem rd_ld_dig (x : Value) : Instr.loadAt 179 x = ldA 179 x := rfl
theorem rd_st_dig (x y : Value) : Instr.storeAt 179 x y = stA 179 x y := rfl
theorem rd_al_dig (h : Bool) (o : Value) : Instr.alloc 179 h o = alA 179 h o := rfl
theorem al_dig (w : World) : (alA 179 true (.tuple #[])).run Try.prog w = .ok (.pointer (some ⟨w.heap.size, 0, none⟩)) (w.alloc (.cells (cl .u8 (zs 32)).toArray 179)) := by kernel_rfl
theorem ld_dig (b : Nat) (w : World) : (ldA 179 (.pointer (some ⟨b, 0, none⟩))).run Try.prog w = ldGot Try.prog 179 b 32 w (bk w b) := run_ldA (d := (Try.prog.underlying 179).get (by kernel_rfl)) (by kernel_rfl) (by kernel_rfl) (by kernel_rfl) b w
theorem st_dig (b : Nat) (v : Array Value) (w : World) : (stA 179 (.pointer (some ⟨b, 0, none⟩)) (.agg v)).run Try.prog w = stGot Try.prog 179 b 32 (.agg v) w (bk w b) := run_stA (by kernel_rfl) b v w
theorem ret_dig {fn : Func} {a : Act} {R : Ending → World → Prop} {w : World} {g p : Nat} {l : List Nat} {ty : TypeId} (h : fn.results = #[.cell p 179]) (hp : a.tmps.getD p undef = .pointer (some ⟨g, 0, none⟩)) (hb : blk w g (cl .u8 l) ty) (hl : l.length = 32) (hD : a.defers = []) (hR : R (.returned (agg .u8 l)) w) : bodyPost Try.prog fn R .ret a w := ret_cell (d := (Try.prog.underlying 179).get (by kernel_rfl)) h hp hb (by kernel_rfl) (by kernel_rfl) (by rw [cl_length, hl]; kernel_rfl) hD hR
theorem ret2_dig {fn : Func} {a : Act} {R : Ending → World → Prop} {w : World} {g p q : Nat} {l : List Nat} {ty : TypeId} {v : Value} (h : fn.results = #[.cell p 179, .tmp q]) (hp : a.tmps.getD p undef = .pointer (some ⟨g, 0, none⟩)) (hq : a.tmps.getD q undef = v) (hb : blk w g (cl .u8 l) ty) (hl : l.length = 32) (hD : a.defers = []) (hR : R (.returned (.tuple #[agg .u8 l, v])) w) : bodyPost Try.prog fn R .ret a w := ret_cell2 (d := (Try.prog.underlying 179).get (by kernel_rfl)) h hp hq hb (by kernel_rfl) (by kernel_rfl) (by rw [cl_length, hl]; kernel_rfl) hD hR
theorem rd_eq_dig (x y : Value) : binOp .eql 179 x y = eqA 179 x y := rfl
theorem rd_ne_dig (x y : Value) : binOp .neq 179 x y = neA 179 x y := rfl
theorem eg_dig (op : BinOp) (x y : Operand) (l m : List Nat) (w : World) : (eqGuard op 179 x y (agg .u8 l) (agg .u8 m)).run Try.prog w = .ok () w := Base.run_eqGuard_agg (by kernel_rfl)
theorem ok_dig : EqOk Try.prog 10000 179 .u8 32 := eqOk_ints (e := 5) (inf := (Try.prog.info? 5).get (by kernel_rfl)) 9998 (by kernel_rfl) (by kernel_rfl) (by kernel_rfl) (by kernel_rfl)
theorem rd_ix_dig (x i : Value) : Instr.index 179 x i = ixA 179 x i := rfl
theorem ix_dig (l : List Nat) (ki : IntKind) (i : Int) (w : World) (hl : l.length = 32) (h0 : 0 ≤ i) (h1 : i < 32) : (ixA 179 (agg .u8 l) (.int ki i)).run Try.prog w = .ok (.int .u8 ((l.getD i.toNat 0 : Nat) : Int)) w := run_index_agg (e := 5) .u8 ki l i (by kernel_rfl) (by kernel_rfl) (by kernel_rfl) hl h0 h1
theorem eq_dig (l m : List Nat) (w : World) (hl : l.length = 32) (hm : m.length = 32) : (eqA 179 (agg .u8 l) (agg .u8 m)).run Try.prog w = .ok (.bool (decide (l = m))) w := run_eql_agg ok_dig hl hm
theorem ne_dig (l m : List Nat) (w : World) (hl : l.length = 32) (hm : m.length = 32) : (neA 179 (agg .u8 l) (agg .u8 m)).run Try.prog w = .ok (.bool (!decide (l = m))) w := run_neq_agg ok_dig hl hm
attribute [go_sem ↓ high] rd_ld_dig rd_st_dig rd_al_dig rd_ix_dig rd_eq_dig rd_ne_dig eg_dig
attribute [go_sem] al_dig ld_dig st_dig ix_dig eq_dig ne_dig
theorem rd_ld_words (x : Value) : Instr.loadAt 197 x = ldA 197 x := rfl
theorem rd_st_words (x y : Value) : Instr.storeAt 197 x y = stA 197 x y := rfl
theorem rd_al_words (h : Bool) (o : Value) : Instr.alloc 197 h o = alA 197 h o := rfl
theorem al_words (w : World) : (alA 197 true (.tuple #[])).run Try.prog w = .ok (.pointer (some ⟨w.heap.size, 0, none⟩)) (w.alloc (.cells (cl .u32 (zs 8)).toArray 197)) := by kernel_rfl
theorem ld_words (b : Nat) (w : World) : (ldA 197 (.pointer (some ⟨b, 0, none⟩))).run Try.prog w = ldGot Try.prog 197 b 8 w (bk w b) := run_ldA (d := (Try.prog.underlying 197).get (by kernel_rfl)) (by kernel_rfl) (by kernel_rfl) (by kernel_rfl) b w
theorem st_words (b : Nat) (v : Array Value) (w : World) : (stA 197 (.pointer (some ⟨b, 0, none⟩)) (.agg v)).run Try.prog w = stGot Try.prog 197 b 8 (.agg v) w (bk w b) := run_stA (by kernel_rfl) b v w
theorem ret_words {fn : Func} {a : Act} {R : Ending → World → Prop} {w : World} {g p : Nat} {l : List Nat} {ty : TypeId} (h : fn.results = #[.cell p 197]) (hp : a.tmps.getD p undef = .pointer (some ⟨g, 0, none⟩)) (hb : blk w g (cl .u32 l) ty) (hl : l.length = 8) (hD : a.defers = []) (hR : R (.returned (agg .u32 l)) w) : bodyPost Try.prog fn R .ret a w := ret_cell (d := (Try.prog.underlying 197).get (by kernel_rfl)) h hp hb (by kernel_rfl) (by kernel_rfl) (by rw [cl_length, hl]; kernel_rfl) hD hR
theorem ret2_words {fn : Func} {a : Act} {R : Ending → World → Prop} {w : World} {g p q : Nat} {l : List Nat} {ty : TypeId} {v : Value} (h : fn.results = #[.cell p 197, .tmp q]) (hp : a.tmps.getD p undef = .pointer (some ⟨g, 0, none⟩)) (hq : a.tmps.getD q undef = v) (hb : blk w g (cl .u32 l) ty) (hl : l.length = 8) (hD : a.defers = []) (hR : R (.returned (.tuple #[agg .u32 l, v])) w) : bodyPost Try.prog fn R .ret a w := ret_cell2 (d := (Try.prog.underlying 197).get (by kernel_rfl)) h hp hq hb (by kernel_rfl) (by kernel_rfl) (by rw [cl_length, hl]; kernel_rfl) hD hR
attribute [go_sem ↓ high] rd_ld_words rd_st_words rd_al_words
attribute [go_sem] al_words ld_words st_words
theorem rd_ld_block (x : Value) : Instr.loadAt 205 x = ldA 205 x := rfl
theorem rd_st_block (x y : Value) : Instr.storeAt 205 x y = stA 205 x y := rfl
theorem rd_al_block (h : Bool) (o : Value) : Instr.alloc 205 h o = alA 205 h o := rfl
theorem al_block (w : World) : (alA 205 true (.tuple #[])).run Try.prog w = .ok (.pointer (some ⟨w.heap.size, 0, none⟩)) (w.alloc (.cells (cl .u32 (zs 16)).toArray 205)) := by kernel_rfl
theorem ld_block (b : Nat) (w : World) : (ldA 205 (.pointer (some ⟨b, 0, none⟩))).run Try.prog w = ldGot Try.prog 205 b 16 w (bk w b) := run_ldA (d := (Try.prog.underlying 205).get (by kernel_rfl)) (by kernel_rfl) (by kernel_rfl) (by kernel_rfl) b w
theorem st_block (b : Nat) (v : Array Value) (w : World) : (stA 205 (.pointer (some ⟨b, 0, none⟩)) (.agg v)).run Try.prog w = stGot Try.prog 205 b 16 (.agg v) w (bk w b) := run_stA (by kernel_rfl) b v w
theorem ret_block {fn : Func} {a : Act} {R : Ending → World → Prop} {w : World} {g p : Nat} {l : List Nat} {ty : TypeId} (h : fn.results = #[.cell p 205]) (hp : a.tmps.getD p undef = .pointer (some ⟨g, 0, none⟩)) (hb : blk w g (cl .u32 l) ty) (hl : l.length = 16) (hD : a.defers = []) (hR : R (.returned (agg .u32 l)) w) : bodyPost Try.prog fn R .ret a w := ret_cell (d := (Try.prog.underlying 205).get (by kernel_rfl)) h hp hb (by kernel_rfl) (by kernel_rfl) (by rw [cl_length, hl]; kernel_rfl) hD hR
theorem ret2_block {fn : Func} {a : Act} {R : Ending → World → Prop} {w : World} {g p q : Nat} {l : List Nat} {ty : TypeId} {v : Value} (h : fn.results = #[.cell p 205, .tmp q]) (hp : a.tmps.getD p undef = .pointer (some ⟨g, 0, none⟩)) (hq : a.tmps.getD q undef = v) (hb : blk w g (cl .u32 l) ty) (hl : l.length = 16) (hD : a.defers = []) (hR : R (.returned (.tuple #[agg .u32 l, v])) w) : bodyPost Try.prog fn R .ret a w := ret_cell2 (d := (Try.prog.underlying 205).get (by kernel_rfl)) h hp hq hb (by kernel_rfl) (by kernel_rfl) (by rw [cl_length, hl]; kernel_rfl) hD hR
theorem rd_eq_block (x y : Value) : binOp .eql 205 x y = eqA 205 x y := rfl
theorem rd_ne_block (x y : Value) : binOp .neq 205 x y = neA 205 x y := rfl
theorem eg_block (op : BinOp) (x y : Operand) (l m : List Nat) (w : World) : (eqGuard op 205 x y (agg .u32 l) (agg .u32 m)).run Try.prog w = .ok () w := Base.run_eqGuard_agg (by kernel_rfl)
theorem ok_block : EqOk Try.prog 10000 205 .u32 16 := eqOk_ints (e := 150) (inf := (Try.prog.info? 150).get (by kernel_rfl)) 9998 (by kernel_rfl) (by kernel_rfl) (by kernel_rfl) (by kernel_rfl)
theorem rd_ix_block (x i : Value) : Instr.index 205 x i = ixA 205 x i := rfl
theorem ix_block (l : List Nat) (ki : IntKind) (i : Int) (w : World) (hl : l.length = 16) (h0 : 0 ≤ i) (h1 : i < 16) : (ixA 205 (agg .u32 l) (.int ki i)).run Try.prog w = .ok (.int .u32 ((l.getD i.toNat 0 : Nat) : Int)) w := run_index_agg (e := 150) .u32 ki l i (by kernel_rfl) (by kernel_rfl) (by kernel_rfl) hl h0 h1
theorem eq_block (l m : List Nat) (w : World) (hl : l.length = 16) (hm : m.length = 16) : (eqA 205 (agg .u32 l) (agg .u32 m)).run Try.prog w = .ok (.bool (decide (l = m))) w := run_eql_agg ok_block hl hm
theorem ne_block (l m : List Nat) (w : World) (hl : l.length = 16) (hm : m.length = 16) : (neA 205 (agg .u32 l) (agg .u32 m)).run Try.prog w = .ok (.bool (!decide (l = m))) w := run_neq_agg ok_block hl hm
attribute [go_sem ↓ high] rd_ld_block rd_st_block rd_al_block rd_ix_block rd_eq_block rd_ne_block eg_block
attribute [go_sem] al_block ld_block st_block ix_block eq_block ne_block
theorem rd_ld_w64 (x : Value) : Instr.loadAt 152 x = ldA 152 x := rfl
theorem rd_st_w64 (x y : Value) : Instr.storeAt 152 x y = stA 152 x y := rfl
theorem rd_al_w64 (h : Bool) (o : Value) : Instr.alloc 152 h o = alA 152 h o := rfl
theorem al_w64 (w : World) : (alA 152 true (.tuple #[])).run Try.prog w = .ok (.pointer (some ⟨w.heap.size, 0, none⟩)) (w.alloc (.cells (cl .u32 (zs 64)).toArray 152)) := by kernel_rfl
theorem ld_w64 (b : Nat) (w : World) : (ldA 152 (.pointer (some ⟨b, 0, none⟩))).run Try.prog w = ldGot Try.prog 152 b 64 w (bk w b) := run_ldA (d := (Try.prog.underlying 152).get (by kernel_rfl)) (by kernel_rfl) (by kernel_rfl) (by kernel_rfl) b w
theorem st_w64 (b : Nat) (v : Array Value) (w : World) : (stA 152 (.pointer (some ⟨b, 0, none⟩)) (.agg v)).run Try.prog w = stGot Try.prog 152 b 64 (.agg v) w (bk w b) := run_stA (by kernel_rfl) b v w
theorem ret_w64 {fn : Func} {a : Act} {R : Ending → World → Prop} {w : World} {g p : Nat} {l : List Nat} {ty : TypeId} (h : fn.results = #[.cell p 152]) (hp : a.tmps.getD p undef = .pointer (some ⟨g, 0, none⟩)) (hb : blk w g (cl .u32 l) ty) (hl : l.length = 64) (hD : a.defers = []) (hR : R (.returned (agg .u32 l)) w) : bodyPost Try.prog fn R .ret a w := ret_cell (d := (Try.prog.underlying 152).get (by kernel_rfl)) h hp hb (by kernel_rfl) (by kernel_rfl) (by rw [cl_length, hl]; kernel_rfl) hD hR
theorem ret2_w64 {fn : Func} {a : Act} {R : Ending → World → Prop} {w : World} {g p q : Nat} {l : List Nat} {ty : TypeId} {v : Value} (h : fn.results = #[.cell p 152, .tmp q]) (hp : a.tmps.getD p undef = .pointer (some ⟨g, 0, none⟩)) (hq : a.tmps.getD q undef = v) (hb : blk w g (cl .u32 l) ty) (hl : l.length = 64) (hD : a.defers = []) (hR : R (.returned (.tuple #[agg .u32 l, v])) w) : bodyPost Try.prog fn R .ret a w := ret_cell2 (d := (Try.prog.underlying 152).get (by kernel_rfl)) h hp hq hb (by kernel_rfl) (by kernel_rfl) (by rw [cl_length, hl]; kernel_rfl) hD hR
theorem rd_bl_w64 (x : Array (Nat × Value)) : Instr.build 152 x = blA 152 x := rfl
theorem rd_eq_w64 (x y : Value) : binOp .eql 152 x y = eqA 152 x y := rfl
theorem rd_ne_w64 (x y : Value) : binOp .neq 152 x y = neA 152 x y := rfl
theorem eg_w64 (op : BinOp) (x y : Operand) (l m : List Nat) (w : World) : (eqGuard op 152 x y (agg .u32 l) (agg .u32 m)).run Try.prog w = .ok () w := Base.run_eqGuard_agg (by kernel_rfl)
theorem ok_w64 : EqOk Try.prog 10000 152 .u32 64 := eqOk_ints (e := 150) (inf := (Try.prog.info? 150).get (by kernel_rfl)) 9998 (by kernel_rfl) (by kernel_rfl) (by kernel_rfl) (by kernel_rfl)
theorem rd_ix_w64 (x i : Value) : Instr.index 152 x i = ixA 152 x i := rfl
theorem ix_w64 (l : List Nat) (ki : IntKind) (i : Int) (w : World) (hl : l.length = 64) (h0 : 0 ≤ i) (h1 : i < 64) : (ixA 152 (agg .u32 l) (.int ki i)).run Try.prog w = .ok (.int .u32 ((l.getD i.toNat 0 : Nat) : Int)) w := run_index_agg (e := 150) .u32 ki l i (by kernel_rfl) (by kernel_rfl) (by kernel_rfl) hl h0 h1
theorem eq_w64 (l m : List Nat) (w : World) (hl : l.length = 64) (hm : m.length = 64) : (eqA 152 (agg .u32 l) (agg .u32 m)).run Try.prog w = .ok (.bool (decide (l = m))) w := run_eql_agg ok_w64 hl hm
theorem ne_w64 (l m : List Nat) (w : World) (hl : l.length = 64) (hm : m.length = 64) : (neA 152 (agg .u32 l) (agg .u32 m)).run Try.prog w = .ok (.bool (!decide (l = m))) w := run_neq_agg ok_w64 hl hm
attribute [go_sem ↓ high] rd_ld_w64 rd_st_w64 rd_al_w64 rd_bl_w64 rd_ix_w64 rd_eq_w64 rd_ne_w64 eg_w64
attribute [go_sem] al_w64 ld_w64 st_w64 ix_w64 eq_w64 ne_w64
theorem rd_ld_w8 (x : Value) : Instr.loadAt 151 x = ldA 151 x := rfl
theorem rd_st_w8 (x y : Value) : Instr.storeAt 151 x y = stA 151 x y := rfl
theorem rd_al_w8 (h : Bool) (o : Value) : Instr.alloc 151 h o = alA 151 h o := rfl
theorem al_w8 (w : World) : (alA 151 true (.tuple #[])).run Try.prog w = .ok (.pointer (some ⟨w.heap.size, 0, none⟩)) (w.alloc (.cells (cl .u32 (zs 8)).toArray 151)) := by kernel_rfl
theorem ld_w8 (b : Nat) (w : World) : (ldA 151 (.pointer (some ⟨b, 0, none⟩))).run Try.prog w = ldGot Try.prog 151 b 8 w (bk w b) := run_ldA (d := (Try.prog.underlying 151).get (by kernel_rfl)) (by kernel_rfl) (by kernel_rfl) (by kernel_rfl) b w
theorem st_w8 (b : Nat) (v : Array Value) (w : World) : (stA 151 (.pointer (some ⟨b, 0, none⟩)) (.agg v)).run Try.prog w = stGot Try.prog 151 b 8 (.agg v) w (bk w b) := run_stA (by kernel_rfl) b v w
theorem ret_w8 {fn : Func} {a : Act} {R : Ending → World → Prop} {w : World} {g p : Nat} {l : List Nat} {ty : TypeId} (h : fn.results = #[.cell p 151]) (hp : a.tmps.getD p undef = .pointer (some ⟨g, 0, none⟩)) (hb : blk w g (cl .u32 l) ty) (hl : l.length = 8) (hD : a.defers = []) (hR : R (.returned (agg .u32 l)) w) : bodyPost Try.prog fn R .ret a w := ret_cell (d := (Try.prog.underlying 151).get (by kernel_rfl)) h hp hb (by kernel_rfl) (by kernel_rfl) (by rw [cl_length, hl]; kernel_rfl) hD hR
theorem ret2_w8 {fn : Func} {a : Act} {R : Ending → World → Prop} {w : World} {g p q : Nat} {l : List Nat} {ty : TypeId} {v : Value} (h : fn.results = #[.cell p 151, .tmp q]) (hp : a.tmps.getD p undef = .pointer (some ⟨g, 0, none⟩)) (hq : a.tmps.getD q undef = v) (hb : blk w g (cl .u32 l) ty) (hl : l.length = 8) (hD : a.defers = []) (hR : R (.returned (.tuple #[agg .u32 l, v])) w) : bodyPost Try.prog fn R .ret a w := ret_cell2 (d := (Try.prog.underlying 151).get (by kernel_rfl)) h hp hq hb (by kernel_rfl) (by kernel_rfl) (by rw [cl_length, hl]; kernel_rfl) hD hR
theorem rd_eq_w8 (x y : Value) : binOp .eql 151 x y = eqA 151 x y := rfl
theorem rd_ne_w8 (x y : Value) : binOp .neq 151 x y = neA 151 x y := rfl
theorem eg_w8 (op : BinOp) (x y : Operand) (l m : List Nat) (w : World) : (eqGuard op 151 x y (agg .u32 l) (agg .u32 m)).run Try.prog w = .ok () w := Base.run_eqGuard_agg (by kernel_rfl)
theorem ok_w8 : EqOk Try.prog 10000 151 .u32 8 := eqOk_ints (e := 150) (inf := (Try.prog.info? 150).get (by kernel_rfl)) 9998 (by kernel_rfl) (by kernel_rfl) (by kernel_rfl) (by kernel_rfl)
theorem rd_ix_w8 (x i : Value) : Instr.index 151 x i = ixA 151 x i := rfl
theorem ix_w8 (l : List Nat) (ki : IntKind) (i : Int) (w : World) (hl : l.length = 8) (h0 : 0 ≤ i) (h1 : i < 8) : (ixA 151 (agg .u32 l) (.int ki i)).run Try.prog w = .ok (.int .u32 ((l.getD i.toNat 0 : Nat) : Int)) w := run_index_agg (e := 150) .u32 ki l i (by kernel_rfl) (by kernel_rfl) (by kernel_rfl) hl h0 h1
theorem eq_w8 (l m : List Nat) (w : World) (hl : l.length = 8) (hm : m.length = 8) : (eqA 151 (agg .u32 l) (agg .u32 m)).run Try.prog w = .ok (.bool (decide (l = m))) w := run_eql_agg ok_w8 hl hm
theorem ne_w8 (l m : List Nat) (w : World) (hl : l.length = 8) (hm : m.length = 8) : (neA 151 (agg .u32 l) (agg .u32 m)).run Try.prog w = .ok (.bool (!decide (l = m))) w := run_neq_agg ok_w8 hl hm
attribute [go_sem ↓ high] rd_ld_w8 rd_st_w8 rd_al_w8 rd_ix_w8 rd_eq_w8 rd_ne_w8 eg_w8
attribute [go_sem] al_w8 ld_w8 st_w8 ix_w8 eq_w8 ne_w8
theorem rd_ld_node (x : Value) : Instr.loadAt 146 x = ldA 146 x := rfl
theorem rd_st_node (x y : Value) : Instr.storeAt 146 x y = stA 146 x y := rfl
theorem rd_al_node (h : Bool) (o : Value) : Instr.alloc 146 h o = alA 146 h o := rfl
theorem al_node (w : World) : (alA 146 true (.tuple #[])).run Try.prog w = .ok (.pointer (some ⟨w.heap.size, 0, none⟩)) (w.alloc (.cells (cl .u8 (zs 16)).toArray 146)) := by kernel_rfl
theorem ld_node (b : Nat) (w : World) : (ldA 146 (.pointer (some ⟨b, 0, none⟩))).run Try.prog w = ldGot Try.prog 146 b 16 w (bk w b) := run_ldA (d := (Try.prog.underlying 146).get (by kernel_rfl)) (by kernel_rfl) (by kernel_rfl) (by kernel_rfl) b w
theorem st_node (b : Nat) (v : Array Value) (w : World) : (stA 146 (.pointer (some ⟨b, 0, none⟩)) (.agg v)).run Try.prog w = stGot Try.prog 146 b 16 (.agg v) w (bk w b) := run_stA (by kernel_rfl) b v w
theorem ret_node {fn : Func} {a : Act} {R : Ending → World → Prop} {w : World} {g p : Nat} {l : List Nat} {ty : TypeId} (h : fn.results = #[.cell p 146]) (hp : a.tmps.getD p undef = .pointer (some ⟨g, 0, none⟩)) (hb : blk w g (cl .u8 l) ty) (hl : l.length = 16) (hD : a.defers = []) (hR : R (.returned (agg .u8 l)) w) : bodyPost Try.prog fn R .ret a w := ret_cell (d := (Try.prog.underlying 146).get (by kernel_rfl)) h hp hb (by kernel_rfl) (by kernel_rfl) (by rw [cl_length, hl]; kernel_rfl) hD hR
theorem ret2_node {fn : Func} {a : Act} {R : Ending → World → Prop} {w : World} {g p q : Nat} {l : List Nat} {ty : TypeId} {v : Value} (h : fn.results = #[.cell p 146, .tmp q]) (hp : a.tmps.getD p undef = .pointer (some ⟨g, 0, none⟩)) (hq : a.tmps.getD q undef = v) (hb : blk w g (cl .u8 l) ty) (hl : l.length = 16) (hD : a.defers = []) (hR : R (.returned (.tuple #[agg .u8 l, v])) w) : bodyPost Try.prog fn R .ret a w := ret_cell2 (d := (Try.prog.underlying 146).get (by kernel_rfl)) h hp hq hb (by kernel_rfl) (by kernel_rfl) (by rw [cl_length, hl]; kernel_rfl) hD hR
theorem rd_eq_node (x y : Value) : binOp .eql 146 x y = eqA 146 x y := rfl
theorem rd_ne_node (x y : Value) : binOp .neq 146 x y = neA 146 x y := rfl
theorem eg_node (op : BinOp) (x y : Operand) (l m : List Nat) (w : World) : (eqGuard op 146 x y (agg .u8 l) (agg .u8 m)).run Try.prog w = .ok () w := Base.run_eqGuard_agg (by kernel_rfl)
theorem ok_node : EqOk Try.prog 10000 146 .u8 16 := eqOk_ints (e := 5) (inf := (Try.prog.info? 5).get (by kernel_rfl)) 9998 (by kernel_rfl) (by kernel_rfl) (by kernel_rfl) (by kernel_rfl)
theorem rd_ix_node (x i : Value) : Instr.index 146 x i = ixA 146 x i := rfl
theorem ix_node (l : List Nat) (ki : IntKind) (i : Int) (w : World) (hl : l.length = 16) (h0 : 0 ≤ i) (h1 : i < 16) : (ixA 146 (agg .u8 l) (.int ki i)).run Try.prog w = .ok (.int .u8 ((l.getD i.toNat 0 : Nat) : Int)) w := run_index_agg (e := 5) .u8 ki l i (by kernel_rfl) (by kernel_rfl) (by kernel_rfl) hl h0 h1
theorem eq_node (l m : List Nat) (w : World) (hl : l.length = 16) (hm : m.length = 16) : (eqA 146 (agg .u8 l) (agg .u8 m)).run Try.prog w = .ok (.bool (decide (l = m))) w := run_eql_agg ok_node hl hm
theorem ne_node (l m : List Nat) (w : World) (hl : l.length = 16) (hm : m.length = 16) : (neA 146 (agg .u8 l) (agg .u8 m)).run Try.prog w = .ok (.bool (!decide (l = m))) w := run_neq_agg ok_node hl hm
attribute [go_sem ↓ high] rd_ld_node rd_st_node rd_al_node rd_ix_node rd_eq_node rd_ne_node eg_node
attribute [go_sem] al_node ld_node st_node ix_node eq_node ne_node
theorem rd_ld_b64 (x : Value) : Instr.loadAt 170 x = ldA 170 x := rfl
theorem rd_st_b64 (x y : Value) : Instr.storeAt 170 x y = stA 170 x y := rfl
theorem rd_al_b64 (h : Bool) (o : Value) : Instr.alloc 170 h o = alA 170 h o := rfl
theorem al_b64 (w : World) : (alA 170 true (.tuple #[])).run Try.prog w = .ok (.pointer (some ⟨w.heap.size, 0, none⟩)) (w.alloc (.cells (cl .u8 (zs 64)).toArray 170)) := by kernel_rfl
theorem ld_b64 (b : Nat) (w : World) : (ldA 170 (.pointer (some ⟨b, 0, none⟩))).run Try.prog w = ldGot Try.prog 170 b 64 w (bk w b) := run_ldA (d := (Try.prog.underlying 170).get (by kernel_rfl)) (by kernel_rfl) (by kernel_rfl) (by kernel_rfl) b w
theorem st_b64 (b : Nat) (v : Array Value) (w : World) : (stA 170 (.pointer (some ⟨b, 0, none⟩)) (.agg v)).run Try.prog w = stGot Try.prog 170 b 64 (.agg v) w (bk w b) := run_stA (by kernel_rfl) b v w
theorem ret_b64 {fn : Func} {a : Act} {R : Ending → World → Prop} {w : World} {g p : Nat} {l : List Nat} {ty : TypeId} (h : fn.results = #[.cell p 170]) (hp : a.tmps.getD p undef = .pointer (some ⟨g, 0, none⟩)) (hb : blk w g (cl .u8 l) ty) (hl : l.length = 64) (hD : a.defers = []) (hR : R (.returned (agg .u8 l)) w) : bodyPost Try.prog fn R .ret a w := ret_cell (d := (Try.prog.underlying 170).get (by kernel_rfl)) h hp hb (by kernel_rfl) (by kernel_rfl) (by rw [cl_length, hl]; kernel_rfl) hD hR
theorem ret2_b64 {fn : Func} {a : Act} {R : Ending → World → Prop} {w : World} {g p q : Nat} {l : List Nat} {ty : TypeId} {v : Value} (h : fn.results = #[.cell p 170, .tmp q]) (hp : a.tmps.getD p undef = .pointer (some ⟨g, 0, none⟩)) (hq : a.tmps.getD q undef = v) (hb : blk w g (cl .u8 l) ty) (hl : l.length = 64) (hD : a.defers = []) (hR : R (.returned (.tuple #[agg .u8 l, v])) w) : bodyPost Try.prog fn R .ret a w := ret_cell2 (d := (Try.prog.underlying 170).get (by kernel_rfl)) h hp hq hb (by kernel_rfl) (by kernel_rfl) (by rw [cl_length, hl]; kernel_rfl) hD hR
theorem rd_eq_b64 (x y : Value) : binOp .eql 170 x y = eqA 170 x y := rfl
theorem rd_ne_b64 (x y : Value) : binOp .neq 170 x y = neA 170 x y := rfl
theorem eg_b64 (op : BinOp) (x y : Operand) (l m : List Nat) (w : World) : (eqGuard op 170 x y (agg .u8 l) (agg .u8 m)).run Try.prog w = .ok () w := Base.run_eqGuard_agg (by kernel_rfl)
theorem ok_b64 : EqOk Try.prog 10000 170 .u8 64 := eqOk_ints (e := 5) (inf := (Try.prog.info? 5).get (by kernel_rfl)) 9998 (by kernel_rfl) (by kernel_rfl) (by kernel_rfl) (by kernel_rfl)
theorem rd_ix_b64 (x i : Value) : Instr.index 170 x i = ixA 170 x i := rfl
theorem ix_b64 (l : List Nat) (ki : IntKind) (i : Int) (w : World) (hl : l.length = 64) (h0 : 0 ≤ i) (h1 : i < 64) : (ixA 170 (agg .u8 l) (.int ki i)).run Try.prog w = .ok (.int .u8 ((l.getD i.toNat 0 : Nat) : Int)) w := run_index_agg (e := 5) .u8 ki l i (by kernel_rfl) (by kernel_rfl) (by kernel_rfl) hl h0 h1
theorem eq_b64 (l m : List Nat) (w : World) (hl : l.length = 64) (hm : m.length = 64) : (eqA 170 (agg .u8 l) (agg .u8 m)).run Try.prog w = .ok (.bool (decide (l = m))) w := run_eql_agg ok_b64 hl hm
theorem ne_b64 (l m : List Nat) (w : World) (hl : l.length = 64) (hm : m.length = 64) : (neA 170 (agg .u8 l) (agg .u8 m)).run Try.prog w = .ok (.bool (!decide (l = m))) w := run_neq_agg ok_b64 hl hm
attribute [go_sem ↓ high] rd_ld_b64 rd_st_b64 rd_al_b64 rd_ix_b64 rd_eq_b64 rd_ne_b64 eg_b64
attribute [go_sem] al_b64 ld_b64 st_b64 ix_b64 eq_b64 ne_b64
end Go.Proofs.Ytlgpipdeckdmjaa.Types
