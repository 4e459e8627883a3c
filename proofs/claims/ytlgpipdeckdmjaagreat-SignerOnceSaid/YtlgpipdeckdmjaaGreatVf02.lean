/-
  Several texts laid into one (merge.py): Types.
-/
import Derived.Test.YtlgpipdeckdmjaaGreatProg
import Derived.Test.YtlgpipdeckdmjaaGreatVf01
/-
  The rules of the walk for the program's arrays: each is read, written, made, indexed, compared as a whole.
-/
set_option linter.unusedVariables false
set_option linter.unusedSimpArgs false
namespace Go.Proofs.YtlgpipdeckdmjaaGreat.Types
open Go.RowKit Base
theorem bk_setRow (w : World) (b g : Nat) (cs : Array Value) (h : b = g) : bk (w.setRow g cs) b = (bk w b).map fun _ => cs := by
  subst h
  unfold bk World.setRow
  simp only [Array.getElem?_modify, if_true]
  cases ho : w.heap[b]? with
  | none => rfl
  | some x =>
    cases x <;> try rfl
    rename_i c e f
    obtain ⟨f1, f2⟩ := f
    cases f1 <;> cases f2 <;> rfl
theorem setRow_alloc_past (w : World) (o : Obj) (g : Nat) (cs : Array Value) (h : g < w.heap.size) : (w.alloc o).setRow g cs = (w.setRow g cs).alloc o := by
  unfold World.setRow World.alloc
  congr 1
  apply Array.ext_getElem?
  intro k
  simp only [Array.getElem?_modify, Array.getElem?_push, Array.size_modify]
  by_cases hk : k = w.heap.size
  · subst hk
    simp [Nat.ne_of_lt h]
  · simp [hk]
attribute [go_sem ↓ high] cl_get cl_get'
attribute [go_sem] cl_getE
attribute [go_sem] stGot_agg Value.oneCell' bk_drew bk_drewN bk_alloc_at bk_alloc_past bk_setRow ldGot_some stGot_cl size_cl cl_set cl_length zs_length setRow_alloc_at setRow_alloc_past
theorem rd_ld_b16 (x : Value) : Instr.loadAt 23 x = ldA 23 x := rfl
theorem rd_st_b16 (x y : Value) : Instr.storeAt 23 x y = stA 23 x y := rfl
theorem rd_al_b16 (h : Bool) (o : Value) : Instr.alloc 23 h o = alA 23 h o := rfl
theorem al_b16 (w : World) : (alA 23 true (.tuple #[])).run Tryz.prog w = .ok (.pointer (some ⟨w.heap.size, 0, none⟩)) (w.alloc (.cells (cl .u8 (zs 16)).toArray 23)) := by kernel_rfl
theorem ld_b16 (b : Nat) (w : World) : (ldA 23 (.pointer (some ⟨b, 0, none⟩))).run Tryz.prog w = ldGot Tryz.prog 23 b 16 w (bk w b) := run_ldA (d := (Tryz.prog.underlying 23).get (by kernel_rfl)) (by kernel_rfl) (by kernel_rfl) (by kernel_rfl) b w
theorem st_b16 (b : Nat) (v : Array Value) (w : World) : (stA 23 (.pointer (some ⟨b, 0, none⟩)) (.agg v)).run Tryz.prog w = stGot Tryz.prog 23 b 16 (.agg v) w (bk w b) := run_stA (by kernel_rfl) b v w
theorem ret_b16 {fn : Func} {a : Act} {R : Ending → World → Prop} {w : World} {g p : Nat} {l : List Nat} {ty : TypeId} (h : fn.results = #[.cell p 23]) (hp : a.tmps.getD p undef = .pointer (some ⟨g, 0, none⟩)) (hb : blk w g (cl .u8 l) ty) (hl : l.length = 16) (hD : a.defers = []) (hR : R (.returned (agg .u8 l)) w) : bodyPost Tryz.prog fn R .ret a w := ret_cell (d := (Tryz.prog.underlying 23).get (by kernel_rfl)) h hp hb (by kernel_rfl) (by kernel_rfl) (by rw [cl_length, hl]; kernel_rfl) hD hR
theorem ret2_b16 {fn : Func} {a : Act} {R : Ending → World → Prop} {w : World} {g p q : Nat} {l : List Nat} {ty : TypeId} {v : Value} (h : fn.results = #[.cell p 23, .tmp q]) (hp : a.tmps.getD p undef = .pointer (some ⟨g, 0, none⟩)) (hq : a.tmps.getD q undef = v) (hb : blk w g (cl .u8 l) ty) (hl : l.length = 16) (hD : a.defers = []) (hR : R (.returned (.tuple #[agg .u8 l, v])) w) : bodyPost Tryz.prog fn R .ret a w := ret_cell2 (d := (Tryz.prog.underlying 23).get (by kernel_rfl)) h hp hq hb (by kernel_rfl) (by kernel_rfl) (by rw [cl_length, hl]; kernel_rfl) hD hR
theorem rd_eq_b16 (x y : Value) : binOp .eql 23 x y = eqA 23 x y := rfl
theorem rd_ne_b16 (x y : Value) : binOp .neq 23 x y = neA 23 x y := rfl
theorem eg_b16 (op : BinOp) (x y : Operand) (l m : List Nat) (w : World) : (eqGuard op 23 x y (agg .u8 l) (agg .u8 m)).run Tryz.prog w = .ok () w := Base.run_eqGuard_agg (by kernel_rfl)
theorem ok_b16 : EqOk Tryz.prog 10000 23 .u8 16 := eqOk_ints (e := 5) (inf := (Tryz.prog.info? 5).get (by kernel_rfl)) 9998 (by kernel_rfl) (by kernel_rfl) (by kernel_rfl) (by kernel_rfl)
theorem rd_ix_b16 (x i : Value) : Instr.index 23 x i = ixA 23 x i := rfl
theorem ix_b16 (l : List Nat) (ki : IntKind) (i : Int) (w : World) (hl : l.length = 16) (h0 : 0 ≤ i) (h1 : i < 16) : (ixA 23 (agg .u8 l) (.int ki i)).run Tryz.prog w = .ok (.int .u8 ((l.getD i.toNat 0 : Nat) : Int)) w := run_index_agg (e := 5) .u8 ki l i (by kernel_rfl) (by kernel_rfl) (by kernel_rfl) hl h0 h1
theorem eq_b16 (l m : List Nat) (w : World) (hl : l.length = 16) (hm : m.length = 16) : (eqA 23 (agg .u8 l) (agg .u8 m)).run Tryz.prog w = .ok (.bool (decide (l = m))) w := run_eql_agg ok_b16 hl hm
theorem ne_b16 (l m : List Nat) (w : World) (hl : l.length = 16) (hm : m.length = 16) : (neA 23 (agg .u8 l) (agg .u8 m)).run Tryz.prog w = .ok (.bool (!decide (l = m))) w := run_neq_agg ok_b16 hl hm
attribute [go_sem ↓ high] rd_ld_b16 rd_st_b16 rd_al_b16 rd_ix_b16 rd_eq_b16 rd_ne_b16 eg_b16
attribute [go_sem] al_b16 ld_b16 st_b16 ix_b16 eq_b16 ne_b16
theorem rd_ld_b32 (x : Value) : Instr.loadAt 22 x = ldA 22 x := rfl
theorem rd_st_b32 (x y : Value) : Instr.storeAt 22 x y = stA 22 x y := rfl
theorem rd_al_b32 (h : Bool) (o : Value) : Instr.alloc 22 h o = alA 22 h o := rfl
theorem al_b32 (w : World) : (alA 22 true (.tuple #[])).run Tryz.prog w = .ok (.pointer (some ⟨w.heap.size, 0, none⟩)) (w.alloc (.cells (cl .u8 (zs 32)).toArray 22)) := by kernel_rfl
theorem ld_b32 (b : Nat) (w : World) : (ldA 22 (.pointer (some ⟨b, 0, none⟩))).run Tryz.prog w = ldGot Tryz.prog 22 b 32 w (bk w b) := run_ldA (d := (Tryz.prog.underlying 22).get (by kernel_rfl)) (by kernel_rfl) (by kernel_rfl) (by kernel_rfl) b w
theorem st_b32 (b : Nat) (v : Array Value) (w : World) : (stA 22 (.pointer (some ⟨b, 0, none⟩)) (.agg v)).run Tryz.prog w = stGot Tryz.prog 22 b 32 (.agg v) w (bk w b) := run_stA (by kernel_rfl) b v w
theorem ret_b32 {fn : Func} {a : Act} {R : Ending → World → Prop} {w : World} {g p : Nat} {l : List Nat} {ty : TypeId} (h : fn.results = #[.cell p 22]) (hp : a.tmps.getD p undef = .pointer (some ⟨g, 0, none⟩)) (hb : blk w g (cl .u8 l) ty) (hl : l.length = 32) (hD : a.defers = []) (hR : R (.returned (agg .u8 l)) w) : bodyPost Tryz.prog fn R .ret a w := ret_cell (d := (Tryz.prog.underlying 22).get (by kernel_rfl)) h hp hb (by kernel_rfl) (by kernel_rfl) (by rw [cl_length, hl]; kernel_rfl) hD hR
theorem ret2_b32 {fn : Func} {a : Act} {R : Ending → World → Prop} {w : World} {g p q : Nat} {l : List Nat} {ty : TypeId} {v : Value} (h : fn.results = #[.cell p 22, .tmp q]) (hp : a.tmps.getD p undef = .pointer (some ⟨g, 0, none⟩)) (hq : a.tmps.getD q undef = v) (hb : blk w g (cl .u8 l) ty) (hl : l.length = 32) (hD : a.defers = []) (hR : R (.returned (.tuple #[agg .u8 l, v])) w) : bodyPost Tryz.prog fn R .ret a w := ret_cell2 (d := (Tryz.prog.underlying 22).get (by kernel_rfl)) h hp hq hb (by kernel_rfl) (by kernel_rfl) (by rw [cl_length, hl]; kernel_rfl) hD hR
theorem rd_eq_b32 (x y : Value) : binOp .eql 22 x y = eqA 22 x y := rfl
theorem rd_ne_b32 (x y : Value) : binOp .neq 22 x y = neA 22 x y := rfl
theorem eg_b32 (op : BinOp) (x y : Operand) (l m : List Nat) (w : World) : (eqGuard op 22 x y (agg .u8 l) (agg .u8 m)).run Tryz.prog w = .ok () w := Base.run_eqGuard_agg (by kernel_rfl)
theorem ok_b32 : EqOk Tryz.prog 10000 22 .u8 32 := eqOk_ints (e := 5) (inf := (Tryz.prog.info? 5).get (by kernel_rfl)) 9998 (by kernel_rfl) (by kernel_rfl) (by kernel_rfl) (by kernel_rfl)
theorem rd_ix_b32 (x i : Value) : Instr.index 22 x i = ixA 22 x i := rfl
theorem ix_b32 (l : List Nat) (ki : IntKind) (i : Int) (w : World) (hl : l.length = 32) (h0 : 0 ≤ i) (h1 : i < 32) : (ixA 22 (agg .u8 l) (.int ki i)).run Tryz.prog w = .ok (.int .u8 ((l.getD i.toNat 0 : Nat) : Int)) w := run_index_agg (e := 5) .u8 ki l i (by kernel_rfl) (by kernel_rfl) (by kernel_rfl) hl h0 h1
theorem eq_b32 (l m : List Nat) (w : World) (hl : l.length = 32) (hm : m.length = 32) : (eqA 22 (agg .u8 l) (agg .u8 m)).run Tryz.prog w = .ok (.bool (decide (l = m))) w := run_eql_agg ok_b32 hl hm
theorem ne_b32 (l m : List Nat) (w : World) (hl : l.length = 32) (hm : m.length = 32) : (neA 22 (agg .u8 l) (agg .u8 m)).run Tryz.prog w = .ok (.bool (!decide (l = m))) w := run_neq_agg ok_b32 hl hm
attribute [go_sem ↓ high] rd_ld_b32 rd_st_b32 rd_al_b32 rd_ix_b32 rd_eq_b32 rd_ne_b32 eg_b32
attribute [go_sem] al_b32 ld_b32 st_b32 ix_b32 eq_b32 ne_b32
theorem rd_ld_i35 (x : Value) : Instr.loadAt 87 x = ldA 87 x := rfl
theorem rd_st_i35 (x y : Value) : Instr.storeAt 87 x y = stA 87 x y := rfl
theorem rd_al_i35 (h : Bool) (o : Value) : Instr.alloc 87 h o = alA 87 h o := rfl
theorem al_i35 (w : World) : (alA 87 true (.tuple #[])).run Tryz.prog w = .ok (.pointer (some ⟨w.heap.size, 0, none⟩)) (w.alloc (.cells (cl .i64 (zs 35)).toArray 87)) := by kernel_rfl
theorem ld_i35 (b : Nat) (w : World) : (ldA 87 (.pointer (some ⟨b, 0, none⟩))).run Tryz.prog w = ldGot Tryz.prog 87 b 35 w (bk w b) := run_ldA (d := (Tryz.prog.underlying 87).get (by kernel_rfl)) (by kernel_rfl) (by kernel_rfl) (by kernel_rfl) b w
theorem st_i35 (b : Nat) (v : Array Value) (w : World) : (stA 87 (.pointer (some ⟨b, 0, none⟩)) (.agg v)).run Tryz.prog w = stGot Tryz.prog 87 b 35 (.agg v) w (bk w b) := run_stA (by kernel_rfl) b v w
theorem ret_i35 {fn : Func} {a : Act} {R : Ending → World → Prop} {w : World} {g p : Nat} {l : List Nat} {ty : TypeId} (h : fn.results = #[.cell p 87]) (hp : a.tmps.getD p undef = .pointer (some ⟨g, 0, none⟩)) (hb : blk w g (cl .i64 l) ty) (hl : l.length = 35) (hD : a.defers = []) (hR : R (.returned (agg .i64 l)) w) : bodyPost Tryz.prog fn R .ret a w := ret_cell (d := (Tryz.prog.underlying 87).get (by kernel_rfl)) h hp hb (by kernel_rfl) (by kernel_rfl) (by rw [cl_length, hl]; kernel_rfl) hD hR
theorem ret2_i35 {fn : Func} {a : Act} {R : Ending → World → Prop} {w : World} {g p q : Nat} {l : List Nat} {ty : TypeId} {v : Value} (h : fn.results = #[.cell p 87, .tmp q]) (hp : a.tmps.getD p undef = .pointer (some ⟨g, 0, none⟩)) (hq : a.tmps.getD q undef = v) (hb : blk w g (cl .i64 l) ty) (hl : l.length = 35) (hD : a.defers = []) (hR : R (.returned (.tuple #[agg .i64 l, v])) w) : bodyPost Tryz.prog fn R .ret a w := ret_cell2 (d := (Tryz.prog.underlying 87).get (by kernel_rfl)) h hp hq hb (by kernel_rfl) (by kernel_rfl) (by rw [cl_length, hl]; kernel_rfl) hD hR
theorem rd_eq_i35 (x y : Value) : binOp .eql 87 x y = eqA 87 x y := rfl
theorem rd_ne_i35 (x y : Value) : binOp .neq 87 x y = neA 87 x y := rfl
theorem eg_i35 (op : BinOp) (x y : Operand) (l m : List Nat) (w : World) : (eqGuard op 87 x y (agg .i64 l) (agg .i64 m)).run Tryz.prog w = .ok () w := Base.run_eqGuard_agg (by kernel_rfl)
theorem ok_i35 : EqOk Tryz.prog 10000 87 .i64 35 := eqOk_ints (e := 3) (inf := (Tryz.prog.info? 3).get (by kernel_rfl)) 9998 (by kernel_rfl) (by kernel_rfl) (by kernel_rfl) (by kernel_rfl)
theorem rd_ix_i35 (x i : Value) : Instr.index 87 x i = ixA 87 x i := rfl
theorem ix_i35 (l : List Nat) (ki : IntKind) (i : Int) (w : World) (hl : l.length = 35) (h0 : 0 ≤ i) (h1 : i < 35) : (ixA 87 (agg .i64 l) (.int ki i)).run Tryz.prog w = .ok (.int .i64 ((l.getD i.toNat 0 : Nat) : Int)) w := run_index_agg (e := 3) .i64 ki l i (by kernel_rfl) (by kernel_rfl) (by kernel_rfl) hl h0 h1
theorem eq_i35 (l m : List Nat) (w : World) (hl : l.length = 35) (hm : m.length = 35) : (eqA 87 (agg .i64 l) (agg .i64 m)).run Tryz.prog w = .ok (.bool (decide (l = m))) w := run_eql_agg ok_i35 hl hm
theorem ne_i35 (l m : List Nat) (w : World) (hl : l.length = 35) (hm : m.length = 35) : (neA 87 (agg .i64 l) (agg .i64 m)).run Tryz.prog w = .ok (.bool (!decide (l = m))) w := run_neq_agg ok_i35 hl hm
attribute [go_sem ↓ high] rd_ld_i35 rd_st_i35 rd_al_i35 rd_ix_i35 rd_eq_i35 rd_ne_i35 eg_i35
attribute [go_sem] al_i35 ld_i35 st_i35 ix_i35 eq_i35 ne_i35
theorem rd_ld_bs (x : Value) : Instr.loadAt 28 x = ldA 28 x := rfl
theorem rd_st_bs (x y : Value) : Instr.storeAt 28 x y = stA 28 x y := rfl
theorem rd_al_bs (h : Bool) (o : Value) : Instr.alloc 28 h o = alA 28 h o := rfl
theorem al_bs (w : World) : (alA 28 true (.tuple #[])).run Tryz.prog w = .ok (.pointer (some ⟨w.heap.size, 0, none⟩)) (w.alloc (.cells (cl .u8 (zs 560)).toArray 28)) := by kernel_rfl
theorem ld_bs (b : Nat) (w : World) : (ldA 28 (.pointer (some ⟨b, 0, none⟩))).run Tryz.prog w = ldGot Tryz.prog 28 b 560 w (bk w b) := run_ldA (d := (Tryz.prog.underlying 28).get (by kernel_rfl)) (by kernel_rfl) (by kernel_rfl) (by kernel_rfl) b w
theorem st_bs (b : Nat) (v : Array Value) (w : World) : (stA 28 (.pointer (some ⟨b, 0, none⟩)) (.agg v)).run Tryz.prog w = stGot Tryz.prog 28 b 560 (.agg v) w (bk w b) := run_stA (by kernel_rfl) b v w
theorem ret_bs {fn : Func} {a : Act} {R : Ending → World → Prop} {w : World} {g p : Nat} {l : List Nat} {ty : TypeId} (h : fn.results = #[.cell p 28]) (hp : a.tmps.getD p undef = .pointer (some ⟨g, 0, none⟩)) (hb : blk w g (cl .u8 l) ty) (hl : l.length = 560) (hD : a.defers = []) (hR : R (.returned (agg .u8 l)) w) : bodyPost Tryz.prog fn R .ret a w := ret_cell (d := (Tryz.prog.underlying 28).get (by kernel_rfl)) h hp hb (by kernel_rfl) (by kernel_rfl) (by rw [cl_length, hl]; kernel_rfl) hD hR
theorem ret2_bs {fn : Func} {a : Act} {R : Ending → World → Prop} {w : World} {g p q : Nat} {l : List Nat} {ty : TypeId} {v : Value} (h : fn.results = #[.cell p 28, .tmp q]) (hp : a.tmps.getD p undef = .pointer (some ⟨g, 0, none⟩)) (hq : a.tmps.getD q undef = v) (hb : blk w g (cl .u8 l) ty) (hl : l.length = 560) (hD : a.defers = []) (hR : R (.returned (.tuple #[agg .u8 l, v])) w) : bodyPost Tryz.prog fn R .ret a w := ret_cell2 (d := (Tryz.prog.underlying 28).get (by kernel_rfl)) h hp hq hb (by kernel_rfl) (by kernel_rfl) (by rw [cl_length, hl]; kernel_rfl) hD hR
theorem rd_eq_bs (x y : Value) : binOp .eql 28 x y = eqA 28 x y := rfl
theorem rd_ne_bs (x y : Value) : binOp .neq 28 x y = neA 28 x y := rfl
theorem eg_bs (op : BinOp) (x y : Operand) (l m : List Nat) (w : World) : (eqGuard op 28 x y (agg .u8 l) (agg .u8 m)).run Tryz.prog w = .ok () w := Base.run_eqGuard_agg (by kernel_rfl)
theorem ok_bs : EqOk Tryz.prog 10000 28 .u8 560 := eqOk_arrays (e := 23) (n := 35) (m := 16) (inf := (Tryz.prog.info? 23).get (by kernel_rfl)) (de := (Tryz.prog.underlying 23).get (by kernel_rfl)) 9999 (by kernel_rfl) (by kernel_rfl) (by kernel_rfl) (by kernel_rfl) (by kernel_rfl) (eqOk_ints (e := 5) (inf := (Tryz.prog.info? 5).get (by kernel_rfl)) 9997 (by kernel_rfl) (by kernel_rfl) (by kernel_rfl) (by kernel_rfl))
theorem eq_bs (l m : List Nat) (w : World) (hl : l.length = 560) (hm : m.length = 560) : (eqA 28 (agg .u8 l) (agg .u8 m)).run Tryz.prog w = .ok (.bool (decide (l = m))) w := run_eql_agg ok_bs hl hm
theorem ne_bs (l m : List Nat) (w : World) (hl : l.length = 560) (hm : m.length = 560) : (neA 28 (agg .u8 l) (agg .u8 m)).run Tryz.prog w = .ok (.bool (!decide (l = m))) w := run_neq_agg ok_bs hl hm
attribute [go_sem ↓ high] rd_ld_bs rd_st_bs rd_al_bs rd_eq_bs rd_ne_bs eg_bs
attribute [go_sem] al_bs ld_bs st_bs eq_bs ne_bs
theorem rd_ld_sig (x : Value) : Instr.loadAt 74 x = ldA 74 x := rfl
theorem rd_st_sig (x y : Value) : Instr.storeAt 74 x y = stA 74 x y := rfl
theorem rd_al_sig (h : Bool) (o : Value) : Instr.alloc 74 h o = alA 74 h o := rfl
theorem al_sig (w : World) : (alA 74 true (.tuple #[])).run Tryz.prog w = .ok (.pointer (some ⟨w.heap.size, 0, none⟩)) (w.alloc (.cells (cl .u8 (zs 560)).toArray 74)) := by kernel_rfl
theorem ld_sig (b : Nat) (w : World) : (ldA 74 (.pointer (some ⟨b, 0, none⟩))).run Tryz.prog w = ldGot Tryz.prog 74 b 560 w (bk w b) := run_ldA (d := (Tryz.prog.underlying 74).get (by kernel_rfl)) (by kernel_rfl) (by kernel_rfl) (by kernel_rfl) b w
theorem st_sig (b : Nat) (v : Array Value) (w : World) : (stA 74 (.pointer (some ⟨b, 0, none⟩)) (.agg v)).run Tryz.prog w = stGot Tryz.prog 74 b 560 (.agg v) w (bk w b) := run_stA (by kernel_rfl) b v w
theorem ret_sig {fn : Func} {a : Act} {R : Ending → World → Prop} {w : World} {g p : Nat} {l : List Nat} {ty : TypeId} (h : fn.results = #[.cell p 74]) (hp : a.tmps.getD p undef = .pointer (some ⟨g, 0, none⟩)) (hb : blk w g (cl .u8 l) ty) (hl : l.length = 560) (hD : a.defers = []) (hR : R (.returned (agg .u8 l)) w) : bodyPost Tryz.prog fn R .ret a w := ret_cell (d := (Tryz.prog.underlying 74).get (by kernel_rfl)) h hp hb (by kernel_rfl) (by kernel_rfl) (by rw [cl_length, hl]; kernel_rfl) hD hR
theorem ret2_sig {fn : Func} {a : Act} {R : Ending → World → Prop} {w : World} {g p q : Nat} {l : List Nat} {ty : TypeId} {v : Value} (h : fn.results = #[.cell p 74, .tmp q]) (hp : a.tmps.getD p undef = .pointer (some ⟨g, 0, none⟩)) (hq : a.tmps.getD q undef = v) (hb : blk w g (cl .u8 l) ty) (hl : l.length = 560) (hD : a.defers = []) (hR : R (.returned (.tuple #[agg .u8 l, v])) w) : bodyPost Tryz.prog fn R .ret a w := ret_cell2 (d := (Tryz.prog.underlying 74).get (by kernel_rfl)) h hp hq hb (by kernel_rfl) (by kernel_rfl) (by rw [cl_length, hl]; kernel_rfl) hD hR
theorem rd_eq_sig (x y : Value) : binOp .eql 74 x y = eqA 74 x y := rfl
theorem rd_ne_sig (x y : Value) : binOp .neq 74 x y = neA 74 x y := rfl
theorem eg_sig (op : BinOp) (x y : Operand) (l m : List Nat) (w : World) : (eqGuard op 74 x y (agg .u8 l) (agg .u8 m)).run Tryz.prog w = .ok () w := Base.run_eqGuard_agg (by kernel_rfl)
theorem ok_sig : EqOk Tryz.prog 10000 74 .u8 560 := eqOk_arrays (e := 23) (n := 35) (m := 16) (inf := (Tryz.prog.info? 23).get (by kernel_rfl)) (de := (Tryz.prog.underlying 23).get (by kernel_rfl)) 9999 (by kernel_rfl) (by kernel_rfl) (by kernel_rfl) (by kernel_rfl) (by kernel_rfl) (eqOk_ints (e := 5) (inf := (Tryz.prog.info? 5).get (by kernel_rfl)) 9997 (by kernel_rfl) (by kernel_rfl) (by kernel_rfl) (by kernel_rfl))
theorem eq_sig (l m : List Nat) (w : World) (hl : l.length = 560) (hm : m.length = 560) : (eqA 74 (agg .u8 l) (agg .u8 m)).run Tryz.prog w = .ok (.bool (decide (l = m))) w := run_eql_agg ok_sig hl hm
theorem ne_sig (l m : List Nat) (w : World) (hl : l.length = 560) (hm : m.length = 560) : (neA 74 (agg .u8 l) (agg .u8 m)).run Tryz.prog w = .ok (.bool (!decide (l = m))) w := run_neq_agg ok_sig hl hm
attribute [go_sem ↓ high] rd_ld_sig rd_st_sig rd_al_sig rd_eq_sig rd_ne_sig eg_sig
attribute [go_sem] al_sig ld_sig st_sig eq_sig ne_sig
theorem rd_ld_rv (x : Value) : Instr.loadAt 84 x = ldA 84 x := rfl
theorem rd_st_rv (x y : Value) : Instr.storeAt 84 x y = stA 84 x y := rfl
theorem rd_al_rv (h : Bool) (o : Value) : Instr.alloc 84 h o = alA 84 h o := rfl
theorem al_rv (w : World) : (alA 84 true (.tuple #[])).run Tryz.prog w = .ok (.pointer (some ⟨w.heap.size, 0, none⟩)) (w.alloc (.cells (cl .u8 (zs 16)).toArray 84)) := by kernel_rfl
theorem ld_rv (b : Nat) (w : World) : (ldA 84 (.pointer (some ⟨b, 0, none⟩))).run Tryz.prog w = ldGot Tryz.prog 84 b 16 w (bk w b) := run_ldA (d := (Tryz.prog.underlying 84).get (by kernel_rfl)) (by kernel_rfl) (by kernel_rfl) (by kernel_rfl) b w
theorem st_rv (b : Nat) (v : Array Value) (w : World) : (stA 84 (.pointer (some ⟨b, 0, none⟩)) (.agg v)).run Tryz.prog w = stGot Tryz.prog 84 b 16 (.agg v) w (bk w b) := run_stA (by kernel_rfl) b v w
theorem ret_rv {fn : Func} {a : Act} {R : Ending → World → Prop} {w : World} {g p : Nat} {l : List Nat} {ty : TypeId} (h : fn.results = #[.cell p 84]) (hp : a.tmps.getD p undef = .pointer (some ⟨g, 0, none⟩)) (hb : blk w g (cl .u8 l) ty) (hl : l.length = 16) (hD : a.defers = []) (hR : R (.returned (agg .u8 l)) w) : bodyPost Tryz.prog fn R .ret a w := ret_cell (d := (Tryz.prog.underlying 84).get (by kernel_rfl)) h hp hb (by kernel_rfl) (by kernel_rfl) (by rw [cl_length, hl]; kernel_rfl) hD hR
theorem ret2_rv {fn : Func} {a : Act} {R : Ending → World → Prop} {w : World} {g p q : Nat} {l : List Nat} {ty : TypeId} {v : Value} (h : fn.results = #[.cell p 84, .tmp q]) (hp : a.tmps.getD p undef = .pointer (some ⟨g, 0, none⟩)) (hq : a.tmps.getD q undef = v) (hb : blk w g (cl .u8 l) ty) (hl : l.length = 16) (hD : a.defers = []) (hR : R (.returned (.tuple #[agg .u8 l, v])) w) : bodyPost Tryz.prog fn R .ret a w := ret_cell2 (d := (Tryz.prog.underlying 84).get (by kernel_rfl)) h hp hq hb (by kernel_rfl) (by kernel_rfl) (by rw [cl_length, hl]; kernel_rfl) hD hR
theorem rd_eq_rv (x y : Value) : binOp .eql 84 x y = eqA 84 x y := rfl
theorem rd_ne_rv (x y : Value) : binOp .neq 84 x y = neA 84 x y := rfl
theorem eg_rv (op : BinOp) (x y : Operand) (l m : List Nat) (w : World) : (eqGuard op 84 x y (agg .u8 l) (agg .u8 m)).run Tryz.prog w = .ok () w := Base.run_eqGuard_agg (by kernel_rfl)
theorem ok_rv : EqOk Tryz.prog 10000 84 .u8 16 := eqOk_ints (e := 5) (inf := (Tryz.prog.info? 5).get (by kernel_rfl)) 9998 (by kernel_rfl) (by kernel_rfl) (by kernel_rfl) (by kernel_rfl)
theorem rd_ix_rv (x i : Value) : Instr.index 84 x i = ixA 84 x i := rfl
theorem ix_rv (l : List Nat) (ki : IntKind) (i : Int) (w : World) (hl : l.length = 16) (h0 : 0 ≤ i) (h1 : i < 16) : (ixA 84 (agg .u8 l) (.int ki i)).run Tryz.prog w = .ok (.int .u8 ((l.getD i.toNat 0 : Nat) : Int)) w := run_index_agg (e := 5) .u8 ki l i (by kernel_rfl) (by kernel_rfl) (by kernel_rfl) hl h0 h1
theorem eq_rv (l m : List Nat) (w : World) (hl : l.length = 16) (hm : m.length = 16) : (eqA 84 (agg .u8 l) (agg .u8 m)).run Tryz.prog w = .ok (.bool (decide (l = m))) w := run_eql_agg ok_rv hl hm
theorem ne_rv (l m : List Nat) (w : World) (hl : l.length = 16) (hm : m.length = 16) : (neA 84 (agg .u8 l) (agg .u8 m)).run Tryz.prog w = .ok (.bool (!decide (l = m))) w := run_neq_agg ok_rv hl hm
attribute [go_sem ↓ high] rd_ld_rv rd_st_rv rd_al_rv rd_ix_rv rd_eq_rv rd_ne_rv eg_rv
attribute [go_sem] al_rv ld_rv st_rv ix_rv eq_rv ne_rv
theorem rd_ld_rvs (x : Value) : Instr.loadAt 85 x = ldA 85 x := rfl
theorem rd_st_rvs (x y : Value) : Instr.storeAt 85 x y = stA 85 x y := rfl
theorem rd_al_rvs (h : Bool) (o : Value) : Instr.alloc 85 h o = alA 85 h o := rfl
theorem al_rvs (w : World) : (alA 85 true (.tuple #[])).run Tryz.prog w = .ok (.pointer (some ⟨w.heap.size, 0, none⟩)) (w.alloc (.cells (cl .u8 (zs 560)).toArray 85)) := by kernel_rfl
theorem ld_rvs (b : Nat) (w : World) : (ldA 85 (.pointer (some ⟨b, 0, none⟩))).run Tryz.prog w = ldGot Tryz.prog 85 b 560 w (bk w b) := run_ldA (d := (Tryz.prog.underlying 85).get (by kernel_rfl)) (by kernel_rfl) (by kernel_rfl) (by kernel_rfl) b w
theorem st_rvs (b : Nat) (v : Array Value) (w : World) : (stA 85 (.pointer (some ⟨b, 0, none⟩)) (.agg v)).run Tryz.prog w = stGot Tryz.prog 85 b 560 (.agg v) w (bk w b) := run_stA (by kernel_rfl) b v w
theorem ret_rvs {fn : Func} {a : Act} {R : Ending → World → Prop} {w : World} {g p : Nat} {l : List Nat} {ty : TypeId} (h : fn.results = #[.cell p 85]) (hp : a.tmps.getD p undef = .pointer (some ⟨g, 0, none⟩)) (hb : blk w g (cl .u8 l) ty) (hl : l.length = 560) (hD : a.defers = []) (hR : R (.returned (agg .u8 l)) w) : bodyPost Tryz.prog fn R .ret a w := ret_cell (d := (Tryz.prog.underlying 85).get (by kernel_rfl)) h hp hb (by kernel_rfl) (by kernel_rfl) (by rw [cl_length, hl]; kernel_rfl) hD hR
theorem ret2_rvs {fn : Func} {a : Act} {R : Ending → World → Prop} {w : World} {g p q : Nat} {l : List Nat} {ty : TypeId} {v : Value} (h : fn.results = #[.cell p 85, .tmp q]) (hp : a.tmps.getD p undef = .pointer (some ⟨g, 0, none⟩)) (hq : a.tmps.getD q undef = v) (hb : blk w g (cl .u8 l) ty) (hl : l.length = 560) (hD : a.defers = []) (hR : R (.returned (.tuple #[agg .u8 l, v])) w) : bodyPost Tryz.prog fn R .ret a w := ret_cell2 (d := (Tryz.prog.underlying 85).get (by kernel_rfl)) h hp hq hb (by kernel_rfl) (by kernel_rfl) (by rw [cl_length, hl]; kernel_rfl) hD hR
theorem rd_eq_rvs (x y : Value) : binOp .eql 85 x y = eqA 85 x y := rfl
theorem rd_ne_rvs (x y : Value) : binOp .neq 85 x y = neA 85 x y := rfl
theorem eg_rvs (op : BinOp) (x y : Operand) (l m : List Nat) (w : World) : (eqGuard op 85 x y (agg .u8 l) (agg .u8 m)).run Tryz.prog w = .ok () w := Base.run_eqGuard_agg (by kernel_rfl)
theorem ok_rvs : EqOk Tryz.prog 10000 85 .u8 560 := eqOk_arrays (e := 84) (n := 35) (m := 16) (inf := (Tryz.prog.info? 84).get (by kernel_rfl)) (de := (Tryz.prog.underlying 84).get (by kernel_rfl)) 9999 (by kernel_rfl) (by kernel_rfl) (by kernel_rfl) (by kernel_rfl) (by kernel_rfl) (eqOk_ints (e := 5) (inf := (Tryz.prog.info? 5).get (by kernel_rfl)) 9997 (by kernel_rfl) (by kernel_rfl) (by kernel_rfl) (by kernel_rfl))
theorem eq_rvs (l m : List Nat) (w : World) (hl : l.length = 560) (hm : m.length = 560) : (eqA 85 (agg .u8 l) (agg .u8 m)).run Tryz.prog w = .ok (.bool (decide (l = m))) w := run_eql_agg ok_rvs hl hm
theorem ne_rvs (l m : List Nat) (w : World) (hl : l.length = 560) (hm : m.length = 560) : (neA 85 (agg .u8 l) (agg .u8 m)).run Tryz.prog w = .ok (.bool (!decide (l = m))) w := run_neq_agg ok_rvs hl hm
attribute [go_sem ↓ high] rd_ld_rvs rd_st_rvs rd_al_rvs rd_eq_rvs rd_ne_rvs eg_rvs
attribute [go_sem] al_rvs ld_rvs st_rvs eq_rvs ne_rvs
theorem rd_ld_half (x : Value) : Instr.loadAt 100 x = ldA 100 x := rfl
theorem rd_st_half (x y : Value) : Instr.storeAt 100 x y = stA 100 x y := rfl
theorem rd_al_half (h : Bool) (o : Value) : Instr.alloc 100 h o = alA 100 h o := rfl
theorem al_half (w : World) : (alA 100 true (.tuple #[])).run Tryz.prog w = .ok (.pointer (some ⟨w.heap.size, 0, none⟩)) (w.alloc (.cells (cl .u8 (zs 16)).toArray 100)) := by kernel_rfl
theorem ld_half (b : Nat) (w : World) : (ldA 100 (.pointer (some ⟨b, 0, none⟩))).run Tryz.prog w = ldGot Tryz.prog 100 b 16 w (bk w b) := run_ldA (d := (Tryz.prog.underlying 100).get (by kernel_rfl)) (by kernel_rfl) (by kernel_rfl) (by kernel_rfl) b w
theorem st_half (b : Nat) (v : Array Value) (w : World) : (stA 100 (.pointer (some ⟨b, 0, none⟩)) (.agg v)).run Tryz.prog w = stGot Tryz.prog 100 b 16 (.agg v) w (bk w b) := run_stA (by kernel_rfl) b v w
theorem ret_half {fn : Func} {a : Act} {R : Ending → World → Prop} {w : World} {g p : Nat} {l : List Nat} {ty : TypeId} (h : fn.results = #[.cell p 100]) (hp : a.tmps.getD p undef = .pointer (some ⟨g, 0, none⟩)) (hb : blk w g (cl .u8 l) ty) (hl : l.length = 16) (hD : a.defers = []) (hR : R (.returned (agg .u8 l)) w) : bodyPost Tryz.prog fn R .ret a w := ret_cell (d := (Tryz.prog.underlying 100).get (by kernel_rfl)) h hp hb (by kernel_rfl) (by kernel_rfl) (by rw [cl_length, hl]; kernel_rfl) hD hR
theorem ret2_half {fn : Func} {a : Act} {R : Ending → World → Prop} {w : World} {g p q : Nat} {l : List Nat} {ty : TypeId} {v : Value} (h : fn.results = #[.cell p 100, .tmp q]) (hp : a.tmps.getD p undef = .pointer (some ⟨g, 0, none⟩)) (hq : a.tmps.getD q undef = v) (hb : blk w g (cl .u8 l) ty) (hl : l.length = 16) (hD : a.defers = []) (hR : R (.returned (.tuple #[agg .u8 l, v])) w) : bodyPost Tryz.prog fn R .ret a w := ret_cell2 (d := (Tryz.prog.underlying 100).get (by kernel_rfl)) h hp hq hb (by kernel_rfl) (by kernel_rfl) (by rw [cl_length, hl]; kernel_rfl) hD hR
theorem rd_eq_half (x y : Value) : binOp .eql 100 x y = eqA 100 x y := rfl
theorem rd_ne_half (x y : Value) : binOp .neq 100 x y = neA 100 x y := rfl
theorem eg_half (op : BinOp) (x y : Operand) (l m : List Nat) (w : World) : (eqGuard op 100 x y (agg .u8 l) (agg .u8 m)).run Tryz.prog w = .ok () w := Base.run_eqGuard_agg (by kernel_rfl)
theorem ok_half : EqOk Tryz.prog 10000 100 .u8 16 := eqOk_ints (e := 5) (inf := (Tryz.prog.info? 5).get (by kernel_rfl)) 9998 (by kernel_rfl) (by kernel_rfl) (by kernel_rfl) (by kernel_rfl)
theorem rd_ix_half (x i : Value) : Instr.index 100 x i = ixA 100 x i := rfl
theorem ix_half (l : List Nat) (ki : IntKind) (i : Int) (w : World) (hl : l.length = 16) (h0 : 0 ≤ i) (h1 : i < 16) : (ixA 100 (agg .u8 l) (.int ki i)).run Tryz.prog w = .ok (.int .u8 ((l.getD i.toNat 0 : Nat) : Int)) w := run_index_agg (e := 5) .u8 ki l i (by kernel_rfl) (by kernel_rfl) (by kernel_rfl) hl h0 h1
theorem eq_half (l m : List Nat) (w : World) (hl : l.length = 16) (hm : m.length = 16) : (eqA 100 (agg .u8 l) (agg .u8 m)).run Tryz.prog w = .ok (.bool (decide (l = m))) w := run_eql_agg ok_half hl hm
theorem ne_half (l m : List Nat) (w : World) (hl : l.length = 16) (hm : m.length = 16) : (neA 100 (agg .u8 l) (agg .u8 m)).run Tryz.prog w = .ok (.bool (!decide (l = m))) w := run_neq_agg ok_half hl hm
attribute [go_sem ↓ high] rd_ld_half rd_st_half rd_al_half rd_ix_half rd_eq_half rd_ne_half eg_half
attribute [go_sem] al_half ld_half st_half ix_half eq_half ne_half
theorem rd_ld_dig (x : Value) : Instr.loadAt 137 x = ldA 137 x := rfl
theorem rd_st_dig (x y : Value) : Instr.storeAt 137 x y = stA 137 x y := rfl
theorem rd_al_dig (h : Bool) (o : Value) : Instr.alloc 137 h o = alA 137 h o := rfl
theorem al_dig (w : World) : (alA 137 true (.tuple #[])).run Tryz.prog w = .ok (.pointer (some ⟨w.heap.size, 0, none⟩)) (w.alloc (.cells (cl .u8 (zs 32)).toArray 137)) := by kernel_rfl
theorem ld_dig (b : Nat) (w : World) : (ldA 137 (.pointer (some ⟨b, 0, none⟩))).run Tryz.prog w = ldGot Tryz.prog 137 b 32 w (bk w b) := run_ldA (d := (Tryz.prog.underlying 137).get (by kernel_rfl)) (by kernel_rfl) (by kernel_rfl) (by kernel_rfl) b w
theorem st_dig (b : Nat) (v : Array Value) (w : World) : (stA 137 (.pointer (some ⟨b, 0, none⟩)) (.agg v)).run Tryz.prog w = stGot Tryz.prog 137 b 32 (.agg v) w (bk w b) := run_stA (by kernel_rfl) b v w
theorem ret_dig {fn : Func} {a : Act} {R : Ending → World → Prop} {w : World} {g p : Nat} {l : List Nat} {ty : TypeId} (h : fn.results = #[.cell p 137]) (hp : a.tmps.getD p undef = .pointer (some ⟨g, 0, none⟩)) (hb : blk w g (cl .u8 l) ty) (hl : l.length = 32) (hD : a.defers = []) (hR : R (.returned (agg .u8 l)) w) : bodyPost Tryz.prog fn R .ret a w := ret_cell (d := (Tryz.prog.underlying 137).get (by kernel_rfl)) h hp hb (by kernel_rfl) (by kernel_rfl) (by rw [cl_length, hl]; kernel_rfl) hD hR
theorem ret2_dig {fn : Func} {a : Act} {R : Ending → World → Prop} {w : World} {g p q : Nat} {l : List Nat} {ty : TypeId} {v : Value} (h : fn.results = #[.cell p 137, .tmp q]) (hp : a.tmps.getD p undef = .pointer (some ⟨g, 0, none⟩)) (hq : a.tmps.getD q undef = v) (hb : blk w g (cl .u8 l) ty) (hl : l.length = 32) (hD : a.defers = []) (hR : R (.returned (.tuple #[agg .u8 l, v])) w) : bodyPost Tryz.prog fn R .ret a w := ret_cell2 (d := (Tryz.prog.underlying 137).get (by kernel_rfl)) h hp hq hb (by kernel_rfl) (by kernel_rfl) (by rw [cl_length, hl]; kernel_rfl) hD hR
theorem rd_eq_dig (x y : Value) : binOp .eql 137 x y = eqA 137 x y := rfl
theorem rd_ne_dig (x y : Value) : binOp .neq 137 x y = neA 137 x y := rfl
theorem eg_dig (op : BinOp) (x y : Operand) (l m : List Nat) (w : World) : (eqGuard op 137 x y (agg .u8 l) (agg .u8 m)).run Tryz.prog w = .ok () w := Base.run_eqGuard_agg (by kernel_rfl)
theorem ok_dig : EqOk Tryz.prog 10000 137 .u8 32 := eqOk_ints (e := 5) (inf := (Tryz.prog.info? 5).get (by kernel_rfl)) 9998 (by kernel_rfl) (by kernel_rfl) (by kernel_rfl) (by kernel_rfl)
theorem rd_ix_dig (x i : Value) : Instr.index 137 x i = ixA 137 x i := rfl
theorem ix_dig (l : List Nat) (ki : IntKind) (i : Int) (w : World) (hl : l.length = 32) (h0 : 0 ≤ i) (h1 : i < 32) : (ixA 137 (agg .u8 l) (.int ki i)).run Tryz.prog w = .ok (.int .u8 ((l.getD i.toNat 0 : Nat) : Int)) w := run_index_agg (e := 5) .u8 ki l i (by kernel_rfl) (by kernel_rfl) (by kernel_rfl) hl h0 h1
theorem eq_dig (l m : List Nat) (w : World) (hl : l.length = 32) (hm : m.length = 32) : (eqA 137 (agg .u8 l) (agg .u8 m)).run Tryz.prog w = .ok (.bool (decide (l = m))) w := run_eql_agg ok_dig hl hm
theorem ne_dig (l m : List Nat) (w : World) (hl : l.length = 32) (hm : m.length = 32) : (neA 137 (agg .u8 l) (agg .u8 m)).run Tryz.prog w = .ok (.bool (!decide (l = m))) w := run_neq_agg ok_dig hl hm
attribute [go_sem ↓ high] rd_ld_dig rd_st_dig rd_al_dig rd_ix_dig rd_eq_dig rd_ne_dig eg_dig
attribute [go_sem] al_dig ld_dig st_dig ix_dig eq_dig ne_dig
theorem rd_ld_words (x : Value) : Instr.loadAt 174 x = ldA 174 x := rfl
theorem rd_st_words (x y : Value) : Instr.storeAt 174 x y = stA 174 x y := rfl
theorem rd_al_words (h : Bool) (o : Value) : Instr.alloc 174 h o = alA 174 h o := rfl
theorem al_words (w : World) : (alA 174 true (.tuple #[])).run Tryz.prog w = .ok (.pointer (some ⟨w.heap.size, 0, none⟩)) (w.alloc (.cells (cl .u32 (zs 8)).toArray 174)) := by kernel_rfl
theorem ld_words (b : Nat) (w : World) : (ldA 174 (.pointer (some ⟨b, 0, none⟩))).run Tryz.prog w = ldGot Tryz.prog 174 b 8 w (bk w b) := run_ldA (d := (Tryz.prog.underlying 174).get (by kernel_rfl)) (by kernel_rfl) (by kernel_rfl) (by kernel_rfl) b w
theorem st_words (b : Nat) (v : Array Value) (w : World) : (stA 174 (.pointer (some ⟨b, 0, none⟩)) (.agg v)).run Tryz.prog w = stGot Tryz.prog 174 b 8 (.agg v) w (bk w b) := run_stA (by kernel_rfl) b v w
theorem ret_words {fn : Func} {a : Act} {R : Ending → World → Prop} {w : World} {g p : Nat} {l : List Nat} {ty : TypeId} (h : fn.results = #[.cell p 174]) (hp : a.tmps.getD p undef = .pointer (some ⟨g, 0, none⟩)) (hb : blk w g (cl .u32 l) ty) (hl : l.length = 8) (hD : a.defers = []) (hR : R (.returned (agg .u32 l)) w) : bodyPost Tryz.prog fn R .ret a w := ret_cell (d := (Tryz.prog.underlying 174).get (by kernel_rfl)) h hp hb (by kernel_rfl) (by kernel_rfl) (by rw [cl_length, hl]; kernel_rfl) hD hR
theorem ret2_words {fn : Func} {a : Act} {R : Ending → World → Prop} {w : World} {g p q : Nat} {l : List Nat} {ty : TypeId} {v : Value} (h : fn.results = #[.cell p 174, .tmp q]) (hp : a.tmps.getD p undef = .pointer (some ⟨g, 0, none⟩)) (hq : a.tmps.getD q undef = v) (hb : blk w g (cl .u32 l) ty) (hl : l.length = 8) (hD : a.defers = []) (hR : R (.returned (.tuple #[agg .u32 l, v])) w) : bodyPost Tryz.prog fn R .ret a w := ret_cell2 (d := (Tryz.prog.underlying 174).get (by kernel_rfl)) h hp hq hb (by kernel_rfl) (by kernel_rfl) (by rw [cl_length, hl]; kernel_rfl) hD hR
attribute [go_sem ↓ high] rd_ld_words rd_st_words rd_al_words
attribute [go_sem] al_words ld_words st_words
theorem rd_ld_block (x : Value) : Instr.loadAt 185 x = ldA 185 x := rfl
theorem rd_st_block (x y : Value) : Instr.storeAt 185 x y = stA 185 x y := rfl
theorem rd_al_block (h : Bool) (o : Value) : Instr.alloc 185 h o = alA 185 h o := rfl
theorem al_block (w : World) : (alA 185 true (.tuple #[])).run Tryz.prog w = .ok (.pointer (some ⟨w.heap.size, 0, none⟩)) (w.alloc (.cells (cl .u32 (zs 16)).toArray 185)) := by kernel_rfl
theorem ld_block (b : Nat) (w : World) : (ldA 185 (.pointer (some ⟨b, 0, none⟩))).run Tryz.prog w = ldGot Tryz.prog 185 b 16 w (bk w b) := run_ldA (d := (Tryz.prog.underlying 185).get (by kernel_rfl)) (by kernel_rfl) (by kernel_rfl) (by kernel_rfl) b w
theorem st_block (b : Nat) (v : Array Value) (w : World) : (stA 185 (.pointer (some ⟨b, 0, none⟩)) (.agg v)).run Tryz.prog w = stGot Tryz.prog 185 b 16 (.agg v) w (bk w b) := run_stA (by kernel_rfl) b v w
theorem ret_block {fn : Func} {a : Act} {R : Ending → World → Prop} {w : World} {g p : Nat} {l : List Nat} {ty : TypeId} (h : fn.results = #[.cell p 185]) (hp : a.tmps.getD p undef = .pointer (some ⟨g, 0, none⟩)) (hb : blk w g (cl .u32 l) ty) (hl : l.length = 16) (hD : a.defers = []) (hR : R (.returned (agg .u32 l)) w) : bodyPost Tryz.prog fn R .ret a w := ret_cell (d := (Tryz.prog.underlying 185).get (by kernel_rfl)) h hp hb (by kernel_rfl) (by kernel_rfl) (by rw [cl_length, hl]; kernel_rfl) hD hR
theorem ret2_block {fn : Func} {a : Act} {R : Ending → World → Prop} {w : World} {g p q : Nat} {l : List Nat} {ty : TypeId} {v : Value} (h : fn.results = #[.cell p 185, .tmp q]) (hp : a.tmps.getD p undef = .pointer (some ⟨g, 0, none⟩)) (hq : a.tmps.getD q undef = v) (hb : blk w g (cl .u32 l) ty) (hl : l.length = 16) (hD : a.defers = []) (hR : R (.returned (.tuple #[agg .u32 l, v])) w) : bodyPost Tryz.prog fn R .ret a w := ret_cell2 (d := (Tryz.prog.underlying 185).get (by kernel_rfl)) h hp hq hb (by kernel_rfl) (by kernel_rfl) (by rw [cl_length, hl]; kernel_rfl) hD hR
theorem rd_eq_block (x y : Value) : binOp .eql 185 x y = eqA 185 x y := rfl
theorem rd_ne_block (x y : Value) : binOp .neq 185 x y = neA 185 x y := rfl
theorem eg_block (op : BinOp) (x y : Operand) (l m : List Nat) (w : World) : (eqGuard op 185 x y (agg .u32 l) (agg .u32 m)).run Tryz.prog w = .ok () w := Base.run_eqGuard_agg (by kernel_rfl)
theorem ok_block : EqOk Tryz.prog 10000 185 .u32 16 := eqOk_ints (e := 133) (inf := (Tryz.prog.info? 133).get (by kernel_rfl)) 9998 (by kernel_rfl) (by kernel_rfl) (by kernel_rfl) (by kernel_rfl)
theorem rd_ix_block (x i : Value) : Instr.index 185 x i = ixA 185 x i := rfl
theorem ix_block (l : List Nat) (ki : IntKind) (i : Int) (w : World) (hl : l.length = 16) (h0 : 0 ≤ i) (h1 : i < 16) : (ixA 185 (agg .u32 l) (.int ki i)).run Tryz.prog w = .ok (.int .u32 ((l.getD i.toNat 0 : Nat) : Int)) w := run_index_agg (e := 133) .u32 ki l i (by kernel_rfl) (by kernel_rfl) (by kernel_rfl) hl h0 h1
theorem eq_block (l m : List Nat) (w : World) (hl : l.length = 16) (hm : m.length = 16) : (eqA 185 (agg .u32 l) (agg .u32 m)).run Tryz.prog w = .ok (.bool (decide (l = m))) w := run_eql_agg ok_block hl hm
theorem ne_block (l m : List Nat) (w : World) (hl : l.length = 16) (hm : m.length = 16) : (neA 185 (agg .u32 l) (agg .u32 m)).run Tryz.prog w = .ok (.bool (!decide (l = m))) w := run_neq_agg ok_block hl hm
attribute [go_sem ↓ high] rd_ld_block rd_st_block rd_al_block rd_ix_block rd_eq_block rd_ne_block eg_block
attribute [go_sem] al_block ld_block st_block ix_block eq_block ne_block
theorem rd_ld_w64 (x : Value) : Instr.loadAt 157 x = ldA 157 x := rfl
theorem rd_st_w64 (x y : Value) : Instr.storeAt 157 x y = stA 157 x y := rfl
theorem rd_al_w64 (h : Bool) (o : Value) : Instr.alloc 157 h o = alA 157 h o := rfl
theorem al_w64 (w : World) : (alA 157 true (.tuple #[])).run Tryz.prog w = .ok (.pointer (some ⟨w.heap.size, 0, none⟩)) (w.alloc (.cells (cl .u32 (zs 64)).toArray 157)) := by kernel_rfl
theorem ld_w64 (b : Nat) (w : World) : (ldA 157 (.pointer (some ⟨b, 0, none⟩))).run Tryz.prog w = ldGot Tryz.prog 157 b 64 w (bk w b) := run_ldA (d := (Tryz.prog.underlying 157).get (by kernel_rfl)) (by kernel_rfl) (by kernel_rfl) (by kernel_rfl) b w
theorem st_w64 (b : Nat) (v : Array Value) (w : World) : (stA 157 (.pointer (some ⟨b, 0, none⟩)) (.agg v)).run Tryz.prog w = stGot Tryz.prog 157 b 64 (.agg v) w (bk w b) := run_stA (by kernel_rfl) b v w
theorem ret_w64 {fn : Func} {a : Act} {R : Ending → World → Prop} {w : World} {g p : Nat} {l : List Nat} {ty : TypeId} (h : fn.results = #[.cell p 157]) (hp : a.tmps.getD p undef = .pointer (some ⟨g, 0, none⟩)) (hb : blk w g (cl .u32 l) ty) (hl : l.length = 64) (hD : a.defers = []) (hR : R (.returned (agg .u32 l)) w) : bodyPost Tryz.prog fn R .ret a w := ret_cell (d := (Tryz.prog.underlying 157).get (by kernel_rfl)) h hp hb (by kernel_rfl) (by kernel_rfl) (by rw [cl_length, hl]; kernel_rfl) hD hR
theorem ret2_w64 {fn : Func} {a : Act} {R : Ending → World → Prop} {w : World} {g p q : Nat} {l : List Nat} {ty : TypeId} {v : Value} (h : fn.results = #[.cell p 157, .tmp q]) (hp : a.tmps.getD p undef = .pointer (some ⟨g, 0, none⟩)) (hq : a.tmps.getD q undef = v) (hb : blk w g (cl .u32 l) ty) (hl : l.length = 64) (hD : a.defers = []) (hR : R (.returned (.tuple #[agg .u32 l, v])) w) : bodyPost Tryz.prog fn R .ret a w := ret_cell2 (d := (Tryz.prog.underlying 157).get (by kernel_rfl)) h hp hq hb (by kernel_rfl) (by kernel_rfl) (by rw [cl_length, hl]; kernel_rfl) hD hR
theorem rd_bl_w64 (x : Array (Nat × Value)) : Instr.build 157 x = blA 157 x := rfl
theorem rd_eq_w64 (x y : Value) : binOp .eql 157 x y = eqA 157 x y := rfl
theorem rd_ne_w64 (x y : Value) : binOp .neq 157 x y = neA 157 x y := rfl
theorem eg_w64 (op : BinOp) (x y : Operand) (l m : List Nat) (w : World) : (eqGuard op 157 x y (agg .u32 l) (agg .u32 m)).run Tryz.prog w = .ok () w := Base.run_eqGuard_agg (by kernel_rfl)
theorem ok_w64 : EqOk Tryz.prog 10000 157 .u32 64 := eqOk_ints (e := 133) (inf := (Tryz.prog.info? 133).get (by kernel_rfl)) 9998 (by kernel_rfl) (by kernel_rfl) (by kernel_rfl) (by kernel_rfl)
theorem rd_ix_w64 (x i : Value) : Instr.index 157 x i = ixA 157 x i := rfl
theorem ix_w64 (l : List Nat) (ki : IntKind) (i : Int) (w : World) (hl : l.length = 64) (h0 : 0 ≤ i) (h1 : i < 64) : (ixA 157 (agg .u32 l) (.int ki i)).run Tryz.prog w = .ok (.int .u32 ((l.getD i.toNat 0 : Nat) : Int)) w := run_index_agg (e := 133) .u32 ki l i (by kernel_rfl) (by kernel_rfl) (by kernel_rfl) hl h0 h1
theorem eq_w64 (l m : List Nat) (w : World) (hl : l.length = 64) (hm : m.length = 64) : (eqA 157 (agg .u32 l) (agg .u32 m)).run Tryz.prog w = .ok (.bool (decide (l = m))) w := run_eql_agg ok_w64 hl hm
theorem ne_w64 (l m : List Nat) (w : World) (hl : l.length = 64) (hm : m.length = 64) : (neA 157 (agg .u32 l) (agg .u32 m)).run Tryz.prog w = .ok (.bool (!decide (l = m))) w := run_neq_agg ok_w64 hl hm
attribute [go_sem ↓ high] rd_ld_w64 rd_st_w64 rd_al_w64 rd_bl_w64 rd_ix_w64 rd_eq_w64 rd_ne_w64 eg_w64
attribute [go_sem] al_w64 ld_w64 st_w64 ix_w64 eq_w64 ne_w64
theorem rd_ld_w8 (x : Value) : Instr.loadAt 156 x = ldA 156 x := rfl
theorem rd_st_w8 (x y : Value) : Instr.storeAt 156 x y = stA 156 x y := rfl
theorem rd_al_w8 (h : Bool) (o : Value) : Instr.alloc 156 h o = alA 156 h o := rfl
theorem al_w8 (w : World) : (alA 156 true (.tuple #[])).run Tryz.prog w = .ok (.pointer (some ⟨w.heap.size, 0, none⟩)) (w.alloc (.cells (cl .u32 (zs 8)).toArray 156)) := by kernel_rfl
theorem ld_w8 (b : Nat) (w : World) : (ldA 156 (.pointer (some ⟨b, 0, none⟩))).run Tryz.prog w = ldGot Tryz.prog 156 b 8 w (bk w b) := run_ldA (d := (Tryz.prog.underlying 156).get (by kernel_rfl)) (by kernel_rfl) (by kernel_rfl) (by kernel_rfl) b w
theorem st_w8 (b : Nat) (v : Array Value) (w : World) : (stA 156 (.pointer (some ⟨b, 0, none⟩)) (.agg v)).run Tryz.prog w = stGot Tryz.prog 156 b 8 (.agg v) w (bk w b) := run_stA (by kernel_rfl) b v w
theorem ret_w8 {fn : Func} {a : Act} {R : Ending → World → Prop} {w : World} {g p : Nat} {l : List Nat} {ty : TypeId} (h : fn.results = #[.cell p 156]) (hp : a.tmps.getD p undef = .pointer (some ⟨g, 0, none⟩)) (hb : blk w g (cl .u32 l) ty) (hl : l.length = 8) (hD : a.defers = []) (hR : R (.returned (agg .u32 l)) w) : bodyPost Tryz.prog fn R .ret a w := ret_cell (d := (Tryz.prog.underlying 156).get (by kernel_rfl)) h hp hb (by kernel_rfl) (by kernel_rfl) (by rw [cl_length, hl]; kernel_rfl) hD hR
theorem ret2_w8 {fn : Func} {a : Act} {R : Ending → World → Prop} {w : World} {g p q : Nat} {l : List Nat} {ty : TypeId} {v : Value} (h : fn.results = #[.cell p 156, .tmp q]) (hp : a.tmps.getD p undef = .pointer (some ⟨g, 0, none⟩)) (hq : a.tmps.getD q undef = v) (hb : blk w g (cl .u32 l) ty) (hl : l.length = 8) (hD : a.defers = []) (hR : R (.returned (.tuple #[agg .u32 l, v])) w) : bodyPost Tryz.prog fn R .ret a w := ret_cell2 (d := (Tryz.prog.underlying 156).get (by kernel_rfl)) h hp hq hb (by kernel_rfl) (by kernel_rfl) (by rw [cl_length, hl]; kernel_rfl) hD hR
theorem rd_eq_w8 (x y : Value) : binOp .eql 156 x y = eqA 156 x y := rfl
theorem rd_ne_w8 (x y : Value) : binOp .neq 156 x y = neA 156 x y := rfl
theorem eg_w8 (op : BinOp) (x y : Operand) (l m : List Nat) (w : World) : (eqGuard op 156 x y (agg .u32 l) (agg .u32 m)).run Tryz.prog w = .ok () w := Base.run_eqGuard_agg (by kernel_rfl)
theorem ok_w8 : EqOk Tryz.prog 10000 156 .u32 8 := eqOk_ints (e := 133) (inf := (Tryz.prog.info? 133).get (by kernel_rfl)) 9998 (by kernel_rfl) (by kernel_rfl) (by kernel_rfl) (by kernel_rfl)
theorem rd_ix_w8 (x i : Value) : Instr.index 156 x i = ixA 156 x i := rfl
theorem ix_w8 (l : List Nat) (ki : IntKind) (i : Int) (w : World) (hl : l.length = 8) (h0 : 0 ≤ i) (h1 : i < 8) : (ixA 156 (agg .u32 l) (.int ki i)).run Tryz.prog w = .ok (.int .u32 ((l.getD i.toNat 0 : Nat) : Int)) w := run_index_agg (e := 133) .u32 ki l i (by kernel_rfl) (by kernel_rfl) (by kernel_rfl) hl h0 h1
theorem eq_w8 (l m : List Nat) (w : World) (hl : l.length = 8) (hm : m.length = 8) : (eqA 156 (agg .u32 l) (agg .u32 m)).run Tryz.prog w = .ok (.bool (decide (l = m))) w := run_eql_agg ok_w8 hl hm
theorem ne_w8 (l m : List Nat) (w : World) (hl : l.length = 8) (hm : m.length = 8) : (neA 156 (agg .u32 l) (agg .u32 m)).run Tryz.prog w = .ok (.bool (!decide (l = m))) w := run_neq_agg ok_w8 hl hm
attribute [go_sem ↓ high] rd_ld_w8 rd_st_w8 rd_al_w8 rd_ix_w8 rd_eq_w8 rd_ne_w8 eg_w8
attribute [go_sem] al_w8 ld_w8 st_w8 ix_w8 eq_w8 ne_w8
theorem rd_ld_node (x : Value) : Instr.loadAt 81 x = ldA 81 x := rfl
theorem rd_st_node (x y : Value) : Instr.storeAt 81 x y = stA 81 x y := rfl
theorem rd_al_node (h : Bool) (o : Value) : Instr.alloc 81 h o = alA 81 h o := rfl
theorem al_node (w : World) : (alA 81 true (.tuple #[])).run Tryz.prog w = .ok (.pointer (some ⟨w.heap.size, 0, none⟩)) (w.alloc (.cells (cl .u8 (zs 16)).toArray 81)) := by kernel_rfl
theorem ld_node (b : Nat) (w : World) : (ldA 81 (.pointer (some ⟨b, 0, none⟩))).run Tryz.prog w = ldGot Tryz.prog 81 b 16 w (bk w b) := run_ldA (d := (Tryz.prog.underlying 81).get (by kernel_rfl)) (by kernel_rfl) (by kernel_rfl) (by kernel_rfl) b w
theorem st_node (b : Nat) (v : Array Value) (w : World) : (stA 81 (.pointer (some ⟨b, 0, none⟩)) (.agg v)).run Tryz.prog w = stGot Tryz.prog 81 b 16 (.agg v) w (bk w b) := run_stA (by kernel_rfl) b v w
theorem ret_node {fn : Func} {a : Act} {R : Ending → World → Prop} {w : World} {g p : Nat} {l : List Nat} {ty : TypeId} (h : fn.results = #[.cell p 81]) (hp : a.tmps.getD p undef = .pointer (some ⟨g, 0, none⟩)) (hb : blk w g (cl .u8 l) ty) (hl : l.length = 16) (hD : a.defers = []) (hR : R (.returned (agg .u8 l)) w) : bodyPost Tryz.prog fn R .ret a w := ret_cell (d := (Tryz.prog.underlying 81).get (by kernel_rfl)) h hp hb (by kernel_rfl) (by kernel_rfl) (by rw [cl_length, hl]; kernel_rfl) hD hR
theorem ret2_node {fn : Func} {a : Act} {R : Ending → World → Prop} {w : World} {g p q : Nat} {l : List Nat} {ty : TypeId} {v : Value} (h : fn.results = #[.cell p 81, .tmp q]) (hp : a.tmps.getD p undef = .pointer (some ⟨g, 0, none⟩)) (hq : a.tmps.getD q undef = v) (hb : blk w g (cl .u8 l) ty) (hl : l.length = 16) (hD : a.defers = []) (hR : R (.returned (.tuple #[agg .u8 l, v])) w) : bodyPost Tryz.prog fn R .ret a w := ret_cell2 (d := (Tryz.prog.underlying 81).get (by kernel_rfl)) h hp hq hb (by kernel_rfl) (by kernel_rfl) (by rw [cl_length, hl]; kernel_rfl) hD hR
theorem rd_eq_node (x y : Value) : binOp .eql 81 x y = eqA 81 x y := rfl
theorem rd_ne_node (x y : Value) : binOp .neq 81 x y = neA 81 x y := rfl
theorem eg_node (op : BinOp) (x y : Operand) (l m : List Nat) (w : World) : (eqGuard op 81 x y (agg .u8 l) (agg .u8 m)).run Tryz.prog w = .ok () w := Base.run_eqGuard_agg (by kernel_rfl)
theorem ok_node : EqOk Tryz.prog 10000 81 .u8 16 := eqOk_ints (e := 5) (inf := (Tryz.prog.info? 5).get (by kernel_rfl)) 9998 (by kernel_rfl) (by kernel_rfl) (by kernel_rfl) (by kernel_rfl)
theorem rd_ix_node (x i : Value) : Instr.index 81 x i = ixA 81 x i := rfl
theorem ix_node (l : List Nat) (ki : IntKind) (i : Int) (w : World) (hl : l.length = 16) (h0 : 0 ≤ i) (h1 : i < 16) : (ixA 81 (agg .u8 l) (.int ki i)).run Tryz.prog w = .ok (.int .u8 ((l.getD i.toNat 0 : Nat) : Int)) w := run_index_agg (e := 5) .u8 ki l i (by kernel_rfl) (by kernel_rfl) (by kernel_rfl) hl h0 h1
theorem eq_node (l m : List Nat) (w : World) (hl : l.length = 16) (hm : m.length = 16) : (eqA 81 (agg .u8 l) (agg .u8 m)).run Tryz.prog w = .ok (.bool (decide (l = m))) w := run_eql_agg ok_node hl hm
theorem ne_node (l m : List Nat) (w : World) (hl : l.length = 16) (hm : m.length = 16) : (neA 81 (agg .u8 l) (agg .u8 m)).run Tryz.prog w = .ok (.bool (!decide (l = m))) w := run_neq_agg ok_node hl hm
attribute [go_sem ↓ high] rd_ld_node rd_st_node rd_al_node rd_ix_node rd_eq_node rd_ne_node eg_node
attribute [go_sem] al_node ld_node st_node ix_node eq_node ne_node
theorem rd_ld_rn (x : Value) : Instr.loadAt 93 x = ldA 93 x := rfl
theorem rd_st_rn (x y : Value) : Instr.storeAt 93 x y = stA 93 x y := rfl
theorem rd_al_rn (h : Bool) (o : Value) : Instr.alloc 93 h o = alA 93 h o := rfl
theorem al_rn (w : World) : (alA 93 true (.tuple #[])).run Tryz.prog w = .ok (.pointer (some ⟨w.heap.size, 0, none⟩)) (w.alloc (.cells (cl .u8 (zs 16)).toArray 93)) := by kernel_rfl
theorem ld_rn (b : Nat) (w : World) : (ldA 93 (.pointer (some ⟨b, 0, none⟩))).run Tryz.prog w = ldGot Tryz.prog 93 b 16 w (bk w b) := run_ldA (d := (Tryz.prog.underlying 93).get (by kernel_rfl)) (by kernel_rfl) (by kernel_rfl) (by kernel_rfl) b w
theorem st_rn (b : Nat) (v : Array Value) (w : World) : (stA 93 (.pointer (some ⟨b, 0, none⟩)) (.agg v)).run Tryz.prog w = stGot Tryz.prog 93 b 16 (.agg v) w (bk w b) := run_stA (by kernel_rfl) b v w
theorem ret_rn {fn : Func} {a : Act} {R : Ending → World → Prop} {w : World} {g p : Nat} {l : List Nat} {ty : TypeId} (h : fn.results = #[.cell p 93]) (hp : a.tmps.getD p undef = .pointer (some ⟨g, 0, none⟩)) (hb : blk w g (cl .u8 l) ty) (hl : l.length = 16) (hD : a.defers = []) (hR : R (.returned (agg .u8 l)) w) : bodyPost Tryz.prog fn R .ret a w := ret_cell (d := (Tryz.prog.underlying 93).get (by kernel_rfl)) h hp hb (by kernel_rfl) (by kernel_rfl) (by rw [cl_length, hl]; kernel_rfl) hD hR
theorem ret2_rn {fn : Func} {a : Act} {R : Ending → World → Prop} {w : World} {g p q : Nat} {l : List Nat} {ty : TypeId} {v : Value} (h : fn.results = #[.cell p 93, .tmp q]) (hp : a.tmps.getD p undef = .pointer (some ⟨g, 0, none⟩)) (hq : a.tmps.getD q undef = v) (hb : blk w g (cl .u8 l) ty) (hl : l.length = 16) (hD : a.defers = []) (hR : R (.returned (.tuple #[agg .u8 l, v])) w) : bodyPost Tryz.prog fn R .ret a w := ret_cell2 (d := (Tryz.prog.underlying 93).get (by kernel_rfl)) h hp hq hb (by kernel_rfl) (by kernel_rfl) (by rw [cl_length, hl]; kernel_rfl) hD hR
theorem rd_eq_rn (x y : Value) : binOp .eql 93 x y = eqA 93 x y := rfl
theorem rd_ne_rn (x y : Value) : binOp .neq 93 x y = neA 93 x y := rfl
theorem eg_rn (op : BinOp) (x y : Operand) (l m : List Nat) (w : World) : (eqGuard op 93 x y (agg .u8 l) (agg .u8 m)).run Tryz.prog w = .ok () w := Base.run_eqGuard_agg (by kernel_rfl)
theorem ok_rn : EqOk Tryz.prog 10000 93 .u8 16 := eqOk_ints (e := 5) (inf := (Tryz.prog.info? 5).get (by kernel_rfl)) 9998 (by kernel_rfl) (by kernel_rfl) (by kernel_rfl) (by kernel_rfl)
theorem rd_ix_rn (x i : Value) : Instr.index 93 x i = ixA 93 x i := rfl
theorem ix_rn (l : List Nat) (ki : IntKind) (i : Int) (w : World) (hl : l.length = 16) (h0 : 0 ≤ i) (h1 : i < 16) : (ixA 93 (agg .u8 l) (.int ki i)).run Tryz.prog w = .ok (.int .u8 ((l.getD i.toNat 0 : Nat) : Int)) w := run_index_agg (e := 5) .u8 ki l i (by kernel_rfl) (by kernel_rfl) (by kernel_rfl) hl h0 h1
theorem eq_rn (l m : List Nat) (w : World) (hl : l.length = 16) (hm : m.length = 16) : (eqA 93 (agg .u8 l) (agg .u8 m)).run Tryz.prog w = .ok (.bool (decide (l = m))) w := run_eql_agg ok_rn hl hm
theorem ne_rn (l m : List Nat) (w : World) (hl : l.length = 16) (hm : m.length = 16) : (neA 93 (agg .u8 l) (agg .u8 m)).run Tryz.prog w = .ok (.bool (!decide (l = m))) w := run_neq_agg ok_rn hl hm
attribute [go_sem ↓ high] rd_ld_rn rd_st_rn rd_al_rn rd_ix_rn rd_eq_rn rd_ne_rn eg_rn
attribute [go_sem] al_rn ld_rn st_rn ix_rn eq_rn ne_rn
theorem rd_ld_author (x : Value) : Instr.loadAt 54 x = ldA 54 x := rfl
theorem rd_st_author (x y : Value) : Instr.storeAt 54 x y = stA 54 x y := rfl
theorem rd_al_author (h : Bool) (o : Value) : Instr.alloc 54 h o = alA 54 h o := rfl
theorem al_author (w : World) : (alA 54 true (.tuple #[])).run Tryz.prog w = .ok (.pointer (some ⟨w.heap.size, 0, none⟩)) (w.alloc (.cells (cl .u8 (zs 16)).toArray 54)) := by kernel_rfl
theorem ld_author (b : Nat) (w : World) : (ldA 54 (.pointer (some ⟨b, 0, none⟩))).run Tryz.prog w = ldGot Tryz.prog 54 b 16 w (bk w b) := run_ldA (d := (Tryz.prog.underlying 54).get (by kernel_rfl)) (by kernel_rfl) (by kernel_rfl) (by kernel_rfl) b w
theorem st_author (b : Nat) (v : Array Value) (w : World) : (stA 54 (.pointer (some ⟨b, 0, none⟩)) (.agg v)).run Tryz.prog w = stGot Tryz.prog 54 b 16 (.agg v) w (bk w b) := run_stA (by kernel_rfl) b v w
theorem ret_author {fn : Func} {a : Act} {R : Ending → World → Prop} {w : World} {g p : Nat} {l : List Nat} {ty : TypeId} (h : fn.results = #[.cell p 54]) (hp : a.tmps.getD p undef = .pointer (some ⟨g, 0, none⟩)) (hb : blk w g (cl .u8 l) ty) (hl : l.length = 16) (hD : a.defers = []) (hR : R (.returned (agg .u8 l)) w) : bodyPost Tryz.prog fn R .ret a w := ret_cell (d := (Tryz.prog.underlying 54).get (by kernel_rfl)) h hp hb (by kernel_rfl) (by kernel_rfl) (by rw [cl_length, hl]; kernel_rfl) hD hR
theorem ret2_author {fn : Func} {a : Act} {R : Ending → World → Prop} {w : World} {g p q : Nat} {l : List Nat} {ty : TypeId} {v : Value} (h : fn.results = #[.cell p 54, .tmp q]) (hp : a.tmps.getD p undef = .pointer (some ⟨g, 0, none⟩)) (hq : a.tmps.getD q undef = v) (hb : blk w g (cl .u8 l) ty) (hl : l.length = 16) (hD : a.defers = []) (hR : R (.returned (.tuple #[agg .u8 l, v])) w) : bodyPost Tryz.prog fn R .ret a w := ret_cell2 (d := (Tryz.prog.underlying 54).get (by kernel_rfl)) h hp hq hb (by kernel_rfl) (by kernel_rfl) (by rw [cl_length, hl]; kernel_rfl) hD hR
theorem rd_eq_author (x y : Value) : binOp .eql 54 x y = eqA 54 x y := rfl
theorem rd_ne_author (x y : Value) : binOp .neq 54 x y = neA 54 x y := rfl
theorem eg_author (op : BinOp) (x y : Operand) (l m : List Nat) (w : World) : (eqGuard op 54 x y (agg .u8 l) (agg .u8 m)).run Tryz.prog w = .ok () w := Base.run_eqGuard_agg (by kernel_rfl)
theorem ok_author : EqOk Tryz.prog 10000 54 .u8 16 := eqOk_ints (e := 5) (inf := (Tryz.prog.info? 5).get (by kernel_rfl)) 9998 (by kernel_rfl) (by kernel_rfl) (by kernel_rfl) (by kernel_rfl)
theorem rd_ix_author (x i : Value) : Instr.index 54 x i = ixA 54 x i := rfl
theorem ix_author (l : List Nat) (ki : IntKind) (i : Int) (w : World) (hl : l.length = 16) (h0 : 0 ≤ i) (h1 : i < 16) : (ixA 54 (agg .u8 l) (.int ki i)).run Tryz.prog w = .ok (.int .u8 ((l.getD i.toNat 0 : Nat) : Int)) w := run_index_agg (e := 5) .u8 ki l i (by kernel_rfl) (by kernel_rfl) (by kernel_rfl) hl h0 h1
theorem eq_author (l m : List Nat) (w : World) (hl : l.length = 16) (hm : m.length = 16) : (eqA 54 (agg .u8 l) (agg .u8 m)).run Tryz.prog w = .ok (.bool (decide (l = m))) w := run_eql_agg ok_author hl hm
theorem ne_author (l m : List Nat) (w : World) (hl : l.length = 16) (hm : m.length = 16) : (neA 54 (agg .u8 l) (agg .u8 m)).run Tryz.prog w = .ok (.bool (!decide (l = m))) w := run_neq_agg ok_author hl hm
attribute [go_sem ↓ high] rd_ld_author rd_st_author rd_al_author rd_ix_author rd_eq_author rd_ne_author eg_author
attribute [go_sem] al_author ld_author st_author ix_author eq_author ne_author
theorem rd_ld_b64 (x : Value) : Instr.loadAt 162 x = ldA 162 x := rfl
theorem rd_st_b64 (x y : Value) : Instr.storeAt 162 x y = stA 162 x y := rfl
theorem rd_al_b64 (h : Bool) (o : Value) : Instr.alloc 162 h o = alA 162 h o := rfl
theorem al_b64 (w : World) : (alA 162 true (.tuple #[])).run Tryz.prog w = .ok (.pointer (some ⟨w.heap.size, 0, none⟩)) (w.alloc (.cells (cl .u8 (zs 64)).toArray 162)) := by kernel_rfl
theorem ld_b64 (b : Nat) (w : World) : (ldA 162 (.pointer (some ⟨b, 0, none⟩))).run Tryz.prog w = ldGot Tryz.prog 162 b 64 w (bk w b) := run_ldA (d := (Tryz.prog.underlying 162).get (by kernel_rfl)) (by kernel_rfl) (by kernel_rfl) (by kernel_rfl) b w
theorem st_b64 (b : Nat) (v : Array Value) (w : World) : (stA 162 (.pointer (some ⟨b, 0, none⟩)) (.agg v)).run Tryz.prog w = stGot Tryz.prog 162 b 64 (.agg v) w (bk w b) := run_stA (by kernel_rfl) b v w
theorem ret_b64 {fn : Func} {a : Act} {R : Ending → World → Prop} {w : World} {g p : Nat} {l : List Nat} {ty : TypeId} (h : fn.results = #[.cell p 162]) (hp : a.tmps.getD p undef = .pointer (some ⟨g, 0, none⟩)) (hb : blk w g (cl .u8 l) ty) (hl : l.length = 64) (hD : a.defers = []) (hR : R (.returned (agg .u8 l)) w) : bodyPost Tryz.prog fn R .ret a w := ret_cell (d := (Tryz.prog.underlying 162).get (by kernel_rfl)) h hp hb (by kernel_rfl) (by kernel_rfl) (by rw [cl_length, hl]; kernel_rfl) hD hR
theorem ret2_b64 {fn : Func} {a : Act} {R : Ending → World → Prop} {w : World} {g p q : Nat} {l : List Nat} {ty : TypeId} {v : Value} (h : fn.results = #[.cell p 162, .tmp q]) (hp : a.tmps.getD p undef = .pointer (some ⟨g, 0, none⟩)) (hq : a.tmps.getD q undef = v) (hb : blk w g (cl .u8 l) ty) (hl : l.length = 64) (hD : a.defers = []) (hR : R (.returned (.tuple #[agg .u8 l, v])) w) : bodyPost Tryz.prog fn R .ret a w := ret_cell2 (d := (Tryz.prog.underlying 162).get (by kernel_rfl)) h hp hq hb (by kernel_rfl) (by kernel_rfl) (by rw [cl_length, hl]; kernel_rfl) hD hR
theorem rd_eq_b64 (x y : Value) : binOp .eql 162 x y = eqA 162 x y := rfl
theorem rd_ne_b64 (x y : Value) : binOp .neq 162 x y = neA 162 x y := rfl
theorem eg_b64 (op : BinOp) (x y : Operand) (l m : List Nat) (w : World) : (eqGuard op 162 x y (agg .u8 l) (agg .u8 m)).run Tryz.prog w = .ok () w := Base.run_eqGuard_agg (by kernel_rfl)
theorem ok_b64 : EqOk Tryz.prog 10000 162 .u8 64 := eqOk_ints (e := 5) (inf := (Tryz.prog.info? 5).get (by kernel_rfl)) 9998 (by kernel_rfl) (by kernel_rfl) (by kernel_rfl) (by kernel_rfl)
theorem rd_ix_b64 (x i : Value) : Instr.index 162 x i = ixA 162 x i := rfl
theorem ix_b64 (l : List Nat) (ki : IntKind) (i : Int) (w : World) (hl : l.length = 64) (h0 : 0 ≤ i) (h1 : i < 64) : (ixA 162 (agg .u8 l) (.int ki i)).run Tryz.prog w = .ok (.int .u8 ((l.getD i.toNat 0 : Nat) : Int)) w := run_index_agg (e := 5) .u8 ki l i (by kernel_rfl) (by kernel_rfl) (by kernel_rfl) hl h0 h1
theorem eq_b64 (l m : List Nat) (w : World) (hl : l.length = 64) (hm : m.length = 64) : (eqA 162 (agg .u8 l) (agg .u8 m)).run Tryz.prog w = .ok (.bool (decide (l = m))) w := run_eql_agg ok_b64 hl hm
theorem ne_b64 (l m : List Nat) (w : World) (hl : l.length = 64) (hm : m.length = 64) : (neA 162 (agg .u8 l) (agg .u8 m)).run Tryz.prog w = .ok (.bool (!decide (l = m))) w := run_neq_agg ok_b64 hl hm
attribute [go_sem ↓ high] rd_ld_b64 rd_st_b64 rd_al_b64 rd_ix_b64 rd_eq_b64 rd_ne_b64 eg_b64
attribute [go_sem] al_b64 ld_b64 st_b64 ix_b64 eq_b64 ne_b64
end Go.Proofs.YtlgpipdeckdmjaaGreat.Types
