/-
  Several texts laid into one (merge.py): Str, Mer5.
-/
import Derived.Test.YtlgpipdeckdmjaaGreatVf10
/-
  The program's structs by value: secret keys, public keys, signatures, signers.
-/
set_option linter.unusedVariables false
set_option linter.unusedSimpArgs false
namespace Go.Proofs.YtlgpipdeckdmjaaGreat.Str
open Go.RowKit Base Reg Types Slice Sha
open Go.Proofs.YtlgpipdeckdmjaaGreat.One
open Go.Proofs.YtlgpipdeckdmjaaGreat.Mer
def secV (seed : List Nat) (h : Int) : List Value := cl .u8 seed ++ [.int .i64 h]
def pubV (h : Int) (root : List Nat) : List Value := .int .i64 h :: cl .u8 root
def sigV (leaf : Int) (ch : List Nat) (p : Value) : List Value := .int .i64 leaf :: (cl .u8 ch ++ [p])
def sgrV (seed : List Nat) (h : Int) (ph : Int) (root : List Nat) (next : Int) : List Value := secV seed h ++ (pubV ph root ++ [.int .i64 next])
theorem secV_length (s : List Nat) (h : Int) : (secV s h).length = s.length + 1 := by simp [secV, cl_length]
theorem pubV_length (h : Int) (r : List Nat) : (pubV h r).length = r.length + 1 := by simp [pubV, cl_length]
theorem sigV_length (l : Int) (c : List Nat) (p : Value) : (sigV l c p).length = c.length + 2 := by simp [sigV, cl_length]
theorem sgrV_length (s : List Nat) (h ph : Int) (r : List Nat) (n : Int) : (sgrV s h ph r n).length = s.length + r.length + 3 := by simp [sgrV, secV_length, pubV_length]; omega
theorem secV_size (s : List Nat) (h : Int) : (secV s h).toArray.size = s.length + 1 := by simp [secV_length]
theorem pubV_size (h : Int) (r : List Nat) : (pubV h r).toArray.size = r.length + 1 := by simp [pubV_length]
theorem sigV_size (l : Int) (c : List Nat) (p : Value) : (sigV l c p).toArray.size = c.length + 2 := by simp [sigV_length]
theorem sgrV_size (s : List Nat) (h ph : Int) (r : List Nat) (n : Int) : (sgrV s h ph r n).toArray.size = s.length + r.length + 3 := by simp [sgrV_length]
theorem all_of {l : List Value} (h : ∀ v ∈ l, v.oneCell' = true) : l.toArray.all (·.oneCell') = true := by
  rw [Array.all_eq_true_iff_forall_mem]
  intro v hv
  exact h v (by simpa using hv)
theorem secV_one (s : List Nat) (h : Int) : ∀ v ∈ secV s h, v.oneCell' = true := by
  intro v hv
  rcases List.mem_append.1 hv with h1 | h1
  · exact cl_one _ _ v h1
  · rw [List.mem_singleton] at h1; rw [h1]; rfl
theorem pubV_one (h : Int) (r : List Nat) : ∀ v ∈ pubV h r, v.oneCell' = true := by
  intro v hv
  rcases List.mem_cons.1 hv with h1 | h1
  · rw [h1]; rfl
  · exact cl_one _ _ v h1
theorem sigV_one (l : Int) (c : List Nat) (A : Option Addr) (n k : Nat) : ∀ v ∈ sigV l c (.slice A n k), v.oneCell' = true := by
  intro v hv
  rcases List.mem_cons.1 hv with h1 | h1
  · rw [h1]; rfl
  · rcases List.mem_append.1 h1 with h2 | h2
    · exact cl_one _ _ v h2
    · rw [List.mem_singleton] at h2; rw [h2]; rfl
theorem sgrV_one (s : List Nat) (h ph : Int) (r : List Nat) (n : Int) : ∀ v ∈ sgrV s h ph r n, v.oneCell' = true := by
  intro v hv
  rcases List.mem_append.1 hv with h1 | h1
  · exact secV_one _ _ v h1
  · rcases List.mem_append.1 h1 with h2 | h2
    · exact pubV_one _ _ v h2
    · rw [List.mem_singleton] at h2; rw [h2]; rfl
theorem secV_all (s : List Nat) (h : Int) : (secV s h).toArray.all (·.oneCell') = true := all_of (secV_one s h)
theorem pubV_all (h : Int) (r : List Nat) : (pubV h r).toArray.all (·.oneCell') = true := all_of (pubV_one h r)
theorem sigV_all (l : Int) (c : List Nat) (A : Option Addr) (n k : Nat) : (sigV l c (.slice A n k)).toArray.all (·.oneCell') = true := all_of (sigV_one l c A n k)
theorem sgrV_all (s : List Nat) (h ph : Int) (r : List Nat) (n : Int) : (sgrV s h ph r n).toArray.all (·.oneCell') = true := all_of (sgrV_one s h ph r n)
attribute [go_sem] secV_size pubV_size sigV_size sgrV_size secV_all pubV_all sigV_all sgrV_all
/-! a struct's literal -/
theorem splice_mid (a m b v : List Value) (off : Nat) (ho : a.length = off) (hm : m.length = v.length) : splice (a ++ (m ++ b)) off v = a ++ (v ++ b) := by
  unfold splice
  rw [List.take_left' ho, List.drop_append, ho, List.append_assoc]
  congr 2
  rw [List.drop_eq_nil_of_le (by omega), List.nil_append, show off + v.length - off = v.length by omega, ← hm, List.drop_left]
theorem splice_head (m b v : List Value) (hm : m.length = v.length) : splice (m ++ b) 0 v = v ++ b := splice_mid [] m b v 0 rfl hm
theorem splice_last (a m v : List Value) (off : Nat) (ho : a.length = off) (hm : m.length = v.length) : splice (a ++ m) off v = a ++ v := by
  have h := splice_mid a m [] v off ho hm
  rwa [List.append_nil, List.append_nil] at h
theorem fill_part (place : Nat → Option (Nat × Nat)) (cells : List Value) (i off size : Nat) (v : Value) (rest : List (Nat × Value)) (hp : place i = some (off, size)) (hv : v.cells.size = size) (hc : off + size ≤ cells.length) :
    Instr.fill place cells.toArray ((i, v) :: rest) = Instr.fill place (splice cells off v.cells.toList).toArray rest := by
  have e : (v.cells.zipIdx.foldl (fun cs (x : Value × Nat) => cs.setIfInBounds (off + x.2) x.1) cells.toArray) = (splice cells off v.cells.toList).toArray := by
    have h := Great.foldl_set off v.cells.toList 0 cells.toArray
    have e2 : v.cells.zipIdx.foldl (fun cs (x : Value × Nat) => cs.setIfInBounds (off + x.2) x.1) cells.toArray = (v.cells.toList.zipIdx 0).foldl (fun cs (x : Value × Nat) => cs.setIfInBounds (off + x.2) x.1) cells.toArray := by
      rw [← Array.foldl_toList, Array.toList_zipIdx]
    rw [e2]
    apply Array.ext_getElem?
    intro k
    have hl : v.cells.toList.length = size := by simpa using hv
    rw [h.2 k]
    simp only [Nat.add_zero, List.size_toArray, List.getElem?_toArray]
    unfold splice
    rw [List.append_assoc, List.getElem?_append, List.getElem?_append]
    have h1 : (cells.take off).length = off := by rw [List.length_take]; omega
    rw [h1, hl]
    by_cases hk : k < off
    · rw [if_neg (by omega), if_pos hk, List.getElem?_take, if_pos hk]
    · rw [if_neg hk]
      by_cases hk2 : k - off < size
      · rw [if_pos (by omega), if_pos hk2]
      · rw [if_neg (by omega), if_neg hk2, List.getElem?_drop]
        congr 1
        omega
  show (match place i with | none => none | some (off, size) => if v.cells.size ≠ size || off + v.cells.size > cells.toArray.size then none else Instr.fill place (v.cells.zipIdx.foldl (fun cs (x : Value × Nat) => cs.setIfInBounds (off + x.2) x.1) cells.toArray) rest) = _
  rw [hp]
  have hb : (v.cells.size ≠ size || off + v.cells.size > cells.toArray.size) = false := by simp [hv]; omega
  simp only [hb, e]
  rfl
theorem built_struct {P : Program} {t : TypeId} {fields : Array Field} {it : TypeInfo} {z : Value} {zc : List Value} {places : List (Nat × Nat)} (parts : List (Nat × Value)) (hi : P.info? t = some it) (hu : P.underlying t = some (.struct fields)) (hz : it.zero = some z) (hzc : z.cells = zc.toArray)
    (hp : fields.toList.mapM (fun f => (P.info? f.type).map fun i => (f.offset, i.size)) = some places) : P.built t parts = Instr.fill (places.toArray[·]?) zc.toArray parts := by
  unfold Program.built
  simp [hi, hu, hz, hp, hzc]
theorem rd_ld_sec (x : Value) : Instr.loadAt 27 x = ldA 27 x := rfl
theorem rd_st_sec (x y : Value) : Instr.storeAt 27 x y = stA 27 x y := rfl
theorem rd_al_sec (h : Bool) (o : Value) : Instr.alloc 27 h o = alA 27 h o := rfl
theorem rd_bl_sec (x : Array (Nat × Value)) : Instr.build 27 x = blA 27 x := rfl
theorem al_sec (w : World) : (alA 27 true (.tuple #[])).run Tryz.prog w = .ok (.pointer (some ⟨w.heap.size, 0, none⟩)) (w.alloc (.cells (secV (zs 32) 0).toArray 27)) := by kernel_rfl
theorem ld_sec (b : Nat) (w : World) : (ldA 27 (.pointer (some ⟨b, 0, none⟩))).run Tryz.prog w = ldGot Tryz.prog 27 b 33 w (bk w b) := run_ldA (d := (Tryz.prog.underlying 27).get (by kernel_rfl)) (by kernel_rfl) (by kernel_rfl) (by kernel_rfl) b w
theorem st_sec (b : Nat) (v : Array Value) (w : World) : (stA 27 (.pointer (some ⟨b, 0, none⟩)) (.agg v)).run Tryz.prog w = stGot Tryz.prog 27 b 33 (.agg v) w (bk w b) := run_stA (by kernel_rfl) b v w
theorem bl0_sec (w : World) : (blA 27 #[]).run Tryz.prog w = .ok (.agg (secV (zs 32) 0).toArray) w := by kernel_rfl
theorem ret_sec {fn : Func} {a : Act} {R : Ending → World → Prop} {w : World} {g p : Nat} {l : List Value} {ty : TypeId} (h : fn.results = #[.cell p 27]) (hp : a.tmps.getD p undef = .pointer (some ⟨g, 0, none⟩)) (hb : blk w g l ty) (hl : l.length = 33) (hD : a.defers = []) (hR : R (.returned (.agg l.toArray)) w) : bodyPost Tryz.prog fn R .ret a w := ret_cell (d := (Tryz.prog.underlying 27).get (by kernel_rfl)) h hp hb (by kernel_rfl) (by kernel_rfl) (by rw [hl]; kernel_rfl) hD hR
theorem ret2_sec {fn : Func} {a : Act} {R : Ending → World → Prop} {w : World} {g p q : Nat} {l : List Value} {ty : TypeId} {v : Value} (h : fn.results = #[.cell p 27, .tmp q]) (hp : a.tmps.getD p undef = .pointer (some ⟨g, 0, none⟩)) (hq : a.tmps.getD q undef = v) (hb : blk w g l ty) (hl : l.length = 33) (hD : a.defers = []) (hR : R (.returned (.tuple #[.agg l.toArray, v])) w) : bodyPost Tryz.prog fn R .ret a w := ret_cell2 (d := (Tryz.prog.underlying 27).get (by kernel_rfl)) h hp hq hb (by kernel_rfl) (by kernel_rfl) (by rw [hl]; kernel_rfl) hD hR
theorem bl_sec (s : List Nat) (h : Int) (hs : s.length = 32) (w : World) : (blA 27 #[(0, agg .u8 s), (1, .int .i64 h)]).run Tryz.prog w = .ok (.agg (secV s h).toArray) w := by
  refine run_build (P := Tryz.prog) w 27 #[(0, agg .u8 s), (1, .int .i64 h)] _ ?_
  rw [built_struct (P := Tryz.prog) (zc := cl .u8 (zs 32) ++ [.int .i64 0]) _ (it := ((Tryz.prog.info? 27).get (by kernel_rfl))) (z := ((Tryz.prog.info? 27).get (by kernel_rfl)).zero.get (by kernel_rfl)) (fields := (match Tryz.prog.underlying 27 with | some (.struct f) => f | _ => #[])) (places := [(0, 32), (32, 1)]) (by kernel_rfl) (by kernel_rfl) (by kernel_rfl) (by kernel_rfl) (by kernel_rfl)]
  show Instr.fill _ _ [(0, agg .u8 s), (1, .int .i64 h)] = _
  rw [fill_part _ _ 0 0 32 _ _ rfl (by simp [Value.cells, cl_length, hs]) (by simp [cl_length, zs_length]), fill_part _ _ 1 32 1 _ _ rfl rfl (by simp [splice, Value.cells, cl_length, zs_length, hs])]
  show some _ = some _
  congr 2
  show splice (splice ([] ++ (cl .u8 (zs 32) ++ [.int .i64 0])) 0 (cl .u8 s)) 32 [.int .i64 h] = _
  rw [splice_mid [] _ _ _ 0 (by rfl) (by simp [cl_length, zs_length, hs])]
  show splice (cl .u8 s ++ ([.int .i64 0] ++ [])) 32 [.int .i64 h] = _
  rw [splice_mid _ _ _ _ 32 (by rw [cl_length, hs]) (by simp)]
  rfl
attribute [go_sem ↓ high] rd_ld_sec rd_st_sec rd_al_sec rd_bl_sec
attribute [go_sem] al_sec ld_sec st_sec bl0_sec bl_sec
theorem rd_ld_pub (x : Value) : Instr.loadAt 39 x = ldA 39 x := rfl
theorem rd_st_pub (x y : Value) : Instr.storeAt 39 x y = stA 39 x y := rfl
theorem rd_al_pub (h : Bool) (o : Value) : Instr.alloc 39 h o = alA 39 h o := rfl
theorem rd_bl_pub (x : Array (Nat × Value)) : Instr.build 39 x = blA 39 x := rfl
theorem al_pub (w : World) : (alA 39 true (.tuple #[])).run Tryz.prog w = .ok (.pointer (some ⟨w.heap.size, 0, none⟩)) (w.alloc (.cells (pubV 0 (zs 16)).toArray 39)) := by kernel_rfl
theorem ld_pub (b : Nat) (w : World) : (ldA 39 (.pointer (some ⟨b, 0, none⟩))).run Tryz.prog w = ldGot Tryz.prog 39 b 17 w (bk w b) := run_ldA (d := (Tryz.prog.underlying 39).get (by kernel_rfl)) (by kernel_rfl) (by kernel_rfl) (by kernel_rfl) b w
theorem st_pub (b : Nat) (v : Array Value) (w : World) : (stA 39 (.pointer (some ⟨b, 0, none⟩)) (.agg v)).run Tryz.prog w = stGot Tryz.prog 39 b 17 (.agg v) w (bk w b) := run_stA (by kernel_rfl) b v w
theorem bl0_pub (w : World) : (blA 39 #[]).run Tryz.prog w = .ok (.agg (pubV 0 (zs 16)).toArray) w := by kernel_rfl
theorem ret_pub {fn : Func} {a : Act} {R : Ending → World → Prop} {w : World} {g p : Nat} {l : List Value} {ty : TypeId} (h : fn.results = #[.cell p 39]) (hp : a.tmps.getD p undef = .pointer (some ⟨g, 0, none⟩)) (hb : blk w g l ty) (hl : l.length = 17) (hD : a.defers = []) (hR : R (.returned (.agg l.toArray)) w) : bodyPost Tryz.prog fn R .ret a w := ret_cell (d := (Tryz.prog.underlying 39).get (by kernel_rfl)) h hp hb (by kernel_rfl) (by kernel_rfl) (by rw [hl]; kernel_rfl) hD hR
theorem ret2_pub {fn : Func} {a : Act} {R : Ending → World → Prop} {w : World} {g p q : Nat} {l : List Value} {ty : TypeId} {v : Value} (h : fn.results = #[.cell p 39, .tmp q]) (hp : a.tmps.getD p undef = .pointer (some ⟨g, 0, none⟩)) (hq : a.tmps.getD q undef = v) (hb : blk w g l ty) (hl : l.length = 17) (hD : a.defers = []) (hR : R (.returned (.tuple #[.agg l.toArray, v])) w) : bodyPost Tryz.prog fn R .ret a w := ret_cell2 (d := (Tryz.prog.underlying 39).get (by kernel_rfl)) h hp hq hb (by kernel_rfl) (by kernel_rfl) (by rw [hl]; kernel_rfl) hD hR
theorem bl_pub (h : Int) (r : List Nat) (hr : r.length = 16) (w : World) : (blA 39 #[(0, .int .i64 h), (1, agg .u8 r)]).run Tryz.prog w = .ok (.agg (pubV h r).toArray) w := by
  refine run_build (P := Tryz.prog) w 39 #[(0, .int .i64 h), (1, agg .u8 r)] _ ?_
  rw [built_struct (P := Tryz.prog) (zc := [.int .i64 0] ++ cl .u8 (zs 16)) _ (it := ((Tryz.prog.info? 39).get (by kernel_rfl))) (z := ((Tryz.prog.info? 39).get (by kernel_rfl)).zero.get (by kernel_rfl)) (fields := (match Tryz.prog.underlying 39 with | some (.struct f) => f | _ => #[])) (places := [(0, 1), (1, 16)]) (by kernel_rfl) (by kernel_rfl) (by kernel_rfl) (by kernel_rfl) (by kernel_rfl)]
  show Instr.fill _ _ [(0, .int .i64 h), (1, agg .u8 r)] = _
  rw [fill_part _ _ 0 0 1 _ _ rfl rfl (by simp), fill_part _ _ 1 1 16 _ _ rfl (by simp [Value.cells, cl_length, hr]) (by simp [splice, Value.cells, cl_length, zs_length])]
  show some _ = some _
  congr 2
  show splice (splice ([] ++ ([.int .i64 0] ++ cl .u8 (zs 16))) 0 [.int .i64 h]) 1 (cl .u8 r) = _
  rw [splice_mid [] _ _ _ 0 (by rfl) (by simp)]
  show splice ([.int .i64 h] ++ cl .u8 (zs 16)) 1 (cl .u8 r) = _
  rw [← List.append_nil (cl .u8 (zs 16)), splice_mid _ _ _ _ 1 (by rfl) (by simp [cl_length, zs_length, hr]), List.append_nil]
  rfl
attribute [go_sem ↓ high] rd_ld_pub rd_st_pub rd_al_pub rd_bl_pub
attribute [go_sem] al_pub ld_pub st_pub bl0_pub bl_pub
theorem rd_ld_sg (x : Value) : Instr.loadAt 31 x = ldA 31 x := rfl
theorem rd_st_sg (x y : Value) : Instr.storeAt 31 x y = stA 31 x y := rfl
theorem rd_al_sg (h : Bool) (o : Value) : Instr.alloc 31 h o = alA 31 h o := rfl
theorem rd_bl_sg (x : Array (Nat × Value)) : Instr.build 31 x = blA 31 x := rfl
theorem al_sg (w : World) : (alA 31 true (.tuple #[])).run Tryz.prog w = .ok (.pointer (some ⟨w.heap.size, 0, none⟩)) (w.alloc (.cells (sigV 0 (zs 560) (.slice none 0 0)).toArray 31)) := by kernel_rfl
theorem ld_sg (b : Nat) (w : World) : (ldA 31 (.pointer (some ⟨b, 0, none⟩))).run Tryz.prog w = ldGot Tryz.prog 31 b 562 w (bk w b) := run_ldA (d := (Tryz.prog.underlying 31).get (by kernel_rfl)) (by kernel_rfl) (by kernel_rfl) (by kernel_rfl) b w
theorem st_sg (b : Nat) (v : Array Value) (w : World) : (stA 31 (.pointer (some ⟨b, 0, none⟩)) (.agg v)).run Tryz.prog w = stGot Tryz.prog 31 b 562 (.agg v) w (bk w b) := run_stA (by kernel_rfl) b v w
theorem bl0_sg (w : World) : (blA 31 #[]).run Tryz.prog w = .ok (.agg (sigV 0 (zs 560) (.slice none 0 0)).toArray) w := by kernel_rfl
theorem ret_sg {fn : Func} {a : Act} {R : Ending → World → Prop} {w : World} {g p : Nat} {l : List Value} {ty : TypeId} (h : fn.results = #[.cell p 31]) (hp : a.tmps.getD p undef = .pointer (some ⟨g, 0, none⟩)) (hb : blk w g l ty) (hl : l.length = 562) (hD : a.defers = []) (hR : R (.returned (.agg l.toArray)) w) : bodyPost Tryz.prog fn R .ret a w := ret_cell (d := (Tryz.prog.underlying 31).get (by kernel_rfl)) h hp hb (by kernel_rfl) (by kernel_rfl) (by rw [hl]; kernel_rfl) hD hR
theorem ret2_sg {fn : Func} {a : Act} {R : Ending → World → Prop} {w : World} {g p q : Nat} {l : List Value} {ty : TypeId} {v : Value} (h : fn.results = #[.cell p 31, .tmp q]) (hp : a.tmps.getD p undef = .pointer (some ⟨g, 0, none⟩)) (hq : a.tmps.getD q undef = v) (hb : blk w g l ty) (hl : l.length = 562) (hD : a.defers = []) (hR : R (.returned (.tuple #[.agg l.toArray, v])) w) : bodyPost Tryz.prog fn R .ret a w := ret_cell2 (d := (Tryz.prog.underlying 31).get (by kernel_rfl)) h hp hq hb (by kernel_rfl) (by kernel_rfl) (by rw [hl]; kernel_rfl) hD hR
theorem bl_sg (l : Int) (c : List Nat) (hc : c.length = 560) (w : World) : (blA 31 #[(0, .int .i64 l), (1, agg .u8 c)]).run Tryz.prog w = .ok (.agg (sigV l c (.slice none 0 0)).toArray) w := by
  refine run_build (P := Tryz.prog) w 31 #[(0, .int .i64 l), (1, agg .u8 c)] _ ?_
  rw [built_struct (P := Tryz.prog) (zc := [.int .i64 0] ++ (cl .u8 (zs 560) ++ [.slice none 0 0])) _ (it := ((Tryz.prog.info? 31).get (by kernel_rfl))) (z := ((Tryz.prog.info? 31).get (by kernel_rfl)).zero.get (by kernel_rfl)) (fields := (match Tryz.prog.underlying 31 with | some (.struct f) => f | _ => #[])) (places := [(0, 1), (1, 560), (561, 1)]) (by kernel_rfl) (by kernel_rfl) (by kernel_rfl) (by kernel_rfl) (by kernel_rfl)]
  show Instr.fill _ _ [(0, .int .i64 l), (1, agg .u8 c)] = _
  rw [fill_part _ _ 0 0 1 _ _ rfl rfl (by simp), fill_part _ _ 1 1 560 _ _ rfl (by simp [Value.cells, cl_length, hc]) (by simp [splice, Value.cells, cl_length, zs_length])]
  show some _ = some _
  congr 2
  show splice (splice ([] ++ ([.int .i64 0] ++ (cl .u8 (zs 560) ++ [.slice none 0 0]))) 0 [.int .i64 l]) 1 (cl .u8 c) = _
  rw [splice_mid [] _ _ _ 0 (by rfl) (by simp)]
  show splice ([.int .i64 l] ++ (cl .u8 (zs 560) ++ [.slice none 0 0])) 1 (cl .u8 c) = _
  rw [splice_mid _ _ _ _ 1 (by rfl) (by simp [cl_length, zs_length, hc])]
  rfl
theorem bl3_sg (l : Int) (c : List Nat) (A : Option Addr) (n k : Nat) (hc : c.length = 560) (w : World) : (blA 31 #[(0, .int .i64 l), (1, agg .u8 c), (2, .slice A n k)]).run Tryz.prog w = .ok (.agg (sigV l c (.slice A n k)).toArray) w := by
  refine run_build (P := Tryz.prog) w 31 #[(0, .int .i64 l), (1, agg .u8 c), (2, .slice A n k)] _ ?_
  rw [built_struct (P := Tryz.prog) (zc := [.int .i64 0] ++ (cl .u8 (zs 560) ++ [.slice none 0 0])) _ (it := ((Tryz.prog.info? 31).get (by kernel_rfl))) (z := ((Tryz.prog.info? 31).get (by kernel_rfl)).zero.get (by kernel_rfl)) (fields := (match Tryz.prog.underlying 31 with | some (.struct f) => f | _ => #[])) (places := [(0, 1), (1, 560), (561, 1)]) (by kernel_rfl) (by kernel_rfl) (by kernel_rfl) (by kernel_rfl) (by kernel_rfl)]
  show Instr.fill _ _ [(0, .int .i64 l), (1, agg .u8 c), (2, .slice A n k)] = _
  rw [fill_part _ _ 0 0 1 _ _ rfl rfl (by simp), fill_part _ _ 1 1 560 _ _ rfl (by simp [Value.cells, cl_length, hc]) (by simp [splice, Value.cells, cl_length, zs_length]), fill_part _ _ 2 561 1 _ _ rfl rfl (by simp [splice, Value.cells, cl_length, zs_length, hc])]
  show some _ = some _
  congr 2
  show splice (splice (splice ([] ++ ([.int .i64 0] ++ (cl .u8 (zs 560) ++ [.slice none 0 0]))) 0 [.int .i64 l]) 1 (cl .u8 c)) 561 [.slice A n k] = _
  rw [splice_mid [] _ _ _ 0 (by rfl) (by simp)]
  show splice (splice ([.int .i64 l] ++ (cl .u8 (zs 560) ++ [.slice none 0 0])) 1 (cl .u8 c)) 561 [.slice A n k] = _
  rw [splice_mid _ _ _ _ 1 (by rfl) (by simp [cl_length, zs_length, hc])]
  show splice (([.int .i64 l] ++ cl .u8 c) ++ ([.slice none 0 0] ++ [])) 561 [.slice A n k] = _
  rw [splice_mid _ _ _ _ 561 (by simp [cl_length, hc]) (by simp)]
  rfl
attribute [go_sem ↓ high] rd_ld_sg rd_st_sg rd_al_sg rd_bl_sg
attribute [go_sem] al_sg ld_sg st_sg bl0_sg bl_sg bl3_sg
theorem rd_ld_sgr (x : Value) : Instr.loadAt 108 x = ldA 108 x := rfl
theorem rd_st_sgr (x y : Value) : Instr.storeAt 108 x y = stA 108 x y := rfl
theorem rd_al_sgr (h : Bool) (o : Value) : Instr.alloc 108 h o = alA 108 h o := rfl
theorem rd_bl_sgr (x : Array (Nat × Value)) : Instr.build 108 x = blA 108 x := rfl
theorem al_sgr (w : World) : (alA 108 true (.tuple #[])).run Tryz.prog w = .ok (.pointer (some ⟨w.heap.size, 0, none⟩)) (w.alloc (.cells (sgrV (zs 32) 0 0 (zs 16) 0).toArray 108)) := by kernel_rfl
theorem ld_sgr (b : Nat) (w : World) : (ldA 108 (.pointer (some ⟨b, 0, none⟩))).run Tryz.prog w = ldGot Tryz.prog 108 b 51 w (bk w b) := run_ldA (d := (Tryz.prog.underlying 108).get (by kernel_rfl)) (by kernel_rfl) (by kernel_rfl) (by kernel_rfl) b w
theorem st_sgr (b : Nat) (v : Array Value) (w : World) : (stA 108 (.pointer (some ⟨b, 0, none⟩)) (.agg v)).run Tryz.prog w = stGot Tryz.prog 108 b 51 (.agg v) w (bk w b) := run_stA (by kernel_rfl) b v w
theorem bl0_sgr (w : World) : (blA 108 #[]).run Tryz.prog w = .ok (.agg (sgrV (zs 32) 0 0 (zs 16) 0).toArray) w := by kernel_rfl
theorem ret_sgr {fn : Func} {a : Act} {R : Ending → World → Prop} {w : World} {g p : Nat} {l : List Value} {ty : TypeId} (h : fn.results = #[.cell p 108]) (hp : a.tmps.getD p undef = .pointer (some ⟨g, 0, none⟩)) (hb : blk w g l ty) (hl : l.length = 51) (hD : a.defers = []) (hR : R (.returned (.agg l.toArray)) w) : bodyPost Tryz.prog fn R .ret a w := ret_cell (d := (Tryz.prog.underlying 108).get (by kernel_rfl)) h hp hb (by kernel_rfl) (by kernel_rfl) (by rw [hl]; kernel_rfl) hD hR
theorem ret2_sgr {fn : Func} {a : Act} {R : Ending → World → Prop} {w : World} {g p q : Nat} {l : List Value} {ty : TypeId} {v : Value} (h : fn.results = #[.cell p 108, .tmp q]) (hp : a.tmps.getD p undef = .pointer (some ⟨g, 0, none⟩)) (hq : a.tmps.getD q undef = v) (hb : blk w g l ty) (hl : l.length = 51) (hD : a.defers = []) (hR : R (.returned (.tuple #[.agg l.toArray, v])) w) : bodyPost Tryz.prog fn R .ret a w := ret_cell2 (d := (Tryz.prog.underlying 108).get (by kernel_rfl)) h hp hq hb (by kernel_rfl) (by kernel_rfl) (by rw [hl]; kernel_rfl) hD hR
theorem bl_sgr (s : List Nat) (h ph : Int) (r : List Nat) (n : Int) (hs : s.length = 32) (hr : r.length = 16) (w : World) : (blA 108 #[(0, .agg (secV s h).toArray), (1, .agg (pubV ph r).toArray), (2, .int .i64 n)]).run Tryz.prog w = .ok (.agg (sgrV s h ph r n).toArray) w := by
  refine run_build (P := Tryz.prog) w 108 #[(0, .agg (secV s h).toArray), (1, .agg (pubV ph r).toArray), (2, .int .i64 n)] _ ?_
  rw [built_struct (P := Tryz.prog) (zc := secV (zs 32) 0 ++ (pubV 0 (zs 16) ++ [.int .i64 0])) _ (it := ((Tryz.prog.info? 108).get (by kernel_rfl))) (z := ((Tryz.prog.info? 108).get (by kernel_rfl)).zero.get (by kernel_rfl)) (fields := (match Tryz.prog.underlying 108 with | some (.struct f) => f | _ => #[])) (places := [(0, 33), (33, 17), (50, 1)]) (by kernel_rfl) (by kernel_rfl) (by kernel_rfl) (by kernel_rfl) (by kernel_rfl)]
  show Instr.fill _ _ [(0, .agg (secV s h).toArray), (1, .agg (pubV ph r).toArray), (2, .int .i64 n)] = _
  rw [fill_part _ _ 0 0 33 _ _ rfl (by simp [Value.cells, secV_length, hs]) (by simp [secV_length, pubV_length, zs_length]), fill_part _ _ 1 33 17 _ _ rfl (by simp [Value.cells, pubV_length, hr]) (by simp [splice, Value.cells, secV_length, pubV_length, zs_length, hs]), fill_part _ _ 2 50 1 _ _ rfl rfl (by simp [splice, Value.cells, secV_length, pubV_length, zs_length, hs, hr])]
  show some _ = some _
  congr 2
  have x1 : (Value.agg (secV s h).toArray).cells.toList = secV s h := rfl
  have x2 : (Value.agg (pubV ph r).toArray).cells.toList = pubV ph r := rfl
  have x3 : (Value.int .i64 n).cells.toList = [.int .i64 n] := rfl
  rw [x1, x2, x3, splice_head _ _ _ (by simp [secV_length, zs_length, hs]), splice_mid _ _ _ _ 33 (by simp [secV_length, hs]) (by simp [pubV_length, zs_length, hr]), ← List.append_assoc, splice_last _ _ _ 50 (by simp [secV_length, pubV_length, hs, hr]) (by simp), List.append_assoc]
  rfl
attribute [go_sem ↓ high] rd_ld_sgr rd_st_sgr rd_al_sgr rd_bl_sgr
attribute [go_sem] al_sgr ld_sgr st_sgr bl0_sgr bl_sgr
theorem rd_ld_rsg (x : Value) : Instr.loadAt 36 x = ldA 36 x := rfl
theorem rd_st_rsg (x y : Value) : Instr.storeAt 36 x y = stA 36 x y := rfl
theorem rd_al_rsg (h : Bool) (o : Value) : Instr.alloc 36 h o = alA 36 h o := rfl
theorem rd_bl_rsg (x : Array (Nat × Value)) : Instr.build 36 x = blA 36 x := rfl
theorem al_rsg (w : World) : (alA 36 true (.tuple #[])).run Tryz.prog w = .ok (.pointer (some ⟨w.heap.size, 0, none⟩)) (w.alloc (.cells (sigV 0 (zs 560) (.slice none 0 0)).toArray 36)) := by kernel_rfl
theorem ld_rsg (b : Nat) (w : World) : (ldA 36 (.pointer (some ⟨b, 0, none⟩))).run Tryz.prog w = ldGot Tryz.prog 36 b 562 w (bk w b) := run_ldA (d := (Tryz.prog.underlying 36).get (by kernel_rfl)) (by kernel_rfl) (by kernel_rfl) (by kernel_rfl) b w
theorem st_rsg (b : Nat) (v : Array Value) (w : World) : (stA 36 (.pointer (some ⟨b, 0, none⟩)) (.agg v)).run Tryz.prog w = stGot Tryz.prog 36 b 562 (.agg v) w (bk w b) := run_stA (by kernel_rfl) b v w
theorem bl0_rsg (w : World) : (blA 36 #[]).run Tryz.prog w = .ok (.agg (sigV 0 (zs 560) (.slice none 0 0)).toArray) w := by kernel_rfl
theorem ret_rsg {fn : Func} {a : Act} {R : Ending → World → Prop} {w : World} {g p : Nat} {l : List Value} {ty : TypeId} (h : fn.results = #[.cell p 36]) (hp : a.tmps.getD p undef = .pointer (some ⟨g, 0, none⟩)) (hb : blk w g l ty) (hl : l.length = 562) (hD : a.defers = []) (hR : R (.returned (.agg l.toArray)) w) : bodyPost Tryz.prog fn R .ret a w := ret_cell (d := (Tryz.prog.underlying 36).get (by kernel_rfl)) h hp hb (by kernel_rfl) (by kernel_rfl) (by rw [hl]; kernel_rfl) hD hR
theorem ret2_rsg {fn : Func} {a : Act} {R : Ending → World → Prop} {w : World} {g p q : Nat} {l : List Value} {ty : TypeId} {v : Value} (h : fn.results = #[.cell p 36, .tmp q]) (hp : a.tmps.getD p undef = .pointer (some ⟨g, 0, none⟩)) (hq : a.tmps.getD q undef = v) (hb : blk w g l ty) (hl : l.length = 562) (hD : a.defers = []) (hR : R (.returned (.tuple #[.agg l.toArray, v])) w) : bodyPost Tryz.prog fn R .ret a w := ret_cell2 (d := (Tryz.prog.underlying 36).get (by kernel_rfl)) h hp hq hb (by kernel_rfl) (by kernel_rfl) (by rw [hl]; kernel_rfl) hD hR
theorem bl_rsg (l : Int) (c : List Nat) (hc : c.length = 560) (w : World) : (blA 36 #[(0, .int .i64 l), (1, agg .u8 c)]).run Tryz.prog w = .ok (.agg (sigV l c (.slice none 0 0)).toArray) w := by
  refine run_build (P := Tryz.prog) w 36 #[(0, .int .i64 l), (1, agg .u8 c)] _ ?_
  rw [built_struct (P := Tryz.prog) (zc := [.int .i64 0] ++ (cl .u8 (zs 560) ++ [.slice none 0 0])) _ (it := ((Tryz.prog.info? 36).get (by kernel_rfl))) (z := ((Tryz.prog.info? 36).get (by kernel_rfl)).zero.get (by kernel_rfl)) (fields := (match Tryz.prog.underlying 36 with | some (.struct f) => f | _ => #[])) (places := [(0, 1), (1, 560), (561, 1)]) (by kernel_rfl) (by kernel_rfl) (by kernel_rfl) (by kernel_rfl) (by kernel_rfl)]
  show Instr.fill _ _ [(0, .int .i64 l), (1, agg .u8 c)] = _
  rw [fill_part _ _ 0 0 1 _ _ rfl rfl (by simp), fill_part _ _ 1 1 560 _ _ rfl (by simp [Value.cells, cl_length, hc]) (by simp [splice, Value.cells, cl_length, zs_length])]
  show some _ = some _
  congr 2
  show splice (splice ([] ++ ([.int .i64 0] ++ (cl .u8 (zs 560) ++ [.slice none 0 0]))) 0 [.int .i64 l]) 1 (cl .u8 c) = _
  rw [splice_mid [] _ _ _ 0 (by rfl) (by simp)]
  show splice ([.int .i64 l] ++ (cl .u8 (zs 560) ++ [.slice none 0 0])) 1 (cl .u8 c) = _
  rw [splice_mid _ _ _ _ 1 (by rfl) (by simp [cl_length, zs_length, hc])]
  rfl
theorem bl3_rsg (l : Int) (c : List Nat) (A : Option Addr) (n k : Nat) (hc : c.length = 560) (w : World) : (blA 36 #[(0, .int .i64 l), (1, agg .u8 c), (2, .slice A n k)]).run Tryz.prog w = .ok (.agg (sigV l c (.slice A n k)).toArray) w := by
  refine run_build (P := Tryz.prog) w 36 #[(0, .int .i64 l), (1, agg .u8 c), (2, .slice A n k)] _ ?_
  rw [built_struct (P := Tryz.prog) (zc := [.int .i64 0] ++ (cl .u8 (zs 560) ++ [.slice none 0 0])) _ (it := ((Tryz.prog.info? 36).get (by kernel_rfl))) (z := ((Tryz.prog.info? 36).get (by kernel_rfl)).zero.get (by kernel_rfl)) (fields := (match Tryz.prog.underlying 36 with | some (.struct f) => f | _ => #[])) (places := [(0, 1), (1, 560), (561, 1)]) (by kernel_rfl) (by kernel_rfl) (by kernel_rfl) (by kernel_rfl) (by kernel_rfl)]
  show Instr.fill _ _ [(0, .int .i64 l), (1, agg .u8 c), (2, .slice A n k)] = _
  rw [fill_part _ _ 0 0 1 _ _ rfl rfl (by simp), fill_part _ _ 1 1 560 _ _ rfl (by simp [Value.cells, cl_length, hc]) (by simp [splice, Value.cells, cl_length, zs_length]), fill_part _ _ 2 561 1 _ _ rfl rfl (by simp [splice, Value.cells, cl_length, zs_length, hc])]
  show some _ = some _
  congr 2
  show splice (splice (splice ([] ++ ([.int .i64 0] ++ (cl .u8 (zs 560) ++ [.slice none 0 0]))) 0 [.int .i64 l]) 1 (cl .u8 c)) 561 [.slice A n k] = _
  rw [splice_mid [] _ _ _ 0 (by rfl) (by simp)]
  show splice (splice ([.int .i64 l] ++ (cl .u8 (zs 560) ++ [.slice none 0 0])) 1 (cl .u8 c)) 561 [.slice A n k] = _
  rw [splice_mid _ _ _ _ 1 (by rfl) (by simp [cl_length, zs_length, hc])]
  show splice (([.int .i64 l] ++ cl .u8 c) ++ ([.slice none 0 0] ++ [])) 561 [.slice A n k] = _
  rw [splice_mid _ _ _ _ 561 (by simp [cl_length, hc]) (by simp)]
  rfl
attribute [go_sem ↓ high] rd_ld_rsg rd_st_rsg rd_al_rsg rd_bl_rsg
attribute [go_sem] al_rsg ld_rsg st_rsg bl0_rsg bl_rsg bl3_rsg
end Go.Proofs.YtlgpipdeckdmjaaGreat.Str
/-
  The leaf nodes of a key; a copy of nodes.
-/
set_option linter.unusedVariables false
set_option linter.unusedSimpArgs false
namespace Go.Proofs.YtlgpipdeckdmjaaGreat.Mer
open Go.RowKit Base Reg Types Slice Sha
open Go.Proofs.YtlgpipdeckdmjaaGreat.One
open Go.Proofs.YtlgpipdeckdmjaaGreat.Str
open Go.Proofs.YtlgpipdeckdmjaaGreat.Signed
def nodeF (seed : List Nat) (i : Nat) : List Nat := leafN i (pb seed i)
theorem nodeF_length (seed : List Nat) (i : Nat) : (nodeF seed i).length = 16 := leafN_length _ _
/-- The seed within a secret key. -/
theorem ld_seed {W : World} {g : Nat} {seed : List Nat} {h : Int} {t : TypeId} (hs : seed.length = 32) (hB : blk W g (secV seed h) t) : ldGot Tryz.prog 22 g 32 W (bk W g) = .ok (agg .u8 seed) W := by
  have h1 := ld_part (P := Tryz.prog) (ty := 22) (n := 32) (d := (Tryz.prog.underlying 22).get (by kernel_rfl)) hB (by kernel_rfl) (by kernel_rfl) (by kernel_rfl) (by rw [secV_length]; omega)
  rw [show (secV seed h).take 32 = cl .u8 seed by unfold secV; rw [List.take_left' (by rw [cl_length, hs])]] at h1
  exact h1
theorem sec_height {W : World} {g : Nat} {seed : List Nat} {h : Int} {t : TypeId} (hs : seed.length = 32) (hB : blk W g (secV seed h) t) : W.cell? ⟨g, 32, none⟩ = some (.int .i64 h) := by
  rw [blk_cell hB, secV, List.getElem?_append_right (by rw [cl_length]; omega), cl_length, hs]
  rfl
set_option maxRecDepth 20000 in
theorem tree_of (w : World) (seed : List Nat) (h : Int) (i g : Nat) (hs : seed.length = 32) (hi : i ≤ 65535) (hS : blk w g (secV seed h) 27) :
    Calls Tryz.prog 69 #[.int .i64 (i : Int), .pointer (some ⟨g, 0, none⟩)] w fun e w' => e = .returned (agg .u8 (nodeF seed i)) ∧ Below w.heap.size w w' := by
  obtain ⟨P, hP⟩ : ∃ P, P = pb seed i := ⟨_, rfl⟩
  have lp : P.length = 16 := by rw [hP]; exact pb_length _ _
  have c1 := Lib.hid fun w => Public_pb w seed i hs hi
  rw [← hP] at c1
  have HP := Lib.hid hP
  clear hP
  have q0 := ld_seed hs (blk_alloc hS (.cells (cl .u8 (zs 16)).toArray 81))
  have HS := Lib.hid hS
  have lt := blk_lt hS
  rw [bk_alloc_past _ lt] at q0
  clear hS
  go_enter Tryz.func69, Tryz.ntmps69
  go_wp2_with fail
  refine (c1.out _).mono ?_
  rintro e w1 ⟨rfl, hb1⟩
  have hR1 := Lib.hid (blk_alloc (blk_keep (blk_new w (cl .u8 (zs 16)) 81) hb1) (.cells (cl .u8 P).toArray 23))
  have hB1 := Lib.hid ((bel_trans ((Below.refl w.heap.size w).alloc (Nat.le_refl _) (.cells (cl .u8 (zs 16)).toArray 81)) hb1 (by simp only [alloc_size]; omega)).alloc (by have := hb1.size; simp only [alloc_size] at this; omega) (.cells (cl .u8 P).toArray 23))
  have hP1 := blk_new w1 (cl .u8 P) 23
  have hsl : Sl (w1.alloc (.cells (cl .u8 P).toArray 23)) (.slice (some ⟨w1.heap.size, 0, none⟩) 16 16) P := sl_whole hP1 lp.symm (Nat.le_refl _)
  have HS1 := Lib.hid hsl
  clear hb1 hP1 hsl q0
  go_wp2_with fail
  refine (mleaf _ i P _ HS1.out (by omega) hi).mono ?_
  rintro e w2 ⟨rfl, hb2⟩
  have hR2 := blk_keep hR1.out hb2
  have k2 := bk_of hR2
  have hB2 := bel_trans hB1.out hb2 hB1.out.size
  have e1 : leafN i P = nodeF seed i := by rw [HP.out]; rfl
  rw [e1]
  have ln := nodeF_length seed i
  clear hb2 e1
  go_wp2_with fail
  refine ret_node rfl rfl (blk_setRow hR2 (cl .u8 (nodeF seed i))) ln rfl ⟨rfl, bel_setRow hB2 (Nat.le_refl _) _⟩
set_option maxRecDepth 20000 in
theorem tree1 (w : World) (seed : List Nat) (hs : seed.length = 32) :
    Calls Tryz.prog 38 #[.agg (secV seed 1).toArray] w fun e w' => ∃ x, e = .returned x ∧ OwnN 81 w' w.heap.size x (lv0 (nodeF seed) 2) ∧ Below w.heap.size w w' := by
  have hc := sec_height hs (blk_new w (secV seed 1) 27)
  have H := Lib.hid (leaves (w.alloc (.cells (secV seed 1).toArray 27)) 2 (nodeF seed) (.pointer (some ⟨w.heap.size, 0, none⟩)) (by omega) (nodeF_length seed) (fun i hi W hb => tree_of W seed 1 i w.heap.size hs (by omega) (blk_keep (blk_new w (secV seed 1) 27) hb)))
  go_enter Tryz.func38, Tryz.ntmps38
  go_wp2_with fail
  refine H.out.mono ?_
  rintro e w1 ⟨x, rfl, ho, hb⟩
  have HO := Lib.hid (own_mono ho (by simp only [alloc_size]; omega : w.heap.size ≤ _))
  have hb1 := bel_trans ((Below.refl w.heap.size w).alloc (Nat.le_refl _) _) hb (by simp only [alloc_size]; omega)
  clear ho hb hc
  go_wp2_with fail
  go_ret
  exact ⟨_, rfl, HO.out, hb1⟩
set_option maxRecDepth 20000 in
theorem tree2 (w : World) (seed : List Nat) (hs : seed.length = 32) :
    Calls Tryz.prog 38 #[.agg (secV seed 2).toArray] w fun e w' => ∃ x, e = .returned x ∧ OwnN 81 w' w.heap.size x (lv0 (nodeF seed) 4) ∧ Below w.heap.size w w' := by
  have hc := sec_height hs (blk_new w (secV seed 2) 27)
  have H := Lib.hid (leaves (w.alloc (.cells (secV seed 2).toArray 27)) 4 (nodeF seed) (.pointer (some ⟨w.heap.size, 0, none⟩)) (by omega) (nodeF_length seed) (fun i hi W hb => tree_of W seed 2 i w.heap.size hs (by omega) (blk_keep (blk_new w (secV seed 2) 27) hb)))
  go_enter Tryz.func38, Tryz.ntmps38
  go_wp2_with fail
  refine H.out.mono ?_
  rintro e w1 ⟨x, rfl, ho, hb⟩
  have HO := Lib.hid (own_mono ho (by simp only [alloc_size]; omega : w.heap.size ≤ _))
  have hb1 := bel_trans ((Below.refl w.heap.size w).alloc (Nat.le_refl _) _) hb (by simp only [alloc_size]; omega)
  clear ho hb hc
  go_wp2_with fail
  go_ret
  exact ⟨_, rfl, HO.out, hb1⟩
set_option maxRecDepth 20000 in
theorem tree3 (w : World) (seed : List Nat) (hs : seed.length = 32) :
    Calls Tryz.prog 38 #[.agg (secV seed 3).toArray] w fun e w' => ∃ x, e = .returned x ∧ OwnN 81 w' w.heap.size x (lv0 (nodeF seed) 8) ∧ Below w.heap.size w w' := by
  have hc := sec_height hs (blk_new w (secV seed 3) 27)
  have H := Lib.hid (leaves (w.alloc (.cells (secV seed 3).toArray 27)) 8 (nodeF seed) (.pointer (some ⟨w.heap.size, 0, none⟩)) (by omega) (nodeF_length seed) (fun i hi W hb => tree_of W seed 3 i w.heap.size hs (by omega) (blk_keep (blk_new w (secV seed 3) 27) hb)))
  go_enter Tryz.func38, Tryz.ntmps38
  go_wp2_with fail
  refine H.out.mono ?_
  rintro e w1 ⟨x, rfl, ho, hb⟩
  have HO := Lib.hid (own_mono ho (by simp only [alloc_size]; omega : w.heap.size ≤ _))
  have hb1 := bel_trans ((Below.refl w.heap.size w).alloc (Nat.le_refl _) _) hb (by simp only [alloc_size]; omega)
  clear ho hb hc
  go_wp2_with fail
  go_ret
  exact ⟨_, rfl, HO.out, hb1⟩
theorem tree (w : World) (seed : List Nat) (h : Nat) (hs : seed.length = 32) (hh : h = 1 ∨ h = 2 ∨ h = 3) :
    Calls Tryz.prog 38 #[.agg (secV seed (h : Int)).toArray] w fun e w' => ∃ x, e = .returned x ∧ OwnN 81 w' w.heap.size x (lv0 (nodeF seed) (2 ^ h)) ∧ Below w.heap.size w w' := by
  rcases hh with rfl | rfl | rfl
  · exact tree1 w seed hs
  · exact tree2 w seed hs
  · exact tree3 w seed hs
end Go.Proofs.YtlgpipdeckdmjaaGreat.Mer
