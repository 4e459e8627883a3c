/-
  Several texts laid into one (merge.py): Mer6, Mer7, Mer8, Ord2.
-/
import Derived.Test.YtlgpipdeckdmjaaGreatVf11
import Derived.Test.YtlgpipdeckdmjaaGreatVf07
/-
  Rows of nodes: read, copied; the levels of a tree.
-/
set_option linter.unusedVariables false
set_option linter.unusedSimpArgs false
namespace Go.Proofs.YtlgpipdeckdmjaaGreat.Mer
open Go.RowKit Base Reg Types Slice Sha
open Go.Proofs.YtlgpipdeckdmjaaGreat.One
open Go.Proofs.YtlgpipdeckdmjaaGreat.Str
open Go.Proofs.YtlgpipdeckdmjaaGreat.Signed
theorem flatten_elt : ∀ {ns : List (List Nat)} {i : Nat}, N16 ns → i < ns.length → (ns.flatten.drop (i * 16)).take 16 = ns.getD i []
  | [], i, _, h => absurd h (by simp)
  | x :: r, 0, hN, _ => by
    have hx := hN x List.mem_cons_self
    rw [List.flatten_cons, Nat.zero_mul, List.drop_zero, List.take_left' hx]
    rfl
  | x :: r, i + 1, hN, h => by
    have hx := hN x List.mem_cons_self
    rw [List.flatten_cons, show (i + 1) * 16 = 16 + i * 16 by omega, ← List.drop_drop, List.drop_left' hx, flatten_elt (fun y hy => hN y (List.mem_cons_of_mem _ hy)) (by simpa using h)]
    rfl
theorem N16.getD {ns : List (List Nat)} (h : N16 ns) {i : Nat} (hi : i < ns.length) : (ns.getD i []).length = 16 := by
  rw [List.getD_eq_getElem?_getD, List.getElem?_eq_getElem hi]
  exact h _ (List.getElem_mem hi)
/-- One value of a row is read. -/
theorem ld_row16 {e : TypeId} {d : TypeDesc} (hu : Tryz.prog.underlying e = some d) (hd : d.isRow = true) (hi : (Tryz.prog.info? e).map (·.size) = some 16) {W : World} {b o i : Nat} {ns : List (List Nat)} (hN : N16 ns) (hk : i < ns.length) (hc : ∀ j u, (cl .u8 ns.flatten)[j]? = some u → W.cell? ⟨b, o + j, none⟩ = some u) :
    (ldA e (.pointer (some ⟨b, o + i * 16, none⟩))).run Tryz.prog W = .ok (agg .u8 (ns.getD i [])) W := by
  have h1 : (cl .u8 (ns.getD i [])).length = 16 := by rw [cl_length, hN.getD hk]
  have h2 : W.rangeAt b (o + i * 16) (cl .u8 (ns.getD i [])) := fun j v hv => by
    have hj : j < 16 := by rw [← h1]; exact (List.getElem?_eq_some_iff.1 hv).1
    rw [← flatten_elt hN hk, ← cl_take, ← cl_drop, List.getElem?_take, if_pos hj, List.getElem?_drop] at hv
    have := hc _ _ hv
    rw [← this, show o + (i * 16 + j) = o + i * 16 + j by omega]
  have h3 := run_loadAt_mid (P := Tryz.prog) W b (o + i * 16) e (cl .u8 (ns.getD i [])) d h2 hu hd (by rw [h1]; exact hi)
  exact h3
set_option maxRecDepth 100000 in
theorem ld_node {W : World} {b o i : Nat} {ns : List (List Nat)} (hN : N16 ns) (hk : i < ns.length) (hc : ∀ j u, (cl .u8 ns.flatten)[j]? = some u → W.cell? ⟨b, o + j, none⟩ = some u) :
    (ldA 81 (.pointer (some ⟨b, o + i * 16, none⟩))).run Tryz.prog W = .ok (agg .u8 (ns.getD i [])) W :=
  ld_row16 (d := (Tryz.prog.underlying 81).get (by kernel_rfl)) (by kernel_rfl) (by kernel_rfl) (by kernel_rfl) hN hk hc
set_option maxRecDepth 100000 in
theorem ld_val {W : World} {b o i : Nat} {ns : List (List Nat)} (hN : N16 ns) (hk : i < ns.length) (hc : ∀ j u, (cl .u8 ns.flatten)[j]? = some u → W.cell? ⟨b, o + j, none⟩ = some u) :
    (ldA 23 (.pointer (some ⟨b, o + i * 16, none⟩))).run Tryz.prog W = .ok (agg .u8 (ns.getD i [])) W :=
  ld_row16 (d := (Tryz.prog.underlying 23).get (by kernel_rfl)) (by kernel_rfl) (by kernel_rfl) (by kernel_rfl) hN hk hc
/-- A row that is not empty lies at an address. -/
theorem slc_addr {w : World} {size n : Nat} {v : Value} {xs : List Value} (h : SlC w size v n xs) (h0 : 0 < n) : ∃ b o c, v = .slice (some ⟨b, o, none⟩) n c ∧ n ≤ c ∧ b < w.heap.size ∧ ∀ j u, xs[j]? = some u → w.cell? ⟨b, o + j, none⟩ = some u := by
  obtain ⟨A, c, hv, hc, hl, hn, hr⟩ := h
  cases A with
  | none => have := hn rfl; omega
  | some ad =>
    obtain ⟨b, o, rfl, hlt, hcell⟩ := hr _ rfl
    exact ⟨b, o, c, hv, hc, hlt, hcell⟩
theorem bs_node0 (w : World) : (bsA 77 0 #[]).run Tryz.prog w = .ok (.slice (some ⟨w.heap.size, 0, none⟩) 0 0) (w.alloc (.cells #[] 81)) := by kernel_rfl
attribute [local go_sem] bs_node0
set_option maxRecDepth 20000 in
theorem clone (w : World) (v : Value) (ns : List (List Nat)) (hv : SlN w v ns) (h0 : 0 < ns.length) (h63 : ns.length ≤ 1000000) :
    Calls Tryz.prog 91 #[v] w fun e w' => ∃ x, e = .returned x ∧ OwnN 81 w' w.heap.size x ns ∧ Below w.heap.size w w' := by
  obtain ⟨b, o, c, rfl, hnc, hlt, -⟩ := slc_addr hv h0
  have HV := Lib.hid (hv.keep ((Below.refl w.heap.size w).alloc (Nat.le_refl _) (.cells #[] 81)))
  have hown : OwnN 81 (w.alloc (.cells #[] 81)) w.heap.size (.slice (some ⟨w.heap.size, 0, none⟩) 0 0) [] := World.ownsRow_made _ #[] 0 (Nat.le_refl _) (by unfold maxLen; omega) rfl
  obtain ⟨v', w', h1, h2, h3⟩ := run_append (P := Tryz.prog) 77 77 ((Tryz.prog.info? 81).get (by kernel_rfl)) (((Tryz.prog.info? 81).get (by kernel_rfl)).zero.get (by kernel_rfl)) 16 Tryz.underlying77 (by kernel_rfl) (by kernel_rfl) (by kernel_rfl) (by kernel_rfl) (by kernel_rfl) (by omega) hown HV.out (cl_one .u8 _) (by unfold maxLen; simp; omega) (by simp; omega) (by simp only [alloc_size]; omega)
  have hb : Below w.heap.size w w' := ((Below.refl w.heap.size w).alloc (Nat.le_refl _) (.cells #[] 81)).grown h3 (by simp only [alloc_size]; omega) (fun k hk => by cases hk; exact Nat.le_refl _)
  have h4 : OwnN 81 w' w.heap.size v' ns := by
    have e : ([] : List (List Nat)).length + ns.length = ns.length := by simp
    have e2 : cl .u8 ([] : List (List Nat)).flatten ++ cl .u8 ns.flatten = cl .u8 ns.flatten := by simp [cl]
    rw [e, e2] at h2
    exact h2
  have H4 := Lib.hid h4
  have hnil := fun (W : World) (a : Option Addr) (n c : Nat) => Lib.run_eql_slice_nil (P := Tryz.prog) W 77 81 a n c 0 0 Tryz.underlying77
  clear hv hown h2 h3 h4 HV
  go_enter Tryz.func91, Tryz.ntmps91
  go_wp2_with (at_builtin; refine Lib.wpList_append_run _ rfl (.tmp 5) (.tmp 6) 77 77 rfl _ _ rfl rfl v' w' h1 ?_)
  go_ret
  exact ⟨_, rfl, H4.out, hb⟩
/-! the rows of a tree -/
def pairUp (lv : Nat) (l : List (List Nat)) (j : Nat) : List Nat := joinN lv (l.getD (2 * j) []) (l.getD (2 * j + 1) [])
def row (ns : List (List Nat)) : Nat → List (List Nat)
  | 0 => ns
  | k + 1 => lv0 (pairUp (k + 1) (row ns k)) ((row ns k).length / 2)
theorem row_length {ns : List (List Nat)} {h : Nat} (hl : ns.length = 2 ^ h) : ∀ k, k ≤ h → (row ns k).length = 2 ^ (h - k)
  | 0, _ => hl
  | k + 1, hk => by
    rw [row, lv0_length, row_length hl k (by omega), show h - k = (h - (k + 1)) + 1 by omega, Nat.pow_succ, Nat.mul_div_cancel _ (by omega)]
theorem lv0_16 {N : Nat → List Nat} (h : ∀ i, (N i).length = 16) (k : Nat) : N16 (lv0 N k) := fun x hx => by
  obtain ⟨i, _, rfl⟩ := List.mem_map.1 hx
  exact h i
theorem row_16 {ns : List (List Nat)} (h : N16 ns) : ∀ k, N16 (row ns k)
  | 0 => h
  | k + 1 => lv0_16 (fun _ => joinN_length _ _ _) _
end Go.Proofs.YtlgpipdeckdmjaaGreat.Mer
/-
  The levels of a tree of nodes.
-/
set_option linter.unusedVariables false
set_option linter.unusedSimpArgs false
namespace Go.Proofs.YtlgpipdeckdmjaaGreat.Mer
open Go.RowKit Base Reg Types Slice Sha
open Go.Proofs.YtlgpipdeckdmjaaGreat.One
open Go.Proofs.YtlgpipdeckdmjaaGreat.Str
/-- append of one node, as a step of a region that draws its order. -/
theorem step_append_node {ops : Array Oper} {o : Oper} {a : Act} {w : World} {K : Act → World → Prop} {Q : Exit → Act → World → Prop} {X : Prop} {base b : Nat} {v : Value} {ns : List (List Nat)} {x : List Nat} {te : TypeId}
    (hg : o.guard = none) (s y : Operand) (ho : o.op = .call { callee := .builtin .append, args := #[s, y], argTypes := #[77, 77] }) (hs : a.eval s = v) (hy : a.eval y = .slice (some ⟨b, 0, none⟩) 1 1)
    (hown : OwnN 81 w base v ns) (hx : x.length = 16) (hb : blk w b (cl .u8 x) te) (h63 : ns.length ≤ 1000000) (hbase : base ≤ w.heap.size)
    (h : ∀ v' w', OwnN 81 w' base v' (ns ++ [x]) → w.grownBy w' v.ownBlock → K (a.put o.dst v') w') :
    if Region.wanted o (yielded ops a.tmps) = true then Oper.wp Tryz.prog o a w K Q else X := by
  have hw : Region.wanted o (yielded ops a.tmps) = true := by simp [Region.wanted, hg]
  rw [if_pos hw]
  obtain ⟨v', w', h1, h2, h3⟩ := run_append_one (ty := o.type) ((Tryz.prog.info? 81).get (by kernel_rfl)) (((Tryz.prog.info? 81).get (by kernel_rfl)).zero.get (by kernel_rfl)) Tryz.underlying77 (by kernel_rfl) (by kernel_rfl) (by kernel_rfl) (by kernel_rfl) (by kernel_rfl) hown hx hb h63 hbase
  exact Lib.wp_append_run w s y _ _ ho _ _ hs hy v' w' h1 (h v' w' h2 h3)
theorem own_ne {w : World} {b1 b2 s1 s2 n1 n2 : Nat} {e1 e2 : TypeId} {v1 v2 : Value} {x1 x2 : List Value} (h1 : w.ownsRow b1 e1 s1 v1 n1 x1) (h2 : w.ownsRow b2 e2 s2 v2 n2 x2) (he : e1 ≠ e2) : v1.ownBlock = none ∨ v1.ownBlock ≠ v2.ownBlock := by
  rcases h1.2 with ⟨rfl, _⟩ | ⟨g, cap, cur, rfl, _, hh, _⟩
  · exact .inl rfl
  · refine .inr fun e => ?_
    rcases h2.2 with ⟨rfl, _⟩ | ⟨g2, cap2, cur2, rfl, _, hh2, _⟩
    · cases e
    · have : g = g2 := Option.some.inj e
      subst this
      rw [hh] at hh2
      injection hh2 with h3
      injection h3 with h4 h5
      exact he h5
/-- A row of slices of nodes, the call's own: its m rows are the first ones of the tree. -/
def Lev (ns : List (List Nat)) (W : World) (base : Nat) (v : Value) (m : Nat) : Prop :=
  ∃ vs : List Value, vs.length = m ∧ W.ownsRow base 77 1 v m vs ∧ ∀ i, i < m → OwnN 81 W base (vs.getD i undef) (row ns i)
theorem Lev.keep {ns : List (List Nat)} {W W' : World} {base m : Nat} {v : Value} (h : Lev ns W base v m) (hb : Below W.heap.size W W') : Lev ns W' base v m := by
  obtain ⟨vs, h1, h2, h3⟩ := h
  exact ⟨vs, h1, own_keep h2 hb, fun i hi => own_keep (h3 i hi) hb⟩
theorem Lev.own {ns : List (List Nat)} {W : World} {base m : Nat} {v : Value} (h : Lev ns W base v m) : ∀ k, v.ownBlock = some k → base ≤ k := by
  obtain ⟨vs, h1, h2, h3⟩ := h
  rcases h2.2 with ⟨rfl, _⟩ | ⟨g, cap, cur, rfl, hb, _⟩
  · intro k hk; cases hk
  · intro k hk; cases hk; exact hb
theorem Lev.addr {ns : List (List Nat)} {W : World} {base m : Nat} {v : Value} (h : Lev ns W base v m) (h0 : 0 < m) :
    ∃ (g c : Nat) (vs : List Value), v = .slice (some ⟨g, 0, none⟩) m c ∧ m ≤ c ∧ c ≤ maxLen ∧ g < W.heap.size ∧ vs.length = m ∧ (∀ i, i < m → W.cell? ⟨g, i, none⟩ = some (vs.getD i undef)) ∧ (∀ i, i < m → OwnN 81 W base (vs.getD i undef) (row ns i)) := by
  obtain ⟨vs, h1, h2, h3⟩ := h
  have hs := SlC.of_own h2
  rcases h2.2 with ⟨rfl, hm⟩ | ⟨g, cap, cur, rfl, hb, hh, hnc, hc, _, _⟩
  · omega
  · refine ⟨g, cap, vs, rfl, hnc, hc, (Array.getElem?_eq_some_iff.1 hh).1, h1, fun i hi => ?_, h3⟩
    obtain ⟨b, o, c, hv, _, _, hcell⟩ := slc_addr hs h0
    cases hv
    have := hcell i (vs.getD i undef) (by rw [List.getD_eq_getElem?_getD, List.getElem?_eq_getElem (by omega)]; rfl)
    rwa [Nat.zero_add] at this
/-- append(v, x): one row more. -/
theorem run_append_lev {w : World} {ns : List (List Nat)} {base b m : Nat} {v x : Value} {ty te : TypeId} (hl : Lev ns w base v m) (hx : OwnN 81 w base x (row ns m)) (hb : blk w b [x] te) (h63 : m ≤ 1000000) (hbase : base ≤ w.heap.size) :
    ∃ v' w', (Builtin.append_ #[118, 118] ty #[v, .slice (some ⟨b, 0, none⟩) 1 1]).run Tryz.prog w = .ok v' w' ∧ Lev ns w' base v' (m + 1) ∧ w.grownBy w' v.ownBlock := by
  obtain ⟨vs, h1, h2, h3⟩ := hl
  have hx1 : x.oneCell' = true := by
    obtain ⟨A, c, rfl⟩ := ownN_slice hx
    rfl
  have h := run_append (P := Tryz.prog) 118 ty ((Tryz.prog.info? 77).get (by kernel_rfl)) (((Tryz.prog.info? 77).get (by kernel_rfl)).zero.get (by kernel_rfl)) 24 Tryz.underlying118 (by kernel_rfl) (by kernel_rfl) (by kernel_rfl) (by kernel_rfl) (by kernel_rfl) (by omega) h2 (SlC.of_blk (n := 1) (size := 1) (c := 1) (o := 0) (xs := [x]) hb (Nat.le_refl _) rfl (fun j u hj => by rw [Nat.zero_add]; exact hj)) (fun u hu => by rw [List.mem_singleton] at hu; rw [hu]; exact hx1) (by unfold maxLen; omega) (by omega) hbase
  obtain ⟨v', w', h4, h5, h6⟩ := h
  refine ⟨v', w', h4, ⟨vs ++ [x], by simp [h1], h5, fun i hi => ?_⟩, h6⟩
  by_cases him : i < m
  · rw [List.getD_eq_getElem?_getD, List.getElem?_append_left (by omega), ← List.getD_eq_getElem?_getD]
    exact (h3 i him).kept h6 (own_ne (h3 i him) h2 (by decide))
  · obtain rfl : i = m := by omega
    rw [List.getD_eq_getElem?_getD, List.getElem?_append_right (by omega), h1, Nat.sub_self]
    exact hx.kept h6 (own_ne hx h2 (by decide))
set_option maxRecDepth 20000 in
set_option maxHeartbeats 4000000 in
theorem levels (w : World) (v : Value) (ns : List (List Nat)) (h : Nat) (hv : SlN w v ns) (hN : N16 ns) (hl : ns.length = 2 ^ h) (hh : h ≤ 8) :
    Calls Tryz.prog 67 #[v] w fun e w' => ∃ x, e = .returned x ∧ Lev ns w' w.heap.size x (h + 1) ∧ Below w.heap.size w w' := by
  have hp : ∀ k, k ≤ h → 1 ≤ 2 ^ (h - k) ∧ 2 ^ (h - k) ≤ 256 := fun k _ => ⟨Nat.one_le_two_pow, by
    have : 2 ^ (h - k) ≤ 2 ^ 8 := Nat.pow_le_pow_right (by omega) (by omega)
    omega⟩
  have h0 : 0 < ns.length ∧ ns.length ≤ 1000000 := by have := hp 0 (by omega); rw [hl]; rw [Nat.sub_zero] at this; omega
  have HN := Lib.hid hN
  have HL := Lib.hid (row_length hl)
  have HP := Lib.hid hp
  have H0 := Lib.hid (clone w v ns hv h0.1 h0.2)
  clear hv hN hl hp h0
  go_enter Tryz.func67, Tryz.ntmps67
  go_wp2_with fail
  refine H0.out.mono ?_
  rintro e w1 ⟨x, rfl, ho1, hb1⟩
  obtain ⟨Ax, cx, rfl⟩ := ownN_slice ho1
  have S0 : Lev ns (w1.alloc (.cells #[.slice Ax ns.length cx] 77)) w.heap.size (.slice (some ⟨w1.heap.size, 0, none⟩) 1 1) 1 := by
    refine ⟨[.slice Ax ns.length cx], rfl, ?_, fun i hi => ?_⟩
    · have h := own_lit (P := Tryz.prog) w1 77 [.slice Ax ns.length cx] 1 (size := 1) (by unfold maxLen; omega) rfl
      exact own_mono h hb1.size
    · obtain rfl : i = 0 := by omega
      exact own_keep ho1 ((Below.refl _ _).alloc (Nat.le_refl _) _)
  have S1 := Lib.hid (And.intro S0 (hb1.alloc hb1.size (.cells #[.slice Ax ns.length cx] 77)))
  clear ho1 hb1 H0 S0
  go_wp2_with fail
  go_loopw [3, 4] (fun x l wr => ∃ k : Nat, k ≤ h ∧ l = .int .i64 ((k : Int) + 1) ∧ Lev ns wr w.heap.size x (k + 1) ∧ Below w.heap.size w wr) (fun _ l _ => h + 2 - (intOf l).toNat)
  case atStart => exact ⟨0, by omega, rfl, S1.out.1, S1.out.2⟩
  case round =>
    clear S1
    obtain ⟨k, hk, rfl, hlev, hb⟩ := hrel
    obtain ⟨g, cg, vs, rfl, hkc, hcm, hg, hvl, hcell, hrows⟩ := Lev.addr hlev (by omega)
    have hck := hcell k (by omega)
    have hrow := hrows k (by omega)
    obtain ⟨Ab, cb, hAb⟩ := ownN_slice hrow
    rw [hAb] at hck hrow
    have lk := HL.out k hk
    have pk := HP.out k hk
    have hsl := SlC.of_own hrow
    obtain ⟨b, o, cb', hbo, hmc, hlt, hcl⟩ := slc_addr hsl (by omega)
    cases hbo
    obtain ⟨m, hm⟩ : ∃ m, m = (row ns k).length := ⟨_, rfl⟩
    rw [← hm] at hck lk hmc
    have HC := Lib.hid hcl
    have HM := Lib.hid hm
    have HLV := Lib.hid hlev
    have HLK := Lib.hid lk
    have hm256 : m ≤ 256 := by omega
    have hm1 : 1 ≤ m := by omega
    have h63 : cg ≤ 9223372036854775807 := by unfold maxLen at hcm; omega
    clear hcell hrows hAb hrow hsl hcl hm hlev hvl hcm pk
    by_cases hkh : k < h
    · have hm2 : ∃ m2, m = 2 * m2 ∧ 1 ≤ m2 := by
        obtain ⟨q, hq⟩ : ∃ q, h - k = q + 1 := ⟨h - k - 1, by omega⟩
        refine ⟨2 ^ q, ?_, Nat.one_le_two_pow⟩
        rw [HLK.out, hq, Nat.pow_succ]
        omega
      obtain ⟨m2, hm2, hm21⟩ := hm2
      have hmm : 1 < m := by omega
      have HM2 := Lib.hid hm2
      have hd : decide ((1 : Int) < (m : Int)) = true := by simp; omega
      clear lk hm2
      go_wp2_with fail
      clear hd
      obtain ⟨wo, hwo⟩ : ∃ wo : World, wo = wr := ⟨_, rfl⟩
      subst hwo
      go_loopw [6, 7] (fun l i wi => ∃ j t : Nat, j ≤ m2 ∧ Hid (t = 2 * j) ∧ i = .int .i64 (t : Int) ∧ OwnN 81 wi wo.heap.size l (lv0 (pairUp (k + 1) (row ns k)) j) ∧ Below wo.heap.size wo wi) (fun _ i _ => m - (intOf i).toNat)
      case atStart => exact ⟨0, 0, by omega, rfl, rfl, ownN_nil _ _ _, Below.refl _ _⟩
      case round =>
        obtain ⟨j, t, hj, ht, rfl, ho, hbi⟩ := hrel
        by_cases hj2 : j < m2
        · have ht2 : t + 1 < m := by have := ht.out; have := HM2.out; omega
          have lX := (row_16 HN.out k).getD (i := t) (by rw [← HM.out]; omega)
          have lY := (row_16 HN.out k).getD (i := t + 1) (by rw [← HM.out]; omega)
          have hJ : pairUp (k + 1) (row ns k) j = joinN (k + 1) ((row ns k).getD t []) ((row ns k).getD (t + 1) []) := by unfold pairUp; rw [ht.out]
          have ldX : ∀ W, Below wo.heap.size wo W → (ldA 81 (.pointer (some ⟨b, o + t * 16, none⟩))).run Tryz.prog W = .ok (agg .u8 ((row ns k).getD t [])) W := fun W hW => ld_node (row_16 HN.out k) (by rw [← HM.out]; omega) (fun j u hj => (hW.cell (p := ⟨b, o + j, none⟩) hlt).trans (HC.out j u hj))
          have ldY : ∀ W, Below wo.heap.size wo W → (ldA 81 (.pointer (some ⟨b, o + (t + 1) * 16, none⟩))).run Tryz.prog W = .ok (agg .u8 ((row ns k).getD (t + 1) [])) W := fun W hW => ld_node (row_16 HN.out k) (by rw [← HM.out]; omega) (fun j u hj => (hW.cell (p := ⟨b, o + j, none⟩) hlt).trans (HC.out j u hj))
          generalize (row ns k).getD t [] = X at lX ldX hJ
          generalize (row ns k).getD (t + 1) [] = Y at lY ldY hJ
          obtain ⟨Z, hZ⟩ : ∃ Z, Z = joinN (k + 1) X Y := ⟨_, rfl⟩
          have lZ : Z.length = 16 := by rw [hZ]; exact joinN_length _ _ _
          have cJ : Hid (∀ W, Calls Tryz.prog 92 #[.int .i64 ((k : Int) + 1), agg .u8 X, agg .u8 Y] W fun e w' => e = .returned (agg .u8 Z) ∧ Below W.heap.size W w') := Lib.hid fun W => by rw [hZ]; exact join W (k + 1) X Y lX lY (by omega)
          rw [← hZ] at hJ
          have q1 := ldX _ (bel_drewN hbi 1)
          have q2 := ldY _ (bel_drewN hbi 1)
          rw [show wr.drewN 1 = wr.drew from rfl] at q1 q2
          have HO := Lib.hid ho
          have HBI := Lib.hid hbi
          have HJ := Lib.hid hJ
          have ht1 : t < m := by omega
          have hw1 : IntKind.i64.wrap ((t : Int) + 1) = (t : Int) + 1 := by rw [IntKind.wrap_i64]; omega
          have hw2 : 0 ≤ (t : Int) + 1 := by omega
          have hw3 : ((t : Int) + 1).toNat = t + 1 := by omega
          have hw4 : (t : Int) + 1 < (m : Int) := by omega
          clear hJ ldX ldY hZ ho hbi
          go_wp2_with fail
          go_region_law (first
            | (refine Law.step_call rfl 92 _ _ rfl #[.int .i64 ((k : Int) + 1), agg .u8 X, agg .u8 Y] rfl (fun _ => by kernel_rfl) (cJ.out _) ?_
               rintro e w1 ⟨rfl, hw1⟩
               refine ⟨_, rfl, ?_⟩
               have HO1 := Lib.hid (own_keep (own_keep HO.out (Below.refl _ _).drew) hw1)
               have HB1 := Lib.hid (bel_trans HBI.out.drew hw1 HBI.out.size)
               clear hw1)
            | (refine step_append_node rfl (.tmp 32) (.tmp 44) rfl rfl rfl (own_keep HO1.out ((Below.refl _ _).alloc (Nat.le_refl _) _)) lZ (blk_new _ (cl .u8 Z) 81) (by rw [lv0_length]; have := HM2.out; omega) (by have := HB1.out.size; simp only [alloc_size]; omega) ?_
               intro v2 w2 ho2 hg2
               have hb2 := (HB1.out.alloc HB1.out.size (.cells (cl .u8 Z).toArray 81)).grown hg2 (by have := HB1.out.size; simp only [alloc_size]; omega) (fun j hj => by have := own_blockN HO1.out j (by simpa [Act.eval] using hj); omega)
               rw [← HJ.out, ← lv0_succ] at ho2
               have HO2 := Lib.hid ho2
               have HB2 := Lib.hid hb2
               clear hg2 ho2 hb2)
            | fail)
          all_goals
            clear hw1 hw2 hw3 hw4
            go_wp2_with fail
            go_roundw
            case rel => exact ⟨j + 1, t + 2, by omega, by have := ht.out; exact (by omega : t + 2 = 2 * (j + 1)), by go_num, HO2.out, HB2.out⟩
            case measure => simp [intOf]; omega
        · obtain rfl : j = m2 := by omega
          have hnt : ¬ t + 1 < m := by have := ht.out; have := HM2.out; omega
          have ht3 : t ≤ 256 := by have := ht.out; have := HM2.out; omega
          have e1 : lv0 (pairUp (k + 1) (row ns k)) j = row ns (k + 1) := by
            rw [row, ← HM.out, HM2.out, Nat.mul_div_cancel_left _ (by omega)]
          rw [e1] at ho
          clear e1
          obtain ⟨Al, cl', rfl⟩ := ownN_slice ho
          have lr : (row ns (k + 1)).length = j := by rw [row, lv0_length, ← HM.out, HM2.out, Nat.mul_div_cancel_left _ (by omega)]
          have ho' := own_mono ho hb.size
          rw [lr] at ho'
          rw [lr]
          have HO := Lib.hid ho'
          have hbw := bel_trans hb hbi hb.size
          have HLW := Lib.hid (Lev.keep HLV.out hbi)
          clear ho ho' lr hbi
          obtain ⟨v3, w3, r1, r2, r3⟩ := run_append_lev (ty := 118) (b := wr.heap.size) (x := .slice Al j cl') (te := 77) (Lev.keep HLW.out ((Below.refl _ _).alloc (Nat.le_refl _) (.cells #[.slice Al j cl'] 77))) (by
            have := own_keep HO.out ((Below.refl _ _).alloc (Nat.le_refl _) (.cells #[.slice Al j cl'] 77))
            have lr : (row ns (k + 1)).length = j := by rw [row, lv0_length, ← HM.out, HM2.out, Nat.mul_div_cancel_left _ (by omega)]
            unfold OwnN
            rw [lr]
            exact this) (blk_new wr [.slice Al j cl'] 77) (by omega) (by have := hbw.size; simp only [alloc_size]; omega)
          have hb3 := (hbw.alloc hbw.size (.cells #[.slice Al j cl'] 77)).grown r3 (by have := hbw.size; simp only [alloc_size]; omega) (fun q hq => Lev.own HLW.out q hq)
          have R2 := Lib.hid r2
          clear r2 r3
          go_wp2_with (
            at_builtin
            refine Lib.wpList_append_run _ rfl (.tmp 46) (.tmp 48) 118 118 rfl _ _ rfl rfl v3 w3 r1 ?_)
          go_roundw
          case rel => exact ⟨k + 1, by omega, by go_num, R2.out, hb3⟩
          case measure => simp [intOf]; omega
    · obtain rfl : k = h := by omega
      have hm1' : m = 1 := by rw [HLK.out, Nat.sub_self]
      have HX := Lib.hid HLV.out
      clear lk
      subst hm1'
      go_wp2_with fail
      go_ret
      exact ⟨_, rfl, HX.out, hb⟩
end Go.Proofs.YtlgpipdeckdmjaaGreat.Mer
/-
  merkle.Root, merkle.Path.
-/
set_option linter.unusedVariables false
set_option linter.unusedSimpArgs false
namespace Go.Proofs.YtlgpipdeckdmjaaGreat.Mer
open Go.RowKit Base Reg Types Slice Sha
open Go.Proofs.YtlgpipdeckdmjaaGreat.One
open Go.Proofs.YtlgpipdeckdmjaaGreat.Str
theorem pow_cases {h : Nat} (hh : h ≤ 8) : 2 ^ h = 1 ∨ 2 ^ h = 2 ∨ 2 ^ h = 4 ∨ 2 ^ h = 8 ∨ 2 ^ h = 16 ∨ 2 ^ h = 32 ∨ 2 ^ h = 64 ∨ 2 ^ h = 128 ∨ 2 ^ h = 256 := by
  have : h = 0 ∨ h = 1 ∨ h = 2 ∨ h = 3 ∨ h = 4 ∨ h = 5 ∨ h = 6 ∨ h = 7 ∨ h = 8 := by omega
  rcases this with rfl | rfl | rfl | rfl | rfl | rfl | rfl | rfl | rfl <;> decide
def rootN (ns : List (List Nat)) (h : Nat) : List Nat := (row ns h).getD 0 []
theorem rootN_length {ns : List (List Nat)} {h : Nat} (hN : N16 ns) (hl : ns.length = 2 ^ h) : (rootN ns h).length = 16 := (row_16 hN h).getD (by rw [row_length hl h (Nat.le_refl _), Nat.sub_self]; decide)
set_option maxRecDepth 20000 in
theorem mroot (w : World) (v : Value) (ns : List (List Nat)) (h : Nat) (hv : SlN w v ns) (hN : N16 ns) (hl : ns.length = 2 ^ h) (hh : h ≤ 8) :
    Calls Tryz.prog 39 #[v] w fun e w' => e = .returned (.tuple #[agg .u8 (rootN ns h), .int .i64 0]) ∧ Below w.heap.size w w' := by
  have hL := rootN_length hN hl
  have lh := row_length hl h (Nat.le_refl _)
  rw [Nat.sub_self, Nat.pow_zero] at lh
  have hA : ∃ A c, v = .slice A (2 ^ h) c := by
    obtain ⟨A, c, h1, _⟩ := hv
    exact ⟨A, c, by rw [h1, hl]⟩
  have HV := Lib.hid (hv.keep ((Below.refl w.heap.size w).alloc (Nat.le_refl _) (.cells (cl .u8 (zs 16)).toArray 81)))
  obtain ⟨A, c, rfl⟩ := hA
  have CK := Lib.hid fun W => mcheck W A (2 ^ h) c (pow_cases hh)
  have HN := Lib.hid hN
  have HLL := Lib.hid hl
  have HLH := Lib.hid lh
  clear hv hN hl lh
  go_enter Tryz.func39, Tryz.ntmps39
  go_wp2_with fail
  refine (CK.out _).mono ?_
  rintro e w0 ⟨rfl, rfl⟩
  go_wp2_with fail
  refine (levels _ _ ns h HV.out HN.out HLL.out hh).mono ?_
  rintro e w1 ⟨x, rfl, hlev, hb1⟩
  have hR1 := blk_keep (blk_new w (cl .u8 (zs 16)) 81) hb1
  have hB1 := bel_trans ((Below.refl w.heap.size w).alloc (Nat.le_refl _) (.cells (cl .u8 (zs 16)).toArray 81)) hb1 (by simp only [alloc_size]; omega)
  have k1 := bk_of hR1
  obtain ⟨g, cg, vs, rfl, hkc, hcm, hg, hvl, hcell, hrows⟩ := Lev.addr hlev (by omega)
  have hck := hcell h (by omega)
  have hrow := hrows h (by omega)
  have hsl := SlC.of_own hrow
  obtain ⟨b, o, cb, hbo, hmc, hlt, hcl⟩ := slc_addr hsl (by rw [HLH.out]; omega)
  rw [hbo, HLH.out] at hck
  have q := ld_node (i := 0) (row_16 HN.out h) (by rw [HLH.out]; omega) hcl
  rw [Nat.zero_mul, Nat.add_zero, show (row ns h).getD 0 [] = rootN ns h from rfl] at q
  have h63 : cg ≤ 9223372036854775807 := by unfold maxLen at hcm; omega
  have HR1 := Lib.hid hR1
  clear hcell hrows hrow hsl hcl hbo hlev hcm hb1 hR1
  go_wp2_with fail
  refine ret2_node rfl rfl rfl (blk_setRow HR1.out (cl .u8 (rootN ns h))) hL rfl ⟨rfl, bel_setRow hB1 (Nat.le_refl _) _⟩
/-! the path of a leaf -/
theorem bits_xor1 (n : Nat) (hn : n ≤ 1000000) : bits .xor .i64 (n : Int) 1 = ((n ^^^ 1 : Nat) : Int) := by
  have h1 : n ^^^ 1 < 2 ^ 20 := Nat.xor_lt_two_pow (by omega) (by omega)
  show IntKind.i64.wrap ((BitVec.ofInt 64 (n : Int) ^^^ BitVec.ofInt 64 1).toNat : Int) = _
  rw [BitVec.toNat_xor, BitVec.ofInt_natCast, BitVec.toNat_ofNat, show (BitVec.ofInt 64 1).toNat = 1 from by decide, Nat.mod_eq_of_lt (by omega), IntKind.wrap_i64]
  omega
set_option maxRecDepth 20000 in
theorem xor1 : ∀ n, n < 256 → n ^^^ 1 = if n % 2 = 1 then n - 1 else n + 1 := by decide
def pathF (ns : List (List Nat)) (i k : Nat) : List Nat := (row ns k).getD ((i / 2 ^ k) ^^^ 1) []
theorem idx_lt {i h k : Nat} (hi : i < 2 ^ h) (hk : k < h) : i / 2 ^ k < 2 ^ (h - k) := by
  rw [Nat.div_lt_iff_lt_mul (Nat.two_pow_pos k), ← Nat.pow_add]
  rwa [show h - k + k = h by omega]
theorem sib_lt {i h k : Nat} (hi : i < 2 ^ h) (hk : k < h) (hh : h ≤ 8) : (i / 2 ^ k) ^^^ 1 < 2 ^ (h - k) := by
  have h1 := idx_lt hi hk
  have h2 : 2 ^ (h - k) ≤ 2 ^ 8 := Nat.pow_le_pow_right (by omega) (by omega)
  obtain ⟨q, hq⟩ : ∃ q, h - k = q + 1 := ⟨h - k - 1, by omega⟩
  obtain ⟨n, hn⟩ : ∃ n, n = i / 2 ^ k := ⟨_, rfl⟩
  rw [← hn] at h1 ⊢
  rw [xor1 n (by omega)]
  rw [hq, Nat.pow_succ] at h1 ⊢
  generalize 2 ^ q = z at h1 ⊢
  split <;> omega
set_option maxRecDepth 20000 in
set_option maxHeartbeats 4000000 in
theorem path (w : World) (v : Value) (ns : List (List Nat)) (h i : Nat) (base : Nat) (hv : Lev ns w base v (h + 1)) (hN : N16 ns) (hl : ns.length = 2 ^ h) (hh : h ≤ 8) (hi : i < 2 ^ h) :
    Calls Tryz.prog 66 #[v, .int .i64 (i : Int)] w fun e w' => ∃ x, e = .returned x ∧ OwnN 81 w' w.heap.size x (lv0 (pathF ns i) h) ∧ Below w.heap.size w w' := by
  obtain ⟨g, cg, vs, rfl, hkc, hcm, hg, hvl, hcell, hrows⟩ := Lev.addr hv (by omega)
  have h63 : cg ≤ 9223372036854775807 := by unfold maxLen at hcm; omega
  have HN := Lib.hid hN
  have HLL := Lib.hid hl
  have HC := Lib.hid hcell
  have HR := Lib.hid hrows
  have HI := Lib.hid hi
  clear hv hN hl hcell hrows hcm hi
  go_enter Tryz.func66, Tryz.ntmps66
  go_wp2_with fail
  go_loopw [1, 5, 14] (fun j x k wr => ∃ m : Nat, m ≤ h ∧ k = .int .i64 (m : Int) ∧ j = .int .i64 ((i / 2 ^ m : Nat) : Int) ∧ OwnN 81 wr w.heap.size x (lv0 (pathF ns i) m) ∧ Below w.heap.size w wr) (fun _ _ k _ => h - (intOf k).toNat)
  case atStart => exact ⟨0, by omega, rfl, by rw [Nat.pow_zero, Nat.div_one], ownN_nil _ _ _, Below.refl _ _⟩
  case round =>
    obtain ⟨m, hm, rfl, rfl, ho, hb⟩ := hrel
    by_cases hmh : m < h
    · have hs := sib_lt HI.out hmh hh
      have hi' := idx_lt HI.out hmh
      have h2 : 2 ^ (h - m) ≤ 2 ^ 8 := Nat.pow_le_pow_right (by omega) (by omega)
      have hrow := HR.out m (by omega)
      have hck := (hb.cell (p := ⟨g, m, none⟩) hg).trans (HC.out m (by omega))
      have lr := row_length HLL.out m (by omega)
      have hsl := SlC.of_own hrow
      obtain ⟨b, o, cb, hbo, hmc, hlt, hcl⟩ := slc_addr hsl (by omega)
      rw [hbo, lr] at hck
      obtain ⟨q, hq⟩ : ∃ q, q = i / 2 ^ m := ⟨_, rfl⟩
      obtain ⟨n, hn⟩ : ∃ n, n = 2 ^ (h - m) := ⟨_, rfl⟩
      obtain ⟨s, hse⟩ : ∃ s, s = q ^^^ 1 := ⟨_, rfl⟩
      have hx := bits_xor1 q (by rw [hq]; omega)
      have hq2 : i / 2 ^ (m + 1) = q / 2 := by rw [hq, Nat.pow_succ, Nat.div_div_eq_div_mul]
      have lN : pathF ns i m = (row ns m).getD s [] := by rw [pathF, hse, hq]
      rw [← hq, ← hse, ← hn] at hs
      rw [← hq] at hi' ⊢
      rw [← hn] at hck hi' lr
      have hcl' : ∀ j u, (cl .u8 (row ns m).flatten)[j]? = some u → wr.cell? ⟨b, o + j, none⟩ = some u := fun j u hj => (hb.cell (p := ⟨b, o + j, none⟩) hlt).trans (hcl j u hj)
      have qs := ld_node (i := s) (row_16 HN.out m) (by omega) hcl'
      have lS := (row_16 HN.out m).getD (i := s) (by omega)
      rw [← lN] at qs lS
      rw [← hse] at hx
      have hn256 : n ≤ 256 := by omega
      have HO := Lib.hid ho
      have HQ2 := Lib.hid hq2
      generalize hZ : pathF ns i m = Z at qs lS
      have HZ := Lib.hid hZ
      clear hrow hsl hcl hcl' hbo hq hn hse hq2 lN ho h2 lr hZ
      go_wp2_with (
        at_builtin
        refine wpList_append_node rfl (.tmp 18) (.tmp 24) rfl rfl rfl (own_keep HO.out ((Below.refl _ _).alloc (Nat.le_refl _) _)) lS (blk_new wr (cl .u8 Z) 81) (by rw [lv0_length]; omega) (by have := hb.size; simp only [alloc_size]; omega) ?_
        intro v2 w2 ho2 hg2)
      have hb2 := (hb.alloc hb.size (.cells (cl .u8 Z).toArray 81)).grown hg2 (by have := hb.size; simp only [alloc_size]; omega) (fun j hj => by have := own_blockN HO.out j (by simpa [Act.eval] using hj); omega)
      rw [← HZ.out, ← lv0_succ] at ho2
      clear hg2
      go_roundw
      case rel => exact ⟨m + 1, by omega, by go_num, by rw [HQ2.out]; go_num, ho2, hb2⟩
      case measure => simp [intOf]; omega
    · obtain rfl : m = h := by omega
      have HO := Lib.hid ho
      clear ho
      go_wp2_with fail
      go_ret
      exact ⟨_, rfl, HO.out, hb⟩
set_option maxRecDepth 20000 in
theorem mpath (w : World) (v : Value) (ns : List (List Nat)) (h i : Nat) (hv : SlN w v ns) (hN : N16 ns) (hl : ns.length = 2 ^ h) (hh : h ≤ 8) (hi : i < 2 ^ h) :
    Calls Tryz.prog 37 #[v, .int .i64 (i : Int)] w fun e w' => ∃ x, e = .returned (.tuple #[x, .int .i64 0]) ∧ OwnN 81 w' w.heap.size x (lv0 (pathF ns i) h) ∧ Below w.heap.size w w' := by
  have hA : ∃ A c, v = .slice A (2 ^ h) c := by
    obtain ⟨A, c, h1, _⟩ := hv
    exact ⟨A, c, by rw [h1, hl]⟩
  have HV := Lib.hid hv
  obtain ⟨A, c, rfl⟩ := hA
  have CK := Lib.hid fun W => mcheck W A (2 ^ h) c (pow_cases hh)
  have p8 : 2 ^ h ≤ 2 ^ 8 := Nat.pow_le_pow_right (by omega) hh
  have HN := Lib.hid hN
  have HLL := Lib.hid hl
  have HII := Lib.hid hi
  obtain ⟨n, hn⟩ : ∃ n, n = 2 ^ h := ⟨_, rfl⟩
  have hin : i < n := by omega
  have hn256 : n ≤ 256 := by omega
  have EN := Lib.hid hn
  rw [← hn] at HV CK ⊢
  clear hv hN hl hi p8 hn
  go_enter Tryz.func37, Tryz.ntmps37
  go_wp2_with fail
  refine (CK.out _).mono ?_
  rintro e w0 ⟨rfl, rfl⟩
  go_wp2_with fail
  refine (levels _ _ ns h HV.out HN.out HLL.out hh).mono ?_
  rintro e w1 ⟨x, rfl, hlev, hb1⟩
  have HLV := Lib.hid hlev
  clear hlev
  go_wp2_with fail
  refine (path _ _ ns h i _ HLV.out HN.out HLL.out hh HII.out).mono ?_
  rintro e w2 ⟨y, rfl, ho, hb2⟩
  have HO := Lib.hid (own_mono ho hb1.size)
  have hb := bel_trans hb1 hb2 hb1.size
  clear ho hb1 hb2
  go_wp2_with fail
  go_ret2
  exact ⟨_, rfl, HO.out, hb⟩
end Go.Proofs.YtlgpipdeckdmjaaGreat.Mer
/-
  A region that draws its order and makes memory on the way: .. and what holds as long as an operation has not been done. No program.
-/
set_option linter.unusedVariables false
set_option linter.unusedSimpArgs false
namespace Go.Proofs.YtlgpipdeckdmjaaGreat.Ord
section
variable {P : Program} {ops : Array Oper} {md : Region.Mode}
theorem wpAny_inv2 {n : Nat} {Q : Exit → Act → World → Prop} {B : Act → World → Prop} {G U : Nat → Act → World → Prop} (hs : Region.sinkB md ops n = true) (hc : Region.chainB md ops n = true) (hn : n < ops.size) (ht : topoB md ops n = true) (g : Nat)
    (hop : ∀ i o, i < n → ops[i]? = some o → ∀ a w, B a w → U i a w → (∀ e ∈ o.after, Region.binds md e = true → G e.on a w) → wpOp P ops Q i (fun a' w' => B a' w' ∧ G i a' w' ∧ ∀ j, j < n → j ≠ i → (G j a w → G j a' w') ∧ (U j a w → U j a' w')) a w)
    (htail : ∀ listed a w, HeadInv md ops n listed → (∀ j, j < n → listed.getD j false = true) → B a w → (∀ j, j < n → G j a w) → wpAny P md ops Q g listed a w) :
    ∀ (f : Nat) (listed : Array Bool) (a : Act) (w : World), cnt listed n = f → HeadInv md ops n listed → B a w → (∀ j, j < n → listed.getD j false = true → G j a w) → (∀ j, j < n → listed.getD j false = false → U j a w) → wpAny P md ops Q (f + g) listed a w := by
  intro f
  induction f with
  | zero =>
    intro listed a w hf inv hB hG hU
    rw [Nat.zero_add]
    have := cnt_zero hf
    exact htail listed a w inv this hB (fun j hj => hG j hj (this j hj))
  | succ f ih =>
    intro listed a w hf inv hB hG hU
    rw [show f + 1 + g = (f + g) + 1 by omega]
    have hex : ∃ j, j < n ∧ listed.getD j false = false := by
      refine Classical.byContradiction fun hno => ?_
      have hall : ∀ j, j < n → listed.getD j false = true := fun j hj => by
        by_cases hb : listed.getD j false = true
        · exact hb
        · exact absurd ⟨j, hj, by simpa using hb⟩ hno
      have h0 : ∀ m, m ≤ n → cnt listed m = 0 := by
        intro m
        induction m with
        | zero => intro _; rfl
        | succ m ihm => intro hm; simp only [cnt]; rw [ihm (by omega), hall m (by omega)]; rfl
      have := h0 n (Nat.le_refl _)
      omega
    obtain ⟨r, hr⟩ := first_ready ht (by omega) inv.size hex
    obtain ⟨j0, hj0, hj0f⟩ := hex
    refine ⟨fun h => (by rw [h] at hr; cases hr), fun i hi => ?_⟩
    have hin : i < n := Nat.lt_of_not_le fun h => tail_waits hs hc hn inv _ j0 rfl hj0 (getD_in (by rw [inv.size]; omega) hj0f) i h hi
    obtain ⟨hiu, o, ho, hall⟩ := mem_ready.1 hi
    refine wpOp_mono (fun a' w' h => ?_) (hop i o hin ho a w hB (hU i hin (getD_both hiu)) (fun e he hb => hG e.on (by have := topo_spec ht hin ho e he hb; omega) (hall e he hb)))
    have hsz : i < listed.size := by rw [inv.size]; omega
    refine ih (listed.setIfInBounds i true) a' w' ?_ (inv.set hi hin) h.1 (fun j hj hl => ?_) (fun j hj hl => ?_)
    · have := cnt_set hsz (getD_both hiu) hin
      omega
    · by_cases hji : j = i
      · subst hji; exact h.2.1
      · rw [getD_set_ne false (Ne.symm hji)] at hl
        exact (h.2.2 j hj hji).1 (hG j hj hl)
    · by_cases hji : j = i
      · subst hji
        have h1 : (listed.setIfInBounds j true).getD j false = true := by simp [hsz]
        rw [h1] at hl; cases hl
      · rw [getD_set_ne false (Ne.symm hji)] at hl
        exact (h.2.2 j hj hji).2 (hU j hj hl)

/-- A region that draws: its first n operations in whatever order, each needing what those that it waits for have brought, the others behind them in one order. -/
theorem wp_region_inv2 {id : Nat} {Q : Exit → Act → World → Prop} {a : Act} {w : World} {l : List Oper} (n : Nat) (B : Act → World → Prop) (G U : Nat → Act → World → Prop) (hm : P.follows .mixedOrders = true)
    (hk : (Region.sinkB .any l.toArray n && Region.chainB .any l.toArray n && decide (n < l.toArray.size) && topoB .any l.toArray n && Region.seqB .any l.toArray (l.toArray.size - n) n (Array.replicate n true ++ Array.replicate (l.toArray.size - n) false)) = true)
    (hB : B a w.drew) (hU : ∀ j, j < n → U j a w.drew)
    (hop : ∀ i o, i < n → l[i]? = some o → ∀ a w, B a w → U i a w → (∀ e ∈ o.after, Region.binds .any e = true → G e.on a w) → wpList P l.toArray (QK (fun a' w' => B a' w' ∧ G i a' w' ∧ ∀ j, j < n → j ≠ i → (G j a w → G j a' w') ∧ (U j a w → U j a' w')) Q) [o] a w)
    (htail : ∀ a w, B a w → (∀ j, j < n → G j a w) → wpList P l.toArray Q (l.drop n) a w) : (Code.region id l.toArray true).wp P Q a w := by
  simp only [Bool.and_eq_true, decide_eq_true_eq] at hk
  obtain ⟨⟨⟨⟨hs, hc⟩, hn⟩, ht⟩, hseq⟩ := hk
  have inv0 : HeadInv .any l.toArray n (Array.replicate l.toArray.size false) :=
    ⟨by simp, fun j oj _ hl => (by rw [getD_replicate_false] at hl; cases hl), fun t _ ht => getD_in (by simpa using ht) (getD_replicate_false _ _)⟩
  have hc0 : ∀ m, cnt (Array.replicate l.toArray.size false) m = m := by
    intro m
    induction m with
    | zero => rfl
    | succ m ih => simp only [cnt]; rw [ih, getD_replicate_false]; rfl
  refine wp_region_any hm ?_
  have hdl : (l.drop n).length = l.toArray.size - n := by simp
  have h := wpAny_inv2 (Q := Q) (B := B) (G := G) (U := U) hs hc hn ht (l.toArray.size - n) (fun i o hin ho a w hB hU hG => wpOp_of_list ho (hop i o hin (by simpa using ho) a w hB hU hG)) (fun listed a' w' inv hall hB' hG' => by
    have el : listed = Array.replicate n true ++ Array.replicate (l.toArray.size - n) false := by
      apply Array.ext
      · rw [inv.size]; simp; simp at hn; omega
      · intro i h1 h2
        by_cases hin : i < n
        · have := hall i hin
          rw [Array.getElem_append_left (by simpa using hin)]
          simpa [h1] using this
        · have := inv.tail i (by omega) (by rw [← inv.size]; exact h1)
          rw [Array.getElem_append_right (by simpa using hin)]
          simpa [h1] using this
    have := wpAny_of_seq (md := .any) (Q' := Q) (l.drop n) n listed a' w' (fun j => by simp [List.getElem?_drop]) (by rw [hdl, el]; exact hseq) (htail a' w' hB' hG')
    rwa [hdl] at this) n (Array.replicate l.toArray.size false) a w.drew (hc0 n) inv0 hB (fun j hj hl => by rw [getD_replicate_false] at hl; cases hl) (fun j hj _ => hU j hj)
  rw [show n + (l.toArray.size - n) = l.toArray.size by omega] at h
  exact h
end
end Go.Proofs.YtlgpipdeckdmjaaGreat.Ord
