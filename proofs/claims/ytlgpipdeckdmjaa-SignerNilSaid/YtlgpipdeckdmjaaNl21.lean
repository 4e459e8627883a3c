/-
  Several texts laid into one (merge.py): Nil4, Tab, Nil5.
-/
import Derived.Test.YtlgpipdeckdmjaaNl20
import Derived.Test.YtlgpipdeckdmjaaNl08
import Derived.Below
/-
  bulletinlaw08: Own, Back: a signature copied from one type into the other. Printed by gen_own.py.
-/
set_option linter.unusedVariables false
set_option linter.unusedSimpArgs false
namespace Go.Proofs.Ytlgpipdeckdmjaa.Nil
open Go.RowKit Base Reg Types Slice Sha
open Go.Proofs.Ytlgpipdeckdmjaa.One
open Go.Proofs.Ytlgpipdeckdmjaa.Str
open Go.Proofs.Ytlgpipdeckdmjaa.Mer
open Go.Proofs.Ytlgpipdeckdmjaa.Sgn
theorem step_append_rows {ops : Array Oper} {o : Oper} {a : Act} {w : World} {K : Act → World → Prop} {Q : Exit → Act → World → Prop} {X : Prop} {base : Nat} {v x : Value} {ns ms : List (List Nat)}
    (hg : o.guard = none) (s y : Operand) (ho : o.op = .call { callee := .builtin .append, args := #[s, y], argTypes := #[56, 56] }) (hs : a.eval s = v) (hy : a.eval y = x)
    (hown : OwnN 22 w base v ns) (hx : SlN w x ms) (h63 : ns.length + ms.length ≤ 1000000) (hbase : base ≤ w.heap.size)
    (h : ∀ v' w', OwnN 22 w' base v' (ns ++ ms) → w.grownBy w' v.ownBlock → K (a.put o.dst v') w') :
    if Region.wanted o (yielded ops a.tmps) = true then Oper.wp Try.prog o a w K Q else X := by
  have hw : Region.wanted o (yielded ops a.tmps) = true := by simp [Region.wanted, hg]
  rw [if_pos hw]
  obtain ⟨v', w', h1, h2, h3⟩ := run_append (P := Try.prog) 56 o.type ((Try.prog.info? 22).get (by kernel_rfl)) (((Try.prog.info? 22).get (by kernel_rfl)).zero.get (by kernel_rfl)) 16 Try.underlying56 (by kernel_rfl) (by kernel_rfl) (by kernel_rfl) (by kernel_rfl) (by kernel_rfl) (by omega) hown hx (cl_one .u8 _) (by unfold maxLen; omega) (by omega) hbase
  have h4 : OwnN 22 w' base v' (ns ++ ms) := by
    unfold OwnN
    rw [List.length_append, List.flatten_append, ← cl_append]
    exact h2
  exact Lib.wp_append_run w s y _ _ ho _ _ hs hy v' w' h1 (h v' w' h4 h3)
theorem bs_val0 (w : World) : (bsA 56 0 #[]).run Try.prog w = .ok (.slice (some ⟨w.heap.size, 0, none⟩) 0 0) (w.alloc (.cells #[] 22)) := by kernel_rfl
attribute [local go_sem] bs_val0
set_option maxRecDepth 20000 in
set_option maxHeartbeats 4000000 in
theorem own (w : World) (l : Int) (ch : List Nat) (v : Value) (ps : List (List Nat)) (hc : ch.length = 560) (hv : SlN w v ps) (h63 : ps.length ≤ 1000000) :
    Calls Try.prog 51 #[.agg (sigV l ch v).toArray] w fun e w' => ∃ p, e = .returned (.agg (sigV l ch p).toArray) ∧ OwnN 22 w' w.heap.size p ps ∧ Below w.heap.size w w' := by
  obtain ⟨A, c, rfl, -⟩ := id hv
  obtain ⟨Z, hZ⟩ : ∃ Z, Z = zs 560 := ⟨_, rfl⟩
  have lZ : Z.length = 560 := by rw [hZ, zs_length]
  have a0 := al_sg
  rw [← hZ] at a0
  obtain ⟨n, hn⟩ : ∃ n, n = ps.length := ⟨_, rfl⟩
  have HN := Lib.hid hn
  have HV := Lib.hid (show SlN w (.slice A n c) ps by rw [hn]; exact hv)
  have H63 := Lib.hid h63
  rw [← hn]
  clear hv h63 hZ hn
  obtain ⟨W0, hW0⟩ : ∃ W0, W0 = (w.alloc (.cells (sigV l ch (.slice A n c)).toArray 61)).alloc (.cells (sigV 0 Z (.slice none 0 0)).toArray 58) := ⟨_, rfl⟩
  have b1 : blk W0 w.heap.size (sigV l ch (.slice A n c)) 61 := by rw [hW0]; exact blk_alloc (blk_new _ _ _) _
  have b2 : blk W0 (w.heap.size + 1) (sigV 0 Z (.slice none 0 0)) 58 := by rw [hW0]; exact blk_at _ _ _ (by simp only [alloc_size])
  have bl : Below w.heap.size w W0 := by rw [hW0]; exact ((Below.refl w.heap.size w).alloc (Nat.le_refl _) _).alloc (by simp only [alloc_size]; omega) _
  have hz : W0.heap.size = w.heap.size + 1 + 1 := by rw [hW0]; simp only [alloc_size]
  have d1 : blk ((W0.alloc (.cells #[] 22)).drew) w.heap.size (sigV l ch (.slice A n c)) 61 := blk_drew (blk_alloc b1 _)
  have d2 : blk ((W0.alloc (.cells #[] 22)).drew) (w.heap.size + 1) (sigV 0 Z (.slice none 0 0)) 58 := blk_drew (blk_alloc b2 _)
  have dl : Below w.heap.size w ((W0.alloc (.cells #[] 22)).drew) := (bl.alloc bl.size _).drew
  have ho : OwnN 22 ((W0.alloc (.cells #[] 22)).drew) W0.heap.size (.slice (some ⟨W0.heap.size, 0, none⟩) 0 0) [] := by
    have h1 : OwnN 22 (W0.alloc (.cells #[] 22)) W0.heap.size (.slice (some ⟨W0.heap.size, 0, none⟩) 0 0) [] := World.ownsRow_made _ #[] 0 (Nat.le_refl _) (by unfold maxLen; omega) rfl
    exact own_keep h1 (Below.refl _ _).drew
  have q1 := sig_leaf (blk_drew b1)
  have q2 := sig_path hc (blk_drew b1)
  have q3 := ld_chains hc (blk_drew b1)
  have q4 := ld_chains hc d1
  have q5 := sig_leaf b1
  have q6 := sig_path hc b1
  have q7 := sig_leaf (blk_alloc b1 (.cells #[] 22))
  have q8 := sig_path hc (blk_alloc b1 (.cells #[] 22))
  have HZ := Lib.hid hz
  have S1 := Lib.hid (And.intro d1 (And.intro d2 (And.intro dl ho)))
  have HW0 := Lib.hid hW0
  clear b1 b2 bl d1 d2 dl ho hW0 hz
  go_enter Try.func51, Try.ntmps51
  go_wp2_with fail
  rw [← HW0.out]
  go_region_law (first
    | (refine step_append_rows rfl (.tmp 7) (.tmp 9) rfl rfl rfl S1.out.2.2.2 (HV.out.keep S1.out.2.2.1) (by have := H63.out; simp; omega) (by simp) ?_
       intro v2 w2 ho2 hg2
       have hz2 := S1.out.2.2.1.size
       have hb2 := S1.out.2.2.1.grown hg2 hz2 (fun k hk => by have := own_blockN S1.out.2.2.2 k hk; have := HZ.out; omega)
       have f1 := blk_grown S1.out.1 hg2 (own_blk_ne S1.out.2.2.2 S1.out.1 (by decide))
       have f2 := blk_grown S1.out.2.1 hg2 (own_blk_ne S1.out.2.2.2 S1.out.2.1 (by decide))
       have r1 := sig_leaf f1
       have r2 := sig_path hc f1
       have r3 := ld_chains hc f1
       have r4 := bk_of f2
       obtain ⟨A2, c2, rfl⟩ := ownN_slice ho2
       rw [List.nil_append] at ho2
       have S2 := Lib.hid (And.intro (own_mono ho2 (by have := HZ.out; omega : w.heap.size ≤ W0.heap.size)) (And.intro f2 hb2))
       clear hg2 hb2 f1 f2 ho2)
    | (trace_state; fail))
  all_goals
    go_wp2_with fail
    try rw [← HN.out] at S2
    try rw [← HN.out]
    refine ret_sg rfl rfl (blk_setRow S2.out.2.1 (sigV l ch (.slice A2 n c2))) (by rw [sigV_length, hc]) rfl ⟨_, rfl, ?_, bel_setRow S2.out.2.2 (by omega) _⟩
    have h3 := own_setRow S2.out.1 (own_blk_ne S2.out.1 S2.out.2.1 (by decide)) (cs := (sigV l ch (.slice A2 n c2)).toArray)
    unfold OwnN
    rw [← HN.out]
    exact h3
set_option maxRecDepth 20000 in
set_option maxHeartbeats 4000000 in
theorem back (w : World) (l : Int) (ch : List Nat) (v : Value) (ps : List (List Nat)) (hc : ch.length = 560) (hv : SlN w v ps) (h63 : ps.length ≤ 1000000) :
    Calls Try.prog 32 #[.agg (sigV l ch v).toArray] w fun e w' => ∃ p, e = .returned (.agg (sigV l ch p).toArray) ∧ OwnN 22 w' w.heap.size p ps ∧ Below w.heap.size w w' := by
  obtain ⟨A, c, rfl, -⟩ := id hv
  obtain ⟨Z, hZ⟩ : ∃ Z, Z = zs 560 := ⟨_, rfl⟩
  have lZ : Z.length = 560 := by rw [hZ, zs_length]
  have a0 := al_rsg
  rw [← hZ] at a0
  obtain ⟨n, hn⟩ : ∃ n, n = ps.length := ⟨_, rfl⟩
  have HN := Lib.hid hn
  have HV := Lib.hid (show SlN w (.slice A n c) ps by rw [hn]; exact hv)
  have H63 := Lib.hid h63
  rw [← hn]
  clear hv h63 hZ hn
  obtain ⟨W0, hW0⟩ : ∃ W0, W0 = (w.alloc (.cells (sigV l ch (.slice A n c)).toArray 58)).alloc (.cells (sigV 0 Z (.slice none 0 0)).toArray 61) := ⟨_, rfl⟩
  have b1 : blk W0 w.heap.size (sigV l ch (.slice A n c)) 58 := by rw [hW0]; exact blk_alloc (blk_new _ _ _) _
  have b2 : blk W0 (w.heap.size + 1) (sigV 0 Z (.slice none 0 0)) 61 := by rw [hW0]; exact blk_at _ _ _ (by simp only [alloc_size])
  have bl : Below w.heap.size w W0 := by rw [hW0]; exact ((Below.refl w.heap.size w).alloc (Nat.le_refl _) _).alloc (by simp only [alloc_size]; omega) _
  have hz : W0.heap.size = w.heap.size + 1 + 1 := by rw [hW0]; simp only [alloc_size]
  have d1 : blk ((W0.alloc (.cells #[] 22)).drew) w.heap.size (sigV l ch (.slice A n c)) 58 := blk_drew (blk_alloc b1 _)
  have d2 : blk ((W0.alloc (.cells #[] 22)).drew) (w.heap.size + 1) (sigV 0 Z (.slice none 0 0)) 61 := blk_drew (blk_alloc b2 _)
  have dl : Below w.heap.size w ((W0.alloc (.cells #[] 22)).drew) := (bl.alloc bl.size _).drew
  have ho : OwnN 22 ((W0.alloc (.cells #[] 22)).drew) W0.heap.size (.slice (some ⟨W0.heap.size, 0, none⟩) 0 0) [] := by
    have h1 : OwnN 22 (W0.alloc (.cells #[] 22)) W0.heap.size (.slice (some ⟨W0.heap.size, 0, none⟩) 0 0) [] := World.ownsRow_made _ #[] 0 (Nat.le_refl _) (by unfold maxLen; omega) rfl
    exact own_keep h1 (Below.refl _ _).drew
  have q1 := sig_leaf (blk_drew b1)
  have q2 := sig_path hc (blk_drew b1)
  have q3 := ld_chains hc (blk_drew b1)
  have q4 := ld_chains hc d1
  have q5 := sig_leaf b1
  have q6 := sig_path hc b1
  have q7 := sig_leaf (blk_alloc b1 (.cells #[] 22))
  have q8 := sig_path hc (blk_alloc b1 (.cells #[] 22))
  have HZ := Lib.hid hz
  have S1 := Lib.hid (And.intro d1 (And.intro d2 (And.intro dl ho)))
  have HW0 := Lib.hid hW0
  clear b1 b2 bl d1 d2 dl ho hW0 hz
  go_enter Try.func32, Try.ntmps32
  go_wp2_with fail
  rw [← HW0.out]
  go_region_law (first
    | (refine step_append_rows rfl (.tmp 7) (.tmp 9) rfl rfl rfl S1.out.2.2.2 (HV.out.keep S1.out.2.2.1) (by have := H63.out; simp; omega) (by simp) ?_
       intro v2 w2 ho2 hg2
       have hz2 := S1.out.2.2.1.size
       have hb2 := S1.out.2.2.1.grown hg2 hz2 (fun k hk => by have := own_blockN S1.out.2.2.2 k hk; have := HZ.out; omega)
       have f1 := blk_grown S1.out.1 hg2 (own_blk_ne S1.out.2.2.2 S1.out.1 (by decide))
       have f2 := blk_grown S1.out.2.1 hg2 (own_blk_ne S1.out.2.2.2 S1.out.2.1 (by decide))
       have r1 := sig_leaf f1
       have r2 := sig_path hc f1
       have r3 := ld_chains hc f1
       have r4 := bk_of f2
       obtain ⟨A2, c2, rfl⟩ := ownN_slice ho2
       rw [List.nil_append] at ho2
       have S2 := Lib.hid (And.intro (own_mono ho2 (by have := HZ.out; omega : w.heap.size ≤ W0.heap.size)) (And.intro f2 hb2))
       clear hg2 hb2 f1 f2 ho2)
    | (trace_state; fail))
  all_goals
    go_wp2_with fail
    try rw [← HN.out] at S2
    try rw [← HN.out]
    refine ret_rsg rfl rfl (blk_setRow S2.out.2.1 (sigV l ch (.slice A2 n c2))) (by rw [sigV_length, hc]) rfl ⟨_, rfl, ?_, bel_setRow S2.out.2.2 (by omega) _⟩
    have h3 := own_setRow S2.out.1 (own_blk_ne S2.out.1 S2.out.2.1 (by decide)) (cs := (sigV l ch (.slice A2 n c2)).toArray)
    unfold OwnN
    rw [← HN.out]
    exact h3
end Go.Proofs.Ytlgpipdeckdmjaa.Nil
/-
  A region that draws its order, by a table: operation i writes slot b0 + i, a value of which Pv i holds; what holds only grows with the world. No program.
-/
set_option linter.unusedVariables false
set_option linter.unusedSimpArgs false
namespace Go.Proofs.Ytlgpipdeckdmjaa.Ord
open Go.RowKit
section
variable {P : Program}
/-- The slots ahead of the region's own. -/
structure Fix (b0 n : Nat) (base : Nat → Value) (a : Act) : Prop where
  defers : a.defers = []
  size : a.tmps.size = n
  slots : ∀ k, k < b0 → a.tmps.getD k undef = base k
theorem getD_set_other (t : Array Value) {d k : Nat} (v : Value) (h : k ≠ d) : (t.setIfInBounds d v).getD k undef = t.getD k undef := by
  simp only [Array.getD_eq_getD_getElem?]
  rw [Array.getElem?_setIfInBounds_ne (Ne.symm h)]
theorem getD_set_same (t : Array Value) {d : Nat} (v : Value) (h : d < t.size) : (t.setIfInBounds d v).getD d undef = v := by
  simp only [Array.getD_eq_getD_getElem?]
  rw [Array.getElem?_setIfInBounds_self_of_lt h]
  rfl
theorem Fix.put {b0 n : Nat} {base : Nat → Value} {a : Act} (h : Fix b0 n base a) {d : Nat} (hd : b0 ≤ d) (v : Value) : Fix b0 n base (a.put (some d) v) :=
  ⟨h.defers, by show (a.tmps.setIfInBounds d v).size = n; rw [Array.size_setIfInBounds, h.size], fun k hk => (getD_set_other a.tmps v (by omega)).trans (h.slots k hk)⟩
theorem Fix.get {b0 n : Nat} {base : Nat → Value} {a : Act} (h : Fix b0 n base a) {k : Nat} {v : Value} (hk : k < n) (hv : a.tmps.getD k undef = v) : a.tmps[k]? = some v := by
  rw [← hv, Array.getD_eq_getD_getElem?]
  have : k < a.tmps.size := by rw [h.size]; exact hk
  rw [Array.getElem?_eq_getElem this]
  rfl
theorem wp_region_tab {id : Nat} {Q : Exit → Act → World → Prop} {a : Act} {w : World} {l : List Oper} (n b0 N : Nat) (base : Nat → Value) (S : World → Prop) (Pv : Nat → Value → World → Prop) (hm : P.follows .mixedOrders = true)
    (hk : (Region.sinkB .any l.toArray n && Region.chainB .any l.toArray n && decide (n < l.toArray.size) && topoB .any l.toArray n && Region.seqB .any l.toArray (l.toArray.size - n) n (Array.replicate n true ++ Array.replicate (l.toArray.size - n) false)) = true)
    (hN : b0 + n ≤ N) (hS : S w.drew) (hF : Fix b0 N base a)
    (hmono : ∀ i v W W', S W → Below W.heap.size W W' → Pv i v W → Pv i v W')
    (hop : ∀ i o, i < n → l[i]? = some o → ∀ a w (K : Act → World → Prop), S w → Fix b0 N base a → (∀ e ∈ o.after, Region.binds .any e = true → Pv e.on (a.tmps.getD (b0 + e.on) undef) w) → (∀ v w', S w' → Below w.heap.size w w' → Pv i v w' → K (a.put (some (b0 + i)) v) w') → wpList P l.toArray (QK K Q) [o] a w)
    (htail : ∀ a w, S w → Fix b0 N base a → (∀ j, j < n → Pv j (a.tmps.getD (b0 + j) undef) w) → wpList P l.toArray Q (l.drop n) a w) : (Code.region id l.toArray true).wp P Q a w := by
  refine wp_region_inv n (fun a w => S w ∧ Fix b0 N base a) (fun j a w => Pv j (a.tmps.getD (b0 + j) undef) w) hm hk ⟨hS, hF⟩ ?_ (fun a w hB hG => htail a w hB.1 hB.2 hG)
  intro i o hi ho a w hB hG
  refine hop i o hi ho a w _ hB.1 hB.2 hG ?_
  intro v w' hS' hb hv
  refine ⟨⟨hS', hB.2.put (by omega) v⟩, ?_, ?_⟩
  · show Pv i ((a.tmps.setIfInBounds (b0 + i) v).getD (b0 + i) undef) w'
    rw [getD_set_same _ _ (by rw [hB.2.size]; omega)]
    exact hv
  · intro j hj hji hGj
    show Pv j ((a.tmps.setIfInBounds (b0 + i) v).getD (b0 + j) undef) w'
    rw [getD_set_other _ _ (by omega)]
    exact hmono j _ w w' hB.1 hb hGj
end
end Go.Proofs.Ytlgpipdeckdmjaa.Ord
/-
  The walk of SignerNil, up to its last region.
-/
set_option linter.unusedVariables false
set_option linter.unusedSimpArgs false
namespace Go.Proofs.Ytlgpipdeckdmjaa.Nil
open Go.RowKit Base Reg Types Slice Sha
open Go.Proofs.Ytlgpipdeckdmjaa.One
open Go.Proofs.Ytlgpipdeckdmjaa.Str
open Go.Proofs.Ytlgpipdeckdmjaa.Mer
open Go.Proofs.Ytlgpipdeckdmjaa.Sgn
open Go.Proofs.Ytlgpipdeckdmjaa.Known8 (known)
open Go.Proofs.Ytlgpipdeckdmjaa.Signed (rd_bl16 bl16_0)
attribute [local go_sem ↓ high] rd_bl16
attribute [local go_sem] bl16_0
set_option maxRecDepth 20000 in
set_option maxHeartbeats 4000000 in
/-- Too many values on a path: the law asks 'known' alone. -/
theorem walk_out (w : World) (l1 l2 k : Int) (x1 x2 : List Nat) (A1 A2 : Option Addr) (n1 n2 c1 c2 : Nat) (h1 : x1.length = 560) (h2 : x2.length = 560) (ho : ¬ (n1 ≤ 20 ∧ n2 ≤ 20)) :
    Calls Try.prog 12 #[.agg (sigV l1 x1 (.slice A1 n1 c1)).toArray, .agg (sigV l2 x2 (.slice A2 n2 c2)).toArray, .int .i64 k] w fun e w' => e = .returned (.bool true) ∧ Below w.heap.size w w' := by
  obtain ⟨W0, hW0⟩ : ∃ W0, W0 = (w.alloc (.cells (sigV l1 x1 (.slice A1 n1 c1)).toArray 61)).alloc (.cells (sigV l2 x2 (.slice A2 n2 c2)).toArray 61) := ⟨_, rfl⟩
  have b1 : blk W0 w.heap.size (sigV l1 x1 (.slice A1 n1 c1)) 61 := by rw [hW0]; exact blk_alloc (blk_new _ _ _) _
  have b2 : blk W0 (w.heap.size + 1) (sigV l2 x2 (.slice A2 n2 c2)) 61 := by rw [hW0]; exact blk_at _ _ _ (by simp only [alloc_size])
  have bl : Below w.heap.size w W0 := by rw [hW0]; exact ((Below.refl w.heap.size w).alloc (Nat.le_refl _) _).alloc (by simp only [alloc_size]; omega) _
  have HW := Lib.hid hW0
  have S0 := Lib.hid (And.intro b1 (And.intro b2 bl))
  clear b1 b2 bl hW0
  go_enter Try.func12, Try.ntmps12
  go_wp2_with fail
  rw [← HW.out]
  refine (known W0).mono ?_
  rintro e w1 ⟨rfl, hb1⟩
  have S1 := Lib.hid (And.intro (blk_keep S0.out.1 hb1) (And.intro (blk_keep S0.out.2.1 hb1) (bel_trans S0.out.2.2 hb1 S0.out.2.2.size)))
  have k1 := bk_of S1.out.1
  clear hb1
  go_wp2_with fail
  refine (few w1 l1 x1 A1 n1 c1 h1).mono ?_
  rintro e w2 ⟨rfl, hb2⟩
  have S2 := Lib.hid (And.intro (blk_keep S1.out.1 hb2) (And.intro (blk_keep S1.out.2.1 hb2) (bel_trans S1.out.2.2 hb2 S1.out.2.2.size)))
  have k2 := bk_of S2.out.2.1
  clear hb2 k1
  by_cases h20 : n1 ≤ 20
  · have h202 : ¬ n2 ≤ 20 := fun h => ho ⟨h20, h⟩
    go_wp2_with fail
    refine (few w2 l2 x2 A2 n2 c2 h2).mono ?_
    rintro e w3 ⟨rfl, hb3⟩
    have hb := bel_trans S2.out.2.2 hb3 S2.out.2.2.size
    clear hb3 k2
    go_wp2_with fail
    refine (known _).mono ?_
    rintro e w4 ⟨rfl, hb4⟩
    have hbe := bel_trans hb hb4 hb.size
    clear hb4
    go_wp2_with fail
    go_ret
    exact ⟨rfl, hbe⟩
  · go_wp2_with fail
    refine (known _).mono ?_
    rintro e w4 ⟨rfl, hb4⟩
    have hbe := bel_trans S2.out.2.2 hb4 S2.out.2.2.size
    clear hb4
    go_wp2_with fail
    go_ret
    exact ⟨rfl, hbe⟩
end Go.Proofs.Ytlgpipdeckdmjaa.Nil
