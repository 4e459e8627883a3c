/-
  Several texts laid into one (merge.py): Nil4.
-/
import Derived.Test.YtlgpipdeckdmjaaGreatVf21
/-
  bulletinlaw08: Own, Back: a signature copied from one type into the other. Printed by gen_own.py.
-/
set_option linter.unusedVariables false
set_option linter.unusedSimpArgs false
namespace Go.Proofs.YtlgpipdeckdmjaaGreat.Nil
open Go.RowKit Base Reg Types Slice Sha
open Go.Proofs.YtlgpipdeckdmjaaGreat.One
open Go.Proofs.YtlgpipdeckdmjaaGreat.Str
open Go.Proofs.YtlgpipdeckdmjaaGreat.Mer
open Go.Proofs.YtlgpipdeckdmjaaGreat.Sgn
theorem step_append_rows {ops : Array Oper} {o : Oper} {a : Act} {w : World} {K : Act → World → Prop} {Q : Exit → Act → World → Prop} {X : Prop} {base : Nat} {v x : Value} {ns ms : List (List Nat)}
    (hg : o.guard = none) (s y : Operand) (ho : o.op = .call { callee := .builtin .append, args := #[s, y], argTypes := #[29, 29] }) (hs : a.eval s = v) (hy : a.eval y = x)
    (hown : OwnN 23 w base v ns) (hx : SlN w x ms) (h63 : ns.length + ms.length ≤ 1000000) (hbase : base ≤ w.heap.size)
    (h : ∀ v' w', OwnN 23 w' base v' (ns ++ ms) → w.grownBy w' v.ownBlock → K (a.put o.dst v') w') :
    if Region.wanted o (yielded ops a.tmps) = true then Oper.wp Tryz.prog o a w K Q else X := by
  have hw : Region.wanted o (yielded ops a.tmps) = true := by simp [Region.wanted, hg]
  rw [if_pos hw]
  obtain ⟨v', w', h1, h2, h3⟩ := run_append (P := Tryz.prog) 29 o.type ((Tryz.prog.info? 23).get (by kernel_rfl)) (((Tryz.prog.info? 23).get (by kernel_rfl)).zero.get (by kernel_rfl)) 16 Tryz.underlying29 (by kernel_rfl) (by kernel_rfl) (by kernel_rfl) (by kernel_rfl) (by kernel_rfl) (by omega) hown hx (cl_one .u8 _) (by unfold maxLen; omega) (by omega) hbase
  have h4 : OwnN 23 w' base v' (ns ++ ms) := by
    unfold OwnN
    rw [List.length_append, List.flatten_append, ← cl_append]
    exact h2
  exact Lib.wp_append_run w s y _ _ ho _ _ hs hy v' w' h1 (h v' w' h4 h3)
theorem bs_val0 (w : World) : (bsA 29 0 #[]).run Tryz.prog w = .ok (.slice (some ⟨w.heap.size, 0, none⟩) 0 0) (w.alloc (.cells #[] 23)) := by kernel_rfl
attribute [local go_sem] bs_val0
set_option maxRecDepth 20000 in
set_option maxHeartbeats 4000000 in
theorem own (w : World) (l : Int) (ch : List Nat) (v : Value) (ps : List (List Nat)) (hc : ch.length = 560) (hv : SlN w v ps) (h63 : ps.length ≤ 1000000) :
    Calls Tryz.prog 16 #[.agg (sigV l ch v).toArray] w fun e w' => ∃ p, e = .returned (.agg (sigV l ch p).toArray) ∧ OwnN 23 w' w.heap.size p ps ∧ Below w.heap.size w w' := by
  obtain ⟨A, c, rfl, -⟩ := id hv
  obtain ⟨Z, hZ⟩ : ∃ Z, Z = zs 560 := ⟨_, rfl⟩
  have lZ : Z.length = 560 := by rw [hZ, zs_length]
  have a0 := al_sg
  rw [← hZ] at a0
  obtain ⟨n, hn⟩ : ∃ n, n = ps.length := ⟨_, rfl⟩
  have HN := Lib.hid hn
  have HV := Lib.hid (show SlN w (.slice A n c) ps by rw [hn]; exact hv)
  have H63 := Lib.hid h63
  rw [← hn]
  clear hv h63 hZ hn
  obtain ⟨W0, hW0⟩ : ∃ W0, W0 = (w.alloc (.cells (sigV l ch (.slice A n c)).toArray 36)).alloc (.cells (sigV 0 Z (.slice none 0 0)).toArray 31) := ⟨_, rfl⟩
  have b1 : blk W0 w.heap.size (sigV l ch (.slice A n c)) 36 := by rw [hW0]; exact blk_alloc (blk_new _ _ _) _
  have b2 : blk W0 (w.heap.size + 1) (sigV 0 Z (.slice none 0 0)) 31 := by rw [hW0]; exact blk_at _ _ _ (by simp only [alloc_size])
  have bl : Below w.heap.size w W0 := by rw [hW0]; exact ((Below.refl w.heap.size w).alloc (Nat.le_refl _) _).alloc (by simp only [alloc_size]; omega) _
  have hz : W0.heap.size = w.heap.size + 1 + 1 := by rw [hW0]; simp only [alloc_size]
  have d1 : blk ((W0.alloc (.cells #[] 23)).drew) w.heap.size (sigV l ch (.slice A n c)) 36 := blk_drew (blk_alloc b1 _)
  have d2 : blk ((W0.alloc (.cells #[] 23)).drew) (w.heap.size + 1) (sigV 0 Z (.slice none 0 0)) 31 := blk_drew (blk_alloc b2 _)
  have dl : Below w.heap.size w ((W0.alloc (.cells #[] 23)).drew) := (bl.alloc bl.size _).drew
  have ho : OwnN 23 ((W0.alloc (.cells #[] 23)).drew) W0.heap.size (.slice (some ⟨W0.heap.size, 0, none⟩) 0 0) [] := by
    have h1 : OwnN 23 (W0.alloc (.cells #[] 23)) W0.heap.size (.slice (some ⟨W0.heap.size, 0, none⟩) 0 0) [] := World.ownsRow_made _ #[] 0 (Nat.le_refl _) (by unfold maxLen; omega) rfl
    exact own_keep h1 (Below.refl _ _).drew
  have q1 := sig_leaf (blk_drew b1)
  have q2 := sig_path hc (blk_drew b1)
  have q3 := ld_chains hc (blk_drew b1)
  have q4 := ld_chains hc d1
  have q5 := sig_leaf b1
  have q6 := sig_path hc b1
  have q7 := sig_leaf (blk_alloc b1 (.cells #[] 23))
  have q8 := sig_path hc (blk_alloc b1 (.cells #[] 23))
  have HZ := Lib.hid hz
  have S1 := Lib.hid (And.intro d1 (And.intro d2 (And.intro dl ho)))
  have HW0 := Lib.hid hW0
  clear b1 b2 bl d1 d2 dl ho hW0 hz
  go_enter Tryz.func16, Tryz.ntmps16
  go_wp2_with fail
  rw [← HW0.out]
  go_region_law (first
    | (refine step_append_rows rfl (.tmp 7) (.tmp 9) rfl rfl rfl S1.out.2.2.2 (HV.out.keep S1.out.2.2.1) (by have := H63.out; simp; omega) (by simp) ?_
       intro v2 w2 ho2 hg2
       have hz2 := S1.out.2.2.1.size
       have hb2 := S1.out.2.2.1.grown hg2 hz2 (fun k hk => by have := own_blockN S1.out.2.2.2 k hk; have := HZ.out; omega)
       have f1 := blk_grown S1.out.1 hg2 (own_blk_ne S1.out.2.2.2 S1.out.1 (by decide))
       have f2 := blk_grown S1.out.2.1 hg2 (own_blk_ne S1.out.2.2.2 S1.out.2.1 (by decide))
       have r1 := sig_leaf f1
       have r2 := sig_path hc f1
       have r3 := ld_chains hc f1
       have r4 := bk_of f2
       obtain ⟨A2, c2, rfl⟩ := ownN_slice ho2
       rw [List.nil_append] at ho2
       have S2 := Lib.hid (And.intro (own_mono ho2 (by have := HZ.out; omega : w.heap.size ≤ W0.heap.size)) (And.intro f2 hb2))
       clear hg2 hb2 f1 f2 ho2)
    | (trace_state; fail))
  all_goals
    go_wp2_with fail
    try rw [← HN.out] at S2
    try rw [← HN.out]
    refine ret_sg rfl rfl (blk_setRow S2.out.2.1 (sigV l ch (.slice A2 n c2))) (by rw [sigV_length, hc]) rfl ⟨_, rfl, ?_, bel_setRow S2.out.2.2 (by omega) _⟩
    have h3 := own_setRow S2.out.1 (own_blk_ne S2.out.1 S2.out.2.1 (by decide)) (cs := (sigV l ch (.slice A2 n c2)).toArray)
    unfold OwnN
    rw [← HN.out]
    exact h3
set_option maxRecDepth 20000 in
set_option maxHeartbeats 4000000 in
theorem back (w : World) (l : Int) (ch : List Nat) (v : Value) (ps : List (List Nat)) (hc : ch.length = 560) (hv : SlN w v ps) (h63 : ps.length ≤ 1000000) :
    Calls Tryz.prog 11 #[.agg (sigV l ch v).toArray] w fun e w' => ∃ p, e = .returned (.agg (sigV l ch p).toArray) ∧ OwnN 23 w' w.heap.size p ps ∧ Below w.heap.size w w' := by
  obtain ⟨A, c, rfl, -⟩ := id hv
  obtain ⟨Z, hZ⟩ : ∃ Z, Z = zs 560 := ⟨_, rfl⟩
  have lZ : Z.length = 560 := by rw [hZ, zs_length]
  have a0 := al_rsg
  rw [← hZ] at a0
  obtain ⟨n, hn⟩ : ∃ n, n = ps.length := ⟨_, rfl⟩
  have HN := Lib.hid hn
  have HV := Lib.hid (show SlN w (.slice A n c) ps by rw [hn]; exact hv)
  have H63 := Lib.hid h63
  rw [← hn]
  clear hv h63 hZ hn
  obtain ⟨W0, hW0⟩ : ∃ W0, W0 = (w.alloc (.cells (sigV l ch (.slice A n c)).toArray 31)).alloc (.cells (sigV 0 Z (.slice none 0 0)).toArray 36) := ⟨_, rfl⟩
  have b1 : blk W0 w.heap.size (sigV l ch (.slice A n c)) 31 := by rw [hW0]; exact blk_alloc (blk_new _ _ _) _
  have b2 : blk W0 (w.heap.size + 1) (sigV 0 Z (.slice none 0 0)) 36 := by rw [hW0]; exact blk_at _ _ _ (by simp only [alloc_size])
  have bl : Below w.heap.size w W0 := by rw [hW0]; exact ((Below.refl w.heap.size w).alloc (Nat.le_refl _) _).alloc (by simp only [alloc_size]; omega) _
  have hz : W0.heap.size = w.heap.size + 1 + 1 := by rw [hW0]; simp only [alloc_size]
  have d1 : blk ((W0.alloc (.cells #[] 23)).drew) w.heap.size (sigV l ch (.slice A n c)) 31 := blk_drew (blk_alloc b1 _)
  have d2 : blk ((W0.alloc (.cells #[] 23)).drew) (w.heap.size + 1) (sigV 0 Z (.slice none 0 0)) 36 := blk_drew (blk_alloc b2 _)
  have dl : Below w.heap.size w ((W0.alloc (.cells #[] 23)).drew) := (bl.alloc bl.size _).drew
  have ho : OwnN 23 ((W0.alloc (.cells #[] 23)).drew) W0.heap.size (.slice (some ⟨W0.heap.size, 0, none⟩) 0 0) [] := by
    have h1 : OwnN 23 (W0.alloc (.cells #[] 23)) W0.heap.size (.slice (some ⟨W0.heap.size, 0, none⟩) 0 0) [] := World.ownsRow_made _ #[] 0 (Nat.le_refl _) (by unfold maxLen; omega) rfl
    exact own_keep h1 (Below.refl _ _).drew
  have q1 := sig_leaf (blk_drew b1)
  have q2 := sig_path hc (blk_drew b1)
  have q3 := ld_chains hc (blk_drew b1)
  have q4 := ld_chains hc d1
  have q5 := sig_leaf b1
  have q6 := sig_path hc b1
  have q7 := sig_leaf (blk_alloc b1 (.cells #[] 23))
  have q8 := sig_path hc (blk_alloc b1 (.cells #[] 23))
  have HZ := Lib.hid hz
  have S1 := Lib.hid (And.intro d1 (And.intro d2 (And.intro dl ho)))
  have HW0 := Lib.hid hW0
  clear b1 b2 bl d1 d2 dl ho hW0 hz
  go_enter Tryz.func11, Tryz.ntmps11
  go_wp2_with fail
  rw [← HW0.out]
  go_region_law (first
    | (refine step_append_rows rfl (.tmp 7) (.tmp 9) rfl rfl rfl S1.out.2.2.2 (HV.out.keep S1.out.2.2.1) (by have := H63.out; simp; omega) (by simp) ?_
       intro v2 w2 ho2 hg2
       have hz2 := S1.out.2.2.1.size
       have hb2 := S1.out.2.2.1.grown hg2 hz2 (fun k hk => by have := own_blockN S1.out.2.2.2 k hk; have := HZ.out; omega)
       have f1 := blk_grown S1.out.1 hg2 (own_blk_ne S1.out.2.2.2 S1.out.1 (by decide))
       have f2 := blk_grown S1.out.2.1 hg2 (own_blk_ne S1.out.2.2.2 S1.out.2.1 (by decide))
       have r1 := sig_leaf f1
       have r2 := sig_path hc f1
       have r3 := ld_chains hc f1
       have r4 := bk_of f2
       obtain ⟨A2, c2, rfl⟩ := ownN_slice ho2
       rw [List.nil_append] at ho2
       have S2 := Lib.hid (And.intro (own_mono ho2 (by have := HZ.out; omega : w.heap.size ≤ W0.heap.size)) (And.intro f2 hb2))
       clear hg2 hb2 f1 f2 ho2)
    | (trace_state; fail))
  all_goals
    go_wp2_with fail
    try rw [← HN.out] at S2
    try rw [← HN.out]
    refine ret_rsg rfl rfl (blk_setRow S2.out.2.1 (sigV l ch (.slice A2 n c2))) (by rw [sigV_length, hc]) rfl ⟨_, rfl, ?_, bel_setRow S2.out.2.2 (by omega) _⟩
    have h3 := own_setRow S2.out.1 (own_blk_ne S2.out.1 S2.out.2.1 (by decide)) (cs := (sigV l ch (.slice A2 n c2)).toArray)
    unfold OwnN
    rw [← HN.out]
    exact h3
end Go.Proofs.YtlgpipdeckdmjaaGreat.Nil
