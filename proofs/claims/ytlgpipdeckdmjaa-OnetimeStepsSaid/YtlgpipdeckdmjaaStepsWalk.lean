/-
  The walk of OnetimeSteps.
-/
import Derived.Test.YtlgpipdeckdmjaaKnown
set_option linter.unusedVariables false
set_option linter.unusedSimpArgs false
namespace Go.Proofs.Ytlgpipdeckdmjaa.StepsWalk
open Go.RowKit Base Reg Types Slice Sha
open Go.Proofs.Ytlgpipdeckdmjaa.One
open Go.Proofs.Ytlgpipdeckdmjaa.Known
/-- What Step returns. -/
def stV (leaf chain i : Int) (v : List Nat) : List Nat := if ((0 ≤ leaf ∧ leaf ≤ 65535) ∧ (0 ≤ chain ∧ chain ≤ 34)) ∧ 0 ≤ i ∧ i ≤ 14 then stp leaf.toNat chain.toNat i.toNat v else zs 16
def stE (leaf chain i : Int) : Int := if ((0 ≤ leaf ∧ leaf ≤ 65535) ∧ (0 ≤ chain ∧ chain ≤ 34)) ∧ 0 ≤ i ∧ i ≤ 14 then 0 else 2
theorem stV_length (leaf chain i : Int) (v : List Nat) : (stV leaf chain i v).length = 16 := by
  unfold stV
  split
  · exact stp_length _ _ _ _
  · rfl
theorem Step_any (w : World) (leaf chain i : Int) (v : List Nat) (hs : v.length = 16) : Calls Try.prog 22 #[.int .i64 leaf, .int .i64 chain, .int .i64 i, agg .u8 v] w fun e w' => e = .returned (.tuple #[agg .u8 (stV leaf chain i v), .int .i64 (stE leaf chain i)]) ∧ Below w.heap.size w w' := by
  by_cases h : ((0 ≤ leaf ∧ leaf ≤ 65535) ∧ (0 ≤ chain ∧ chain ≤ 34)) ∧ 0 ≤ i ∧ i ≤ 14
  · rw [stV, stE, if_pos h, if_pos h]
    obtain ⟨l, rfl⟩ := Int.eq_ofNat_of_zero_le h.1.1.1
    obtain ⟨c, rfl⟩ := Int.eq_ofNat_of_zero_le h.1.2.1
    obtain ⟨a, rfl⟩ := Int.eq_ofNat_of_zero_le h.2.1
    exact Step_in w l c a v hs (by omega) (by omega) (by omega)
  · rw [stV, stE, if_neg h, if_neg h]
    exact Step_out w leaf chain i v hs h
/-- What Advance returns. -/
def avV (leaf chain i j : Int) (v : List Nat) : List Nat := if ((0 ≤ leaf ∧ leaf ≤ 65535) ∧ (0 ≤ chain ∧ chain ≤ 34)) ∧ (0 ≤ i ∧ i ≤ j) ∧ 0 ≤ j ∧ j ≤ 15 then adv leaf.toNat chain.toNat i.toNat (j - i).toNat v else zs 16
def avE (leaf chain i j : Int) : Int := if ((0 ≤ leaf ∧ leaf ≤ 65535) ∧ (0 ≤ chain ∧ chain ≤ 34)) ∧ (0 ≤ i ∧ i ≤ j) ∧ 0 ≤ j ∧ j ≤ 15 then 0 else 2
theorem avV_length (leaf chain i j : Int) (v : List Nat) (hs : v.length = 16) : (avV leaf chain i j v).length = 16 := by
  unfold avV
  split
  · exact adv_length _ _ _ _ _ hs
  · rfl
theorem Advance_any (w : World) (leaf chain i j : Int) (v : List Nat) (hs : v.length = 16) : Calls Try.prog 23 #[.int .i64 leaf, .int .i64 chain, .int .i64 i, .int .i64 j, agg .u8 v] w fun e w' => e = .returned (.tuple #[agg .u8 (avV leaf chain i j v), .int .i64 (avE leaf chain i j)]) ∧ Below w.heap.size w w' := by
  by_cases h : ((0 ≤ leaf ∧ leaf ≤ 65535) ∧ (0 ≤ chain ∧ chain ≤ 34)) ∧ (0 ≤ i ∧ i ≤ j) ∧ 0 ≤ j ∧ j ≤ 15
  · rw [avV, avE, if_pos h, if_pos h]
    obtain ⟨l, rfl⟩ := Int.eq_ofNat_of_zero_le h.1.1.1
    obtain ⟨c, rfl⟩ := Int.eq_ofNat_of_zero_le h.1.2.1
    obtain ⟨a, rfl⟩ := Int.eq_ofNat_of_zero_le h.2.1.1
    exact Advance_in w l c a (j - a).toNat v hs (by omega) (by omega) (by omega) j (by omega)
  · rw [avV, avE, if_neg h, if_neg h]
    exact Advance_out w leaf chain i j v hs h
theorem stepI (w : World) (leaf chain i : Int) (v : List Nat) (hv : v.length = 16) (hl : 0 ≤ leaf ∧ leaf ≤ 65535) (hc : 0 ≤ chain ∧ chain ≤ 34) (hi : 0 ≤ i ∧ i ≤ 14) :
    Calls Try.prog 24 #[.int .i64 leaf, .int .i64 chain, .int .i64 i, agg .u8 v] w fun e w' => e = .returned (agg .u8 (stp leaf.toNat chain.toNat i.toNat v)) ∧ Below w.heap.size w w' := by
  obtain ⟨l, rfl⟩ := Int.eq_ofNat_of_zero_le hl.1
  obtain ⟨c, rfl⟩ := Int.eq_ofNat_of_zero_le hc.1
  obtain ⟨a, rfl⟩ := Int.eq_ofNat_of_zero_le hi.1
  exact Ref.step w l c a v hv (by omega) (by omega) (by omega)
theorem advI (w : World) (leaf chain i j : Int) (v : List Nat) (hv : v.length = 16) (hl : 0 ≤ leaf ∧ leaf ≤ 65535) (hc : 0 ≤ chain ∧ chain ≤ 34) (hi : 0 ≤ i ∧ i ≤ 15) (hj : 0 ≤ j ∧ j ≤ 15) (hij : i ≤ j) :
    Calls Try.prog 25 #[.int .i64 leaf, .int .i64 chain, .int .i64 i, .int .i64 j, agg .u8 v] w fun e w' => e = .returned (agg .u8 (adv leaf.toNat chain.toNat i.toNat (j - i).toNat v)) ∧ Below w.heap.size w w' := by
  obtain ⟨l, rfl⟩ := Int.eq_ofNat_of_zero_le hl.1
  obtain ⟨c, rfl⟩ := Int.eq_ofNat_of_zero_le hc.1
  obtain ⟨a, rfl⟩ := Int.eq_ofNat_of_zero_le hi.1
  exact Ref.advance w l c a (j - a).toNat v hv (by omega) (by omega) (by omega) j (by omega)
theorem eq_zero (W : World) : (eqA 22 (.agg (cl .u8 (zs 16)).toArray) (.agg #[.int .u8 0, .int .u8 0, .int .u8 0, .int .u8 0, .int .u8 0, .int .u8 0, .int .u8 0, .int .u8 0, .int .u8 0, .int .u8 0, .int .u8 0, .int .u8 0, .int .u8 0, .int .u8 0, .int .u8 0, .int .u8 0])).run Try.prog W = .ok (.bool true) W := by kernel_rfl
theorem ne_zero (W : World) : (neA 22 (.agg (cl .u8 (zs 16)).toArray) (.agg #[.int .u8 0, .int .u8 0, .int .u8 0, .int .u8 0, .int .u8 0, .int .u8 0, .int .u8 0, .int .u8 0, .int .u8 0, .int .u8 0, .int .u8 0, .int .u8 0, .int .u8 0, .int .u8 0, .int .u8 0, .int .u8 0])).run Try.prog W = .ok (.bool false) W := by kernel_rfl
set_option maxRecDepth 20000 in
set_option maxHeartbeats 4000000 in
theorem walk4 (w : World) (leaf chain i j : Int) (v : List Nat) (hv : v.length = 16) :
    Calls Try.prog 6 #[.agg #[.int .i64 leaf, .int .i64 chain], .agg #[.int .i64 i, .int .i64 j], agg .u8 v] w fun e w' => e = .returned (.bool true) ∧ Below w.heap.size w w' := by
  go_enter Try.func6, Try.ntmps6
  go_wp2_with fail
  obtain ⟨W0, hW0⟩ : ∃ W0, W0 = (((w.alloc (.cells #[.int .i64 leaf, .int .i64 chain] 39)).alloc (.cells #[.int .i64 i, .int .i64 j] 39)).alloc (.cells (cl .u8 v).toArray 22)) := ⟨_, rfl⟩
  have b0 : blk W0 w.heap.size [.int .i64 leaf, .int .i64 chain] 39 := by rw [hW0]; exact blk_alloc (blk_alloc (blk_new _ [.int .i64 leaf, .int .i64 chain] _) _) _
  have b1 : blk W0 (w.heap.size + 1) [.int .i64 i, .int .i64 j] 39 := by rw [hW0]; exact blk_alloc (blk_at _ [.int .i64 i, .int .i64 j] _ (by simp only [alloc_size])) _
  have b2 : blk W0 (w.heap.size + 1 + 1) (cl .u8 v) 22 := by rw [hW0]; exact blk_at _ _ _ (by simp only [alloc_size])
  have bl : Below w.heap.size w W0 := by rw [hW0]; exact (((Below.refl w.heap.size w).alloc (Nat.le_refl _) _).alloc (by simp only [alloc_size]; omega) _).alloc (by simp only [alloc_size]; omega) _
  rw [← hW0]
  clear hW0
  have c0 : ∀ n, (W0.drewN n).cell? ⟨w.heap.size, 0, none⟩ = some (.int .i64 leaf) := fun n => (blk_cell (blk_drewN b0) 0).trans rfl
  have c1 : ∀ n, (W0.drewN n).cell? ⟨w.heap.size, 1, none⟩ = some (.int .i64 chain) := fun n => (blk_cell (blk_drewN b0) 1).trans rfl
  have d0 : ∀ n, (W0.drewN n).cell? ⟨w.heap.size + 1, 0, none⟩ = some (.int .i64 i) := fun n => (blk_cell (blk_drewN b1) 0).trans rfl
  have d1 : ∀ n, (W0.drewN n).cell? ⟨w.heap.size + 1, 1, none⟩ = some (.int .i64 j) := fun n => (blk_cell (blk_drewN b1) 1).trans rfl
  have B2 := Lib.hid b2
  have BL := Lib.hid bl
  clear b0 b1 b2 bl
  refine wp_region_all (fun n => W0.drewN n) (by kernel_rfl) (by kernel_rfl) ⟨1, rfl⟩ ?_
  repeat (go_big_quiet_step (fail))
  refine wpQuiet_nil ?_
  intro m
  have q2 : bk W0 (w.heap.size + 1 + 1) = some (cl .u8 v).toArray := bk_of B2.out
  go_wp2_with fail
  refine (Step_any _ leaf chain i v hv).mono ?_
  rintro e w1 ⟨rfl, hb1⟩
  obtain ⟨V1, e1⟩ : ∃ V1, V1 = stV leaf chain i v := ⟨_, rfl⟩
  have l1 := stV_length leaf chain i v
  obtain ⟨E1, f1⟩ : ∃ E1, E1 = stE leaf chain i := ⟨_, rfl⟩
  rw [← e1] at l1 ⊢
  rw [← f1]
  have X1 := Lib.hid e1
  have Y1 := Lib.hid f1
  have C2 := Lib.hid (blk_alloc (blk_below (blk_drewN (n := m) B2.out) hb1 (by have := blk_lt B2.out; exact this)) (.cells (cl .u8 V1).toArray 22))
  have CV := Lib.hid (blk_new w1 (cl .u8 V1) 22)
  have CL := Lib.hid ((bel_trans (bel_drewN BL.out m) hb1 BL.out.size).alloc (by have := bel_trans (bel_drewN BL.out m) hb1 BL.out.size; exact this.size) (.cells (cl .u8 V1).toArray 22))
  have r2 := bk_of (blk_below (blk_drewN (n := m) B2.out) hb1 (by have := blk_lt B2.out; exact this))
  have s1 : w.heap.size + 1 + 1 < w1.heap.size := blk_lt (blk_below (blk_drewN (n := m) B2.out) hb1 (by have := blk_lt B2.out; exact this))
  clear hb1 q2 e1 f1
  go_wp2_with fail
  refine (Advance_any _ leaf chain i j v hv).mono ?_
  rintro e w2 ⟨rfl, hb2⟩
  obtain ⟨V2, e2⟩ : ∃ V2, V2 = avV leaf chain i j v := ⟨_, rfl⟩
  have l2 := avV_length leaf chain i j v hv
  obtain ⟨E2, f2⟩ : ∃ E2, E2 = avE leaf chain i j := ⟨_, rfl⟩
  rw [← e2] at l2 ⊢
  rw [← f2]
  have X2 := Lib.hid e2
  have Y2 := Lib.hid f2
  have D2 := Lib.hid (blk_alloc (blk_keep C2.out hb2) (.cells (cl .u8 V2).toArray 22))
  have DV := Lib.hid (blk_alloc (blk_keep CV.out hb2) (.cells (cl .u8 V2).toArray 22))
  have DU := Lib.hid (blk_new w2 (cl .u8 V2) 22)
  have DL := Lib.hid ((bel_trans CL.out hb2 CL.out.size).alloc (by have := bel_trans CL.out hb2 CL.out.size; exact this.size) (.cells (cl .u8 V2).toArray 22))
  clear hb2 r2 e2 f2
  go_wp2_with fail
  refine (known _).mono ?_
  rintro e w3 ⟨rfl, hb3⟩
  have K2 := Lib.hid (blk_keep D2.out hb3)
  have KV := Lib.hid (blk_keep DV.out hb3)
  have KU := Lib.hid (blk_keep DU.out hb3)
  have KL := Lib.hid (bel_trans DL.out hb3 DL.out.size)
  clear hb3
  by_cases hk : (0 ≤ leaf ∧ leaf ≤ 65535) ∧ (0 ≤ chain ∧ chain ≤ 34)
  · obtain ⟨hl, hc⟩ := hk
    by_cases hi : 0 ≤ i ∧ i ≤ 14
    · skip
      by_cases hi5 : 0 ≤ i ∧ i ≤ 15
      · by_cases hj : 0 ≤ j ∧ j ≤ 15
        · by_cases hij : i ≤ j
          · skip
            obtain ⟨rfl, rfl⟩ : V2 = adv leaf.toNat chain.toNat i.toNat (j - i).toNat v ∧ E2 = 0 := ⟨by rw [X2.out, avV, if_pos ⟨⟨hl, hc⟩, ⟨hi5.1, hij⟩, hj⟩], by rw [Y2.out, avE, if_pos ⟨⟨hl, hc⟩, ⟨hi5.1, hij⟩, hj⟩]⟩
            obtain ⟨rfl, rfl⟩ : V1 = stp leaf.toNat chain.toNat i.toNat v ∧ E1 = 0 := ⟨by rw [X1.out, stV, if_pos ⟨⟨hl, hc⟩, hi⟩], by rw [Y1.out, stE, if_pos ⟨⟨hl, hc⟩, hi⟩]⟩
            go_wp2_with fail
            refine (isin leaf 65535 _).mono ?_
            rintro e w9 ⟨rfl, rfl⟩
            rw [decide_eq_true hl]
            go_wp2_with fail
            refine (isin chain 34 _).mono ?_
            rintro e w9 ⟨rfl, rfl⟩
            rw [decide_eq_true hc]
            go_wp2_with fail
            refine (isin i 14 _).mono ?_
            rintro e w9 ⟨rfl, rfl⟩
            rw [decide_eq_true hi]
            go_wp2_with fail
            obtain ⟨ι, F, hF, hin⟩ := class_of (fun W => blk W (w.heap.size + 1 + 1) (cl .u8 v) 22 ∧ blk W w1.heap.size (cl .u8 (stp leaf.toNat chain.toNat i.toNat v)) 22 ∧ blk W w2.heap.size (cl .u8 (adv leaf.toNat chain.toNat i.toNat (j - i).toNat v)) 22 ∧ Below w.heap.size w W)
            have h0 := hin _ ⟨blk_drew K2.out, blk_drew KV.out, blk_drew KU.out, KL.out.drew⟩
            have hne : Nonempty ι := ⟨h0.choose⟩
            have q0 : ∀ ix, bk (F ix) (w.heap.size + 1 + 1) = some (cl .u8 v).toArray := fun ix => bk_of (hF ix).1
            have q1 : ∀ ix, bk (F ix) w1.heap.size = some (cl .u8 (stp leaf.toNat chain.toNat i.toNat v)).toArray := fun ix => bk_of (hF ix).2.1
            have q2 : ∀ ix, bk (F ix) w2.heap.size = some (cl .u8 (adv leaf.toNat chain.toNat i.toNat (j - i).toNat v)).toArray := fun ix => bk_of (hF ix).2.2.1
            have HF := Lib.hid hF
            have HI := Lib.hid hin
            have H0 := Lib.hid h0
            clear hF hin h0
            refine wp_region_all F (by kernel_rfl) (by kernel_rfl) H0.out ?_
            repeat (go_big_quiet_step ((go_at_call 24; exact quiet_below HF.out HI.out (fun _ _ h hb => ⟨blk_keep h.1 hb, blk_keep h.2.1 hb, blk_keep h.2.2.1 hb, bel_trans h.2.2.2 hb h.2.2.2.size⟩) (stepI _ leaf chain i v hv hl hc hi))))
            refine wpQuiet_nil ?_
            intro n8
            have K2 := Lib.hid (HF.out n8).1
            have KV := Lib.hid (HF.out n8).2.1
            have KU := Lib.hid (HF.out n8).2.2.1
            have KL := Lib.hid (HF.out n8).2.2.2
            clear q0 q1 q2 H0
            go_wp2_with fail
            refine (isin i 15 _).mono ?_
            rintro e w9 ⟨rfl, rfl⟩
            rw [decide_eq_true hi5]
            go_wp2_with fail
            refine (isin j 15 _).mono ?_
            rintro e w9 ⟨rfl, rfl⟩
            rw [decide_eq_true hj]
            go_wp2_with fail
            obtain ⟨ι, F, hF, hin⟩ := class_of (fun W => blk W (w.heap.size + 1 + 1) (cl .u8 v) 22 ∧ blk W w1.heap.size (cl .u8 (stp leaf.toNat chain.toNat i.toNat v)) 22 ∧ blk W w2.heap.size (cl .u8 (adv leaf.toNat chain.toNat i.toNat (j - i).toNat v)) 22 ∧ Below w.heap.size w W)
            have h0 := hin _ ⟨blk_drew K2.out, blk_drew KV.out, blk_drew KU.out, KL.out.drew⟩
            have hne : Nonempty ι := ⟨h0.choose⟩
            have q0 : ∀ ix, bk (F ix) (w.heap.size + 1 + 1) = some (cl .u8 v).toArray := fun ix => bk_of (hF ix).1
            have q1 : ∀ ix, bk (F ix) w1.heap.size = some (cl .u8 (stp leaf.toNat chain.toNat i.toNat v)).toArray := fun ix => bk_of (hF ix).2.1
            have q2 : ∀ ix, bk (F ix) w2.heap.size = some (cl .u8 (adv leaf.toNat chain.toNat i.toNat (j - i).toNat v)).toArray := fun ix => bk_of (hF ix).2.2.1
            have HF := Lib.hid hF
            have HI := Lib.hid hin
            have H0 := Lib.hid h0
            clear hF hin h0
            refine wp_region_all F (by kernel_rfl) (by kernel_rfl) H0.out ?_
            repeat (go_big_quiet_step ((go_at_call 25; exact quiet_below HF.out HI.out (fun _ _ h hb => ⟨blk_keep h.1 hb, blk_keep h.2.1 hb, blk_keep h.2.2.1 hb, bel_trans h.2.2.2 hb h.2.2.2.size⟩) (advI _ leaf chain i j v hv hl hc hi5 hj hij))))
            refine wpQuiet_nil ?_
            intro n8
            have K2 := Lib.hid (HF.out n8).1
            have KV := Lib.hid (HF.out n8).2.1
            have KU := Lib.hid (HF.out n8).2.2.1
            have KL := Lib.hid (HF.out n8).2.2.2
            clear q0 q1 q2 H0
            go_wp2_with fail
            go_ret
            exact ⟨rfl, KL.out⟩
          · skip
            obtain ⟨rfl, rfl⟩ : V2 = zs 16 ∧ E2 = 2 := ⟨by rw [X2.out, avV, if_neg (fun h => hij h.2.1.2)], by rw [Y2.out, avE, if_neg (fun h => hij h.2.1.2)]⟩
            obtain ⟨rfl, rfl⟩ : V1 = stp leaf.toNat chain.toNat i.toNat v ∧ E1 = 0 := ⟨by rw [X1.out, stV, if_pos ⟨⟨hl, hc⟩, hi⟩], by rw [Y1.out, stE, if_pos ⟨⟨hl, hc⟩, hi⟩]⟩
            go_wp2_with fail
            refine (isin leaf 65535 _).mono ?_
            rintro e w9 ⟨rfl, rfl⟩
            rw [decide_eq_true hl]
            go_wp2_with fail
            refine (isin chain 34 _).mono ?_
            rintro e w9 ⟨rfl, rfl⟩
            rw [decide_eq_true hc]
            go_wp2_with fail
            refine (isin i 14 _).mono ?_
            rintro e w9 ⟨rfl, rfl⟩
            rw [decide_eq_true hi]
            go_wp2_with fail
            obtain ⟨ι, F, hF, hin⟩ := class_of (fun W => blk W (w.heap.size + 1 + 1) (cl .u8 v) 22 ∧ blk W w1.heap.size (cl .u8 (stp leaf.toNat chain.toNat i.toNat v)) 22 ∧ blk W w2.heap.size (cl .u8 (zs 16)) 22 ∧ Below w.heap.size w W)
            have h0 := hin _ ⟨blk_drew K2.out, blk_drew KV.out, blk_drew KU.out, KL.out.drew⟩
            have hne : Nonempty ι := ⟨h0.choose⟩
            have q0 : ∀ ix, bk (F ix) (w.heap.size + 1 + 1) = some (cl .u8 v).toArray := fun ix => bk_of (hF ix).1
            have q1 : ∀ ix, bk (F ix) w1.heap.size = some (cl .u8 (stp leaf.toNat chain.toNat i.toNat v)).toArray := fun ix => bk_of (hF ix).2.1
            have q2 : ∀ ix, bk (F ix) w2.heap.size = some (cl .u8 (zs 16)).toArray := fun ix => bk_of (hF ix).2.2.1
            have HF := Lib.hid hF
            have HI := Lib.hid hin
            have H0 := Lib.hid h0
            clear hF hin h0
            refine wp_region_all F (by kernel_rfl) (by kernel_rfl) H0.out ?_
            repeat (go_big_quiet_step ((go_at_call 24; exact quiet_below HF.out HI.out (fun _ _ h hb => ⟨blk_keep h.1 hb, blk_keep h.2.1 hb, blk_keep h.2.2.1 hb, bel_trans h.2.2.2 hb h.2.2.2.size⟩) (stepI _ leaf chain i v hv hl hc hi))))
            refine wpQuiet_nil ?_
            intro n8
            have K2 := Lib.hid (HF.out n8).1
            have KV := Lib.hid (HF.out n8).2.1
            have KU := Lib.hid (HF.out n8).2.2.1
            have KL := Lib.hid (HF.out n8).2.2.2
            clear q0 q1 q2 H0
            go_wp2_with fail
            refine (isin i 15 _).mono ?_
            rintro e w9 ⟨rfl, rfl⟩
            rw [decide_eq_true hi5]
            go_wp2_with fail
            refine (isin j 15 _).mono ?_
            rintro e w9 ⟨rfl, rfl⟩
            rw [decide_eq_true hj]
            have qU := bk_of KU.out
            have eq0 := eq_zero
            go_wp2_with fail
            go_ret
            exact ⟨rfl, KL.out⟩
        · skip
          obtain ⟨rfl, rfl⟩ : V2 = zs 16 ∧ E2 = 2 := ⟨by rw [X2.out, avV, if_neg (fun h => hj h.2.2)], by rw [Y2.out, avE, if_neg (fun h => hj h.2.2)]⟩
          obtain ⟨rfl, rfl⟩ : V1 = stp leaf.toNat chain.toNat i.toNat v ∧ E1 = 0 := ⟨by rw [X1.out, stV, if_pos ⟨⟨hl, hc⟩, hi⟩], by rw [Y1.out, stE, if_pos ⟨⟨hl, hc⟩, hi⟩]⟩
          go_wp2_with fail
          refine (isin leaf 65535 _).mono ?_
          rintro e w9 ⟨rfl, rfl⟩
          rw [decide_eq_true hl]
          go_wp2_with fail
          refine (isin chain 34 _).mono ?_
          rintro e w9 ⟨rfl, rfl⟩
          rw [decide_eq_true hc]
          go_wp2_with fail
          refine (isin i 14 _).mono ?_
          rintro e w9 ⟨rfl, rfl⟩
          rw [decide_eq_true hi]
          go_wp2_with fail
          obtain ⟨ι, F, hF, hin⟩ := class_of (fun W => blk W (w.heap.size + 1 + 1) (cl .u8 v) 22 ∧ blk W w1.heap.size (cl .u8 (stp leaf.toNat chain.toNat i.toNat v)) 22 ∧ blk W w2.heap.size (cl .u8 (zs 16)) 22 ∧ Below w.heap.size w W)
          have h0 := hin _ ⟨blk_drew K2.out, blk_drew KV.out, blk_drew KU.out, KL.out.drew⟩
          have hne : Nonempty ι := ⟨h0.choose⟩
          have q0 : ∀ ix, bk (F ix) (w.heap.size + 1 + 1) = some (cl .u8 v).toArray := fun ix => bk_of (hF ix).1
          have q1 : ∀ ix, bk (F ix) w1.heap.size = some (cl .u8 (stp leaf.toNat chain.toNat i.toNat v)).toArray := fun ix => bk_of (hF ix).2.1
          have q2 : ∀ ix, bk (F ix) w2.heap.size = some (cl .u8 (zs 16)).toArray := fun ix => bk_of (hF ix).2.2.1
          have HF := Lib.hid hF
          have HI := Lib.hid hin
          have H0 := Lib.hid h0
          clear hF hin h0
          refine wp_region_all F (by kernel_rfl) (by kernel_rfl) H0.out ?_
          repeat (go_big_quiet_step ((go_at_call 24; exact quiet_below HF.out HI.out (fun _ _ h hb => ⟨blk_keep h.1 hb, blk_keep h.2.1 hb, blk_keep h.2.2.1 hb, bel_trans h.2.2.2 hb h.2.2.2.size⟩) (stepI _ leaf chain i v hv hl hc hi))))
          refine wpQuiet_nil ?_
          intro n8
          have K2 := Lib.hid (HF.out n8).1
          have KV := Lib.hid (HF.out n8).2.1
          have KU := Lib.hid (HF.out n8).2.2.1
          have KL := Lib.hid (HF.out n8).2.2.2
          clear q0 q1 q2 H0
          go_wp2_with fail
          refine (isin i 15 _).mono ?_
          rintro e w9 ⟨rfl, rfl⟩
          rw [decide_eq_true hi5]
          go_wp2_with fail
          refine (isin j 15 _).mono ?_
          rintro e w9 ⟨rfl, rfl⟩
          rw [decide_eq_false hj]
          have qU := bk_of KU.out
          have eq0 := eq_zero
          go_wp2_with fail
          go_ret
          exact ⟨rfl, KL.out⟩
      · skip
        obtain ⟨rfl, rfl⟩ : V2 = zs 16 ∧ E2 = 2 := ⟨by rw [X2.out, avV, if_neg (fun h => hi5 ⟨h.2.1.1, Int.le_trans h.2.1.2 h.2.2.2⟩)], by rw [Y2.out, avE, if_neg (fun h => hi5 ⟨h.2.1.1, Int.le_trans h.2.1.2 h.2.2.2⟩)]⟩
        obtain ⟨rfl, rfl⟩ : V1 = stp leaf.toNat chain.toNat i.toNat v ∧ E1 = 0 := ⟨by rw [X1.out, stV, if_pos ⟨⟨hl, hc⟩, hi⟩], by rw [Y1.out, stE, if_pos ⟨⟨hl, hc⟩, hi⟩]⟩
        go_wp2_with fail
        refine (isin leaf 65535 _).mono ?_
        rintro e w9 ⟨rfl, rfl⟩
        rw [decide_eq_true hl]
        go_wp2_with fail
        refine (isin chain 34 _).mono ?_
        rintro e w9 ⟨rfl, rfl⟩
        rw [decide_eq_true hc]
        go_wp2_with fail
        refine (isin i 14 _).mono ?_
        rintro e w9 ⟨rfl, rfl⟩
        rw [decide_eq_true hi]
        go_wp2_with fail
        obtain ⟨ι, F, hF, hin⟩ := class_of (fun W => blk W (w.heap.size + 1 + 1) (cl .u8 v) 22 ∧ blk W w1.heap.size (cl .u8 (stp leaf.toNat chain.toNat i.toNat v)) 22 ∧ blk W w2.heap.size (cl .u8 (zs 16)) 22 ∧ Below w.heap.size w W)
        have h0 := hin _ ⟨blk_drew K2.out, blk_drew KV.out, blk_drew KU.out, KL.out.drew⟩
        have hne : Nonempty ι := ⟨h0.choose⟩
        have q0 : ∀ ix, bk (F ix) (w.heap.size + 1 + 1) = some (cl .u8 v).toArray := fun ix => bk_of (hF ix).1
        have q1 : ∀ ix, bk (F ix) w1.heap.size = some (cl .u8 (stp leaf.toNat chain.toNat i.toNat v)).toArray := fun ix => bk_of (hF ix).2.1
        have q2 : ∀ ix, bk (F ix) w2.heap.size = some (cl .u8 (zs 16)).toArray := fun ix => bk_of (hF ix).2.2.1
        have HF := Lib.hid hF
        have HI := Lib.hid hin
        have H0 := Lib.hid h0
        clear hF hin h0
        refine wp_region_all F (by kernel_rfl) (by kernel_rfl) H0.out ?_
        repeat (go_big_quiet_step ((go_at_call 24; exact quiet_below HF.out HI.out (fun _ _ h hb => ⟨blk_keep h.1 hb, blk_keep h.2.1 hb, blk_keep h.2.2.1 hb, bel_trans h.2.2.2 hb h.2.2.2.size⟩) (stepI _ leaf chain i v hv hl hc hi))))
        refine wpQuiet_nil ?_
        intro n8
        have K2 := Lib.hid (HF.out n8).1
        have KV := Lib.hid (HF.out n8).2.1
        have KU := Lib.hid (HF.out n8).2.2.1
        have KL := Lib.hid (HF.out n8).2.2.2
        clear q0 q1 q2 H0
        go_wp2_with fail
        refine (isin i 15 _).mono ?_
        rintro e w9 ⟨rfl, rfl⟩
        rw [decide_eq_false hi5]
        have qU := bk_of KU.out
        have eq0 := eq_zero
        go_wp2_with fail
        go_ret
        exact ⟨rfl, KL.out⟩
    · skip
      by_cases hi5 : 0 ≤ i ∧ i ≤ 15
      · by_cases hj : 0 ≤ j ∧ j ≤ 15
        · by_cases hij : i ≤ j
          · skip
            obtain ⟨rfl, rfl⟩ : V2 = adv leaf.toNat chain.toNat i.toNat (j - i).toNat v ∧ E2 = 0 := ⟨by rw [X2.out, avV, if_pos ⟨⟨hl, hc⟩, ⟨hi5.1, hij⟩, hj⟩], by rw [Y2.out, avE, if_pos ⟨⟨hl, hc⟩, ⟨hi5.1, hij⟩, hj⟩]⟩
            obtain ⟨rfl, rfl⟩ : V1 = zs 16 ∧ E1 = 2 := ⟨by rw [X1.out, stV, if_neg (fun h => hi h.2)], by rw [Y1.out, stE, if_neg (fun h => hi h.2)]⟩
            go_wp2_with fail
            refine (isin leaf 65535 _).mono ?_
            rintro e w9 ⟨rfl, rfl⟩
            rw [decide_eq_true hl]
            go_wp2_with fail
            refine (isin chain 34 _).mono ?_
            rintro e w9 ⟨rfl, rfl⟩
            rw [decide_eq_true hc]
            go_wp2_with fail
            refine (isin i 14 _).mono ?_
            rintro e w9 ⟨rfl, rfl⟩
            rw [decide_eq_false hi]
            have qV := bk_of KV.out
            have ne0 := ne_zero
            go_wp2_with fail
            refine (isin i 15 _).mono ?_
            rintro e w9 ⟨rfl, rfl⟩
            rw [decide_eq_true hi5]
            go_wp2_with fail
            refine (isin j 15 _).mono ?_
            rintro e w9 ⟨rfl, rfl⟩
            rw [decide_eq_true hj]
            go_wp2_with fail
            obtain ⟨ι, F, hF, hin⟩ := class_of (fun W => blk W (w.heap.size + 1 + 1) (cl .u8 v) 22 ∧ blk W w1.heap.size (cl .u8 (zs 16)) 22 ∧ blk W w2.heap.size (cl .u8 (adv leaf.toNat chain.toNat i.toNat (j - i).toNat v)) 22 ∧ Below w.heap.size w W)
            have h0 := hin _ ⟨blk_drew K2.out, blk_drew KV.out, blk_drew KU.out, KL.out.drew⟩
            have hne : Nonempty ι := ⟨h0.choose⟩
            have q0 : ∀ ix, bk (F ix) (w.heap.size + 1 + 1) = some (cl .u8 v).toArray := fun ix => bk_of (hF ix).1
            have q1 : ∀ ix, bk (F ix) w1.heap.size = some (cl .u8 (zs 16)).toArray := fun ix => bk_of (hF ix).2.1
            have q2 : ∀ ix, bk (F ix) w2.heap.size = some (cl .u8 (adv leaf.toNat chain.toNat i.toNat (j - i).toNat v)).toArray := fun ix => bk_of (hF ix).2.2.1
            have HF := Lib.hid hF
            have HI := Lib.hid hin
            have H0 := Lib.hid h0
            clear hF hin h0
            refine wp_region_all F (by kernel_rfl) (by kernel_rfl) H0.out ?_
            repeat (go_big_quiet_step ((go_at_call 25; exact quiet_below HF.out HI.out (fun _ _ h hb => ⟨blk_keep h.1 hb, blk_keep h.2.1 hb, blk_keep h.2.2.1 hb, bel_trans h.2.2.2 hb h.2.2.2.size⟩) (advI _ leaf chain i j v hv hl hc hi5 hj hij))))
            refine wpQuiet_nil ?_
            intro n8
            have K2 := Lib.hid (HF.out n8).1
            have KV := Lib.hid (HF.out n8).2.1
            have KU := Lib.hid (HF.out n8).2.2.1
            have KL := Lib.hid (HF.out n8).2.2.2
            clear q0 q1 q2 H0
            go_wp2_with fail
            go_ret
            exact ⟨rfl, KL.out⟩
          · skip
            obtain ⟨rfl, rfl⟩ : V2 = zs 16 ∧ E2 = 2 := ⟨by rw [X2.out, avV, if_neg (fun h => hij h.2.1.2)], by rw [Y2.out, avE, if_neg (fun h => hij h.2.1.2)]⟩
            obtain ⟨rfl, rfl⟩ : V1 = zs 16 ∧ E1 = 2 := ⟨by rw [X1.out, stV, if_neg (fun h => hi h.2)], by rw [Y1.out, stE, if_neg (fun h => hi h.2)]⟩
            go_wp2_with fail
            refine (isin leaf 65535 _).mono ?_
            rintro e w9 ⟨rfl, rfl⟩
            rw [decide_eq_true hl]
            go_wp2_with fail
            refine (isin chain 34 _).mono ?_
            rintro e w9 ⟨rfl, rfl⟩
            rw [decide_eq_true hc]
            go_wp2_with fail
            refine (isin i 14 _).mono ?_
            rintro e w9 ⟨rfl, rfl⟩
            rw [decide_eq_false hi]
            have qV := bk_of KV.out
            have ne0 := ne_zero
            go_wp2_with fail
            refine (isin i 15 _).mono ?_
            rintro e w9 ⟨rfl, rfl⟩
            rw [decide_eq_true hi5]
            go_wp2_with fail
            refine (isin j 15 _).mono ?_
            rintro e w9 ⟨rfl, rfl⟩
            rw [decide_eq_true hj]
            have qU := bk_of KU.out
            have eq0 := eq_zero
            go_wp2_with fail
            go_ret
            exact ⟨rfl, KL.out⟩
        · skip
          obtain ⟨rfl, rfl⟩ : V2 = zs 16 ∧ E2 = 2 := ⟨by rw [X2.out, avV, if_neg (fun h => hj h.2.2)], by rw [Y2.out, avE, if_neg (fun h => hj h.2.2)]⟩
          obtain ⟨rfl, rfl⟩ : V1 = zs 16 ∧ E1 = 2 := ⟨by rw [X1.out, stV, if_neg (fun h => hi h.2)], by rw [Y1.out, stE, if_neg (fun h => hi h.2)]⟩
          go_wp2_with fail
          refine (isin leaf 65535 _).mono ?_
          rintro e w9 ⟨rfl, rfl⟩
          rw [decide_eq_true hl]
          go_wp2_with fail
          refine (isin chain 34 _).mono ?_
          rintro e w9 ⟨rfl, rfl⟩
          rw [decide_eq_true hc]
          go_wp2_with fail
          refine (isin i 14 _).mono ?_
          rintro e w9 ⟨rfl, rfl⟩
          rw [decide_eq_false hi]
          have qV := bk_of KV.out
          have ne0 := ne_zero
          go_wp2_with fail
          refine (isin i 15 _).mono ?_
          rintro e w9 ⟨rfl, rfl⟩
          rw [decide_eq_true hi5]
          go_wp2_with fail
          refine (isin j 15 _).mono ?_
          rintro e w9 ⟨rfl, rfl⟩
          rw [decide_eq_false hj]
          have qU := bk_of KU.out
          have eq0 := eq_zero
          go_wp2_with fail
          go_ret
          exact ⟨rfl, KL.out⟩
      · skip
        obtain ⟨rfl, rfl⟩ : V2 = zs 16 ∧ E2 = 2 := ⟨by rw [X2.out, avV, if_neg (fun h => hi5 ⟨h.2.1.1, Int.le_trans h.2.1.2 h.2.2.2⟩)], by rw [Y2.out, avE, if_neg (fun h => hi5 ⟨h.2.1.1, Int.le_trans h.2.1.2 h.2.2.2⟩)]⟩
        obtain ⟨rfl, rfl⟩ : V1 = zs 16 ∧ E1 = 2 := ⟨by rw [X1.out, stV, if_neg (fun h => hi h.2)], by rw [Y1.out, stE, if_neg (fun h => hi h.2)]⟩
        go_wp2_with fail
        refine (isin leaf 65535 _).mono ?_
        rintro e w9 ⟨rfl, rfl⟩
        rw [decide_eq_true hl]
        go_wp2_with fail
        refine (isin chain 34 _).mono ?_
        rintro e w9 ⟨rfl, rfl⟩
        rw [decide_eq_true hc]
        go_wp2_with fail
        refine (isin i 14 _).mono ?_
        rintro e w9 ⟨rfl, rfl⟩
        rw [decide_eq_false hi]
        have qV := bk_of KV.out
        have ne0 := ne_zero
        go_wp2_with fail
        refine (isin i 15 _).mono ?_
        rintro e w9 ⟨rfl, rfl⟩
        rw [decide_eq_false hi5]
        have qU := bk_of KU.out
        have eq0 := eq_zero
        go_wp2_with fail
        go_ret
        exact ⟨rfl, KL.out⟩
  · skip
    obtain ⟨rfl, rfl⟩ : V1 = zs 16 ∧ E1 = 2 := ⟨by rw [X1.out, stV, if_neg (fun h => hk h.1)], by rw [Y1.out, stE, if_neg (fun h => hk h.1)]⟩
    obtain ⟨rfl, rfl⟩ : V2 = zs 16 ∧ E2 = 2 := ⟨by rw [X2.out, avV, if_neg (fun h => hk h.1)], by rw [Y2.out, avE, if_neg (fun h => hk h.1)]⟩
    have qV := bk_of KV.out
    have ne0 := ne_zero
    by_cases hl : 0 ≤ leaf ∧ leaf ≤ 65535
    · skip
      go_wp2_with fail
      refine (isin leaf 65535 _).mono ?_
      rintro e w9 ⟨rfl, rfl⟩
      rw [decide_eq_true hl]
      go_wp2_with fail
      refine (isin chain 34 _).mono ?_
      rintro e w9 ⟨rfl, rfl⟩
      rw [decide_eq_false (fun h => hk ⟨hl, h⟩)]
      have qU := bk_of KU.out
      have eq0 := eq_zero
      go_wp2_with fail
      go_ret
      exact ⟨rfl, KL.out⟩
    · skip
      go_wp2_with fail
      refine (isin leaf 65535 _).mono ?_
      rintro e w9 ⟨rfl, rfl⟩
      rw [decide_eq_false hl]
      have qU := bk_of KU.out
      have eq0 := eq_zero
      go_wp2_with fail
      go_ret
      exact ⟨rfl, KL.out⟩
theorem walk (w : World) (l0 l1 : List Int) (l2 : List Nat) (hl0 : l0.length = 2) (hb0 : ∀ z ∈ l0, (Lit.int .i64 z).wf = true) (hl1 : l1.length = 2) (hb1 : ∀ z ∈ l1, (Lit.int .i64 z).wf = true) (hl2 : l2.length = 16) (hb2 : ∀ j, l2.getD j 0 < 256) :
    Calls Try.prog 6 #[.agg (l0.map (Value.int .i64)).toArray, .agg (l1.map (Value.int .i64)).toArray, agg .u8 l2] w fun e w' => e = .returned (.bool true) ∧ Below w.heap.size w w' := by
  match l0, hl0, l1, hl1 with
  | [a, b], _, [c, d], _ => exact walk4 w a b c d l2 hl2
end Go.Proofs.Ytlgpipdeckdmjaa.StepsWalk
