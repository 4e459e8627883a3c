/-
  Several texts laid into one (merge.py): Ref5, Ref6, Ref7, Known.
-/
import Derived.Test.YtlgpipdeckdmjaaNl08
/-
  The reference of layer 7: Secret, Step, Advance.
-/
set_option linter.unusedVariables false
set_option linter.unusedSimpArgs false
namespace Go.Proofs.Ytlgpipdeckdmjaa.Ref
open Go.RowKit Base Reg Types Slice Sha Law
open Go.Proofs.Ytlgpipdeckdmjaa.One
theorem sl_lit' (w : World) (cs : Array Value) (l : List Nat) (n : Nat) (hcs : cs = (cl .u8 l).toArray) (hn : n = l.length) (h : l.length ≤ 1099511627776) {b : Nat} (hb : b = w.heap.size) : Sl (w.alloc (.cells cs 5)) (.slice (some ⟨b, 0, none⟩) n n) l := by
  subst hcs
  exact sl_lit w l n hn h hb
theorem wrap_u8 (n : Nat) : IntKind.u8.wrap (n : Int) = ((n % 256 : Nat) : Int) := by
  rw [show IntKind.u8.wrap (n : Int) = (n : Int) % 256 by simp [IntKind.wrap, IntKind.bits, IntKind.signed]]
  omega
set_option maxRecDepth 20000 in
set_option maxHeartbeats 4000000 in
theorem step (w : World) (leaf chain i : Nat) (v : List Nat) (hs : v.length = 16) (hleaf : leaf ≤ 65535) (hc : chain ≤ 65535) (hi : i ≤ 65535) :
    Calls Try.prog 24 #[.int .i64 (leaf : Int), .int .i64 (chain : Int), .int .i64 (i : Int), agg .u8 v] w fun e w' => e = .returned (agg .u8 (stp leaf chain i v)) ∧ Below w.heap.size w w' := by
  go_enter Try.func24, Try.ntmps24
  have ec : ((chain : Int) % 256) = ((chain % 256 : Nat) : Int) := by omega
  have ei : ((i : Int) % 256) = ((i % 256 : Nat) : Int) := by omega
  have EC := Lib.hid ec
  have EI := Lib.hid ei
  clear ec ei
  go_wp2_with fail
  obtain ⟨W0, hW0⟩ : ∃ W0, W0 = ((w.alloc (.cells (cl .u8 v).toArray 36)).alloc (.cells (cl .u8 (zs 16)).toArray 36)) := ⟨_, rfl⟩
  have hB0 : blk W0 w.heap.size (cl .u8 v) 36 := by rw [hW0]; exact blk_alloc (blk_new _ _ _) _
  have hB1 : blk W0 (w.heap.size + 1) (cl .u8 (zs 16)) 36 := by rw [hW0]; exact blk_at _ _ _ (by simp only [alloc_size])
  have hbel : Below w.heap.size w W0 := by rw [hW0]; exact ((Below.refl w.heap.size w).alloc (Nat.le_refl _) _).alloc (by simp only [alloc_size]; omega) _
  have hsz : W0.heap.size = w.heap.size + 2 := by rw [hW0]; simp only [alloc_size]
  rw [← hW0]
  have HS := Lib.hid hsz
  have H0 := Lib.hid hB0
  have H1 := Lib.hid hB1
  have HB := Lib.hid hbel
  clear hW0 hB0 hB1 hbel hsz
  have hsl := stp_length leaf chain i v
  go_region_law (first
    | (refine step_call rfl 65 _ _ rfl #[.int .u8 ((3 : Nat) : Int), .int .i64 (leaf : Int)] rfl (fun _ => by kernel_rfl) (head _ 3 leaf hleaf (by omega)) ?_
       rintro e w1 ⟨v1, rfl, ho1, hb1⟩
       refine ⟨_, rfl, ?_⟩
       have ho1' : Own w1 W0.heap.size v1 (hd 3 leaf) := by first | exact own_mono ho1 (Nat.le_refl _) | exact own_mono ho1 (by show _ ≤ (W0.alloc _).heap.size; rw [alloc_size]; exact Nat.le_succ _)
       have hk1 : Below W0.heap.size W0 w1 := by first | exact bel_trans (Below.refl W0.heap.size W0).drew hb1 (Nat.le_refl _) | exact bel_trans ((Below.refl W0.heap.size W0).alloc (Nat.le_refl _) _).drew hb1 (by show _ ≤ (W0.alloc _).heap.size; rw [alloc_size]; exact Nat.le_succ _)
       have HO1 := Lib.hid ho1'
       have HK1 := Lib.hid hk1
       have HB1 := Lib.hid hb1
       clear ho1 ho1' hk1 hb1)
    | ((refine step_append_bytes rfl (.tmp 10) (.tmp 15) rfl (base := W0.heap.size) (l := hd 3 leaf) (m := [chain % 256, i % 256]) rfl rfl ?_ ?_ ?_ ?_ ?_)
       · (first | exact own_keep HO1.out ((Below.refl _ _).alloc (Nat.le_refl _) _) | exact HO1.out)
       · first | ((refine sl_lit' _ _ [chain % 256, i % 256] 2 ?_ rfl (by simp) rfl); rw [wrap_u8, wrap_u8]; rfl) | ((refine ((sl_lit' W0 _ [chain % 256, i % 256] 2 ?_ rfl (by simp) rfl).keep (Below.refl _ _).drew).keep HB1.out); rw [wrap_u8, wrap_u8]; rfl)
       · simp [hd]
       · first | exact HK1.out.size | (rw [alloc_size]; exact Nat.le_succ_of_le HK1.out.size)
       intro v2 w2 ho2 hg2
       have hk2 : Below W0.heap.size W0 w2 := by first | exact HK1.out.grown hg2 HK1.out.size (fun k hk => own_block HO1.out k hk) | exact (HK1.out.alloc HK1.out.size _).grown hg2 (by rw [alloc_size]; exact Nat.le_succ_of_le HK1.out.size) (fun k hk => own_block HO1.out k hk)
       have HO2 := Lib.hid ho2
       have HK2 := Lib.hid hk2
       clear ho2 hg2 hk2)
    | ((refine step_append_bytes rfl (.tmp 16) (.tmp 17) rfl (base := W0.heap.size) (l := hd 3 leaf ++ [chain % 256, i % 256]) (m := v) rfl rfl ?_ ?_ ?_ ?_ ?_)
       · (exact HO2.out)
       · (refine sl_whole (m := 16) (c := 16) (blk_below H0.out HK2.out ?_) ?_ ?_ <;> (have := HS.out; omega))
       · (simp [hd]; omega)
       · exact HK2.out.size
       intro v3 w3 ho3 hg3
       have hk3 : Below W0.heap.size W0 w3 := HK2.out.grown hg3 HK2.out.size (fun k hk => own_block HO2.out k hk)
       have HO3 := Lib.hid ho3
       have HK3 := Lib.hid hk3
       clear ho3 hg3 hk3)
    | (refine step_call rfl 64 _ _ rfl #[v3] rfl (fun _ => by kernel_rfl) (half w3 (hd 3 leaf ++ [chain % 256, i % 256] ++ v) v3 (SlC.of_own HO3.out) (by simp [hd]; omega)) ?_
       rintro e w4 ⟨rfl, hb4⟩
       refine ⟨agg .u8 (stp leaf chain i v), rfl, ?_⟩
       have hk4 := bel_trans HK3.out hb4 HK3.out.size
       have hB4 := blk_below H1.out hk4 (by have := HS.out; omega)
       have k4 := bk_of hB4
       have HK4 := Lib.hid hk4
       have HB4 := Lib.hid hB4
       clear hb4 hk4 hB4)
    | fail)
  all_goals
    go_wp2_with fail
    refine ret_rv rfl rfl (blk_setRow HB4.out (cl .u8 (stp leaf chain i v))) hsl rfl ⟨rfl, bel_setRow (bel_trans HB.out HK4.out HB.out.size) (by omega) _⟩
set_option maxRecDepth 20000 in
set_option maxHeartbeats 4000000 in
theorem secret (w : World) (v : List Nat) (leaf chain : Nat) (hs : v.length = 32) (hleaf : leaf ≤ 65535) (hc : chain ≤ 65535) :
    Calls Try.prog 21 #[agg .u8 v, .int .i64 (leaf : Int), .int .i64 (chain : Int)] w fun e w' => e = .returned (agg .u8 (sec v leaf chain)) ∧ Below w.heap.size w w' := by
  go_enter Try.func21, Try.ntmps21
  have ec : ((chain : Int) % 256) = ((chain % 256 : Nat) : Int) := by omega
  have EC := Lib.hid ec
  clear ec
  go_wp2_with fail
  obtain ⟨W0, hW0⟩ : ∃ W0, W0 = ((w.alloc (.cells (cl .u8 v).toArray 31)).alloc (.cells (cl .u8 (zs 16)).toArray 36)) := ⟨_, rfl⟩
  have hB0 : blk W0 w.heap.size (cl .u8 v) 31 := by rw [hW0]; exact blk_alloc (blk_new _ _ _) _
  have hB1 : blk W0 (w.heap.size + 1) (cl .u8 (zs 16)) 36 := by rw [hW0]; exact blk_at _ _ _ (by simp only [alloc_size])
  have hbel : Below w.heap.size w W0 := by rw [hW0]; exact ((Below.refl w.heap.size w).alloc (Nat.le_refl _) _).alloc (by simp only [alloc_size]; omega) _
  have hsz : W0.heap.size = w.heap.size + 2 := by rw [hW0]; simp only [alloc_size]
  rw [← hW0]
  have HS := Lib.hid hsz
  have H0 := Lib.hid hB0
  have H1 := Lib.hid hB1
  have HB := Lib.hid hbel
  clear hW0 hB0 hB1 hbel hsz
  have hsl := sec_length v leaf chain
  go_region_law (first
    | (refine step_call rfl 65 _ _ rfl #[.int .u8 ((2 : Nat) : Int), .int .i64 (leaf : Int)] rfl (fun _ => by kernel_rfl) (head _ 2 leaf hleaf (by omega)) ?_
       rintro e w1 ⟨v1, rfl, ho1, hb1⟩
       refine ⟨_, rfl, ?_⟩
       have ho1' : Own w1 W0.heap.size v1 (hd 2 leaf) := by first | exact own_mono ho1 (Nat.le_refl _) | exact own_mono ho1 (by show _ ≤ (W0.alloc _).heap.size; rw [alloc_size]; exact Nat.le_succ _)
       have hk1 : Below W0.heap.size W0 w1 := by first | exact bel_trans (Below.refl W0.heap.size W0).drew hb1 (Nat.le_refl _) | exact bel_trans ((Below.refl W0.heap.size W0).alloc (Nat.le_refl _) _).drew hb1 (by show _ ≤ (W0.alloc _).heap.size; rw [alloc_size]; exact Nat.le_succ _)
       have HO1 := Lib.hid ho1'
       have HK1 := Lib.hid hk1
       have HB1 := Lib.hid hb1
       clear ho1 ho1' hk1 hb1)
    | ((refine step_append_bytes rfl (.tmp 8) (.tmp 11) rfl (base := W0.heap.size) (l := hd 2 leaf) (m := [chain % 256]) rfl rfl ?_ ?_ ?_ ?_ ?_)
       · (first | exact own_keep HO1.out ((Below.refl _ _).alloc (Nat.le_refl _) _) | exact HO1.out)
       · first | ((refine sl_lit' _ _ [chain % 256] 1 ?_ rfl (by simp) rfl); rw [wrap_u8]; rfl) | ((refine ((sl_lit' W0 _ [chain % 256] 1 ?_ rfl (by simp) rfl).keep (Below.refl _ _).drew).keep HB1.out); rw [wrap_u8]; rfl)
       · simp [hd]
       · first | exact HK1.out.size | (rw [alloc_size]; exact Nat.le_succ_of_le HK1.out.size)
       intro v2 w2 ho2 hg2
       have hk2 : Below W0.heap.size W0 w2 := by first | exact HK1.out.grown hg2 HK1.out.size (fun k hk => own_block HO1.out k hk) | exact (HK1.out.alloc HK1.out.size _).grown hg2 (by rw [alloc_size]; exact Nat.le_succ_of_le HK1.out.size) (fun k hk => own_block HO1.out k hk)
       have HO2 := Lib.hid ho2
       have HK2 := Lib.hid hk2
       clear ho2 hg2 hk2)
    | ((refine step_append_bytes rfl (.tmp 12) (.tmp 13) rfl (base := W0.heap.size) (l := hd 2 leaf ++ [chain % 256]) (m := v) rfl rfl ?_ ?_ ?_ ?_ ?_)
       · (exact HO2.out)
       · (refine sl_whole (m := 32) (c := 32) (blk_below H0.out HK2.out ?_) ?_ ?_ <;> (have := HS.out; omega))
       · (simp [hd]; omega)
       · exact HK2.out.size
       intro v3 w3 ho3 hg3
       have hk3 : Below W0.heap.size W0 w3 := HK2.out.grown hg3 HK2.out.size (fun k hk => own_block HO2.out k hk)
       have HO3 := Lib.hid ho3
       have HK3 := Lib.hid hk3
       clear ho3 hg3 hk3)
    | (refine step_call rfl 64 _ _ rfl #[v3] rfl (fun _ => by kernel_rfl) (half w3 (hd 2 leaf ++ [chain % 256] ++ v) v3 (SlC.of_own HO3.out) (by simp [hd]; omega)) ?_
       rintro e w4 ⟨rfl, hb4⟩
       refine ⟨agg .u8 (sec v leaf chain), rfl, ?_⟩
       have hk4 := bel_trans HK3.out hb4 HK3.out.size
       have hB4 := blk_below H1.out hk4 (by have := HS.out; omega)
       have k4 := bk_of hB4
       have HK4 := Lib.hid hk4
       have HB4 := Lib.hid hB4
       clear hb4 hk4 hB4)
    | fail)
  all_goals
    go_wp2_with fail
    refine ret_rv rfl rfl (blk_setRow HB4.out (cl .u8 (sec v leaf chain))) hsl rfl ⟨rfl, bel_setRow (bel_trans HB.out HK4.out HB.out.size) (by omega) _⟩
/-- n steps from a value on. -/
theorem advance (w : World) (leaf chain from_ n : Nat) (v : List Nat) (hs : v.length = 16) (hleaf : leaf ≤ 65535) (hc : chain ≤ 65535) (hi : from_ + n ≤ 65535) (to_ : Int) (hto : to_ = ((from_ + n : Nat) : Int)) :
    Calls Try.prog 25 #[.int .i64 (leaf : Int), .int .i64 (chain : Int), .int .i64 (from_ : Int), .int .i64 to_, agg .u8 v] w fun e w' => e = .returned (agg .u8 (adv leaf chain from_ n v)) ∧ Below w.heap.size w w' := by
  obtain ⟨T, hT⟩ : ∃ T : Nat, T = from_ + n := ⟨_, rfl⟩
  rw [← hT] at hto
  subst hto
  have HT := Lib.hid hT
  clear hT
  go_enter Try.func25, Try.ntmps25
  go_wp2_with fail
  go_loopw [11] (fun i wr => ∃ k q : Nat, k ≤ n ∧ q = from_ + k ∧ i = .int .i64 (q : Int) ∧ blk wr w.heap.size (cl .u8 (adv leaf chain from_ k v)) 36 ∧ blk wr (w.heap.size + 1) (cl .u8 (zs 16)) 36 ∧ Below w.heap.size w wr) (fun i _ => T - (intOf i).toNat)
  case atStart => exact ⟨0, from_, by omega, rfl, rfl, blk_alloc (blk_new _ _ _) _, blk_at _ _ _ (by simp only [alloc_size]), ((Below.refl _ _).alloc (Nat.le_refl _) _).alloc (by simp only [alloc_size]; omega) _⟩
  case round =>
    obtain ⟨k, q, hk, hq, rfl, hB0, hB1, hb⟩ := hrel
    have hT := HT.out
    have hq2 : q ≤ 65535 := by omega
    have hal := adv_length leaf chain from_ k v hs
    have hlt := blk_lt hB0
    have hk0 := bk_of hB0
    have G0 := Lib.hid hB0
    have G1 := Lib.hid hB1
    by_cases hkn : k < n
    · have i1 : (q : Int) < (T : Int) := by omega
      have i2 : q < T := by omega
      have HQ := Lib.hid hq
      clear hq hT hB0 hB1
      go_wp2_with fail
      refine (step wr leaf chain q _ hal hleaf hc (by have := HQ.out; omega)).mono ?_
      rintro e w1 ⟨rfl, hb1⟩
      have hB2 := blk_keep G0.out hb1
      have hB3 := blk_keep G1.out hb1
      have hb2 := bel_trans hb hb1 hb.size
      have hk2 := bk_of hB2
      have hsl := stp_length leaf chain q (adv leaf chain from_ k v)
      have K0 := Lib.hid hB2
      have K1 := Lib.hid hB3
      clear hb1 hB2 hB3 hk0
      go_wp2_with fail
      refine ⟨⟨k + 1, q + 1, by omega, by have := HQ.out; omega, by go_num, ?_, blk_setRow_ne K1.out _ (by omega), bel_setRow hb2 (Nat.le_refl _) _⟩, by simp [intOf]; omega⟩
      have e : adv leaf chain from_ (k + 1) v = stp leaf chain q (adv leaf chain from_ k v) := by rw [HQ.out, adv]
      rw [e]
      exact blk_setRow K0.out (cl .u8 (stp leaf chain q (adv leaf chain from_ k v)))
    · obtain rfl : k = n := by omega
      have i1 : ¬ (q : Int) < (T : Int) := by omega
      have hk1 := bk_of hB1
      clear hq hT hB0 hB1
      go_wp2_with fail
      refine ret_rv rfl rfl (blk_setRow G1.out (cl .u8 (adv leaf chain from_ k v))) hal rfl ⟨rfl, bel_setRow hb (by omega) _⟩
end Go.Proofs.Ytlgpipdeckdmjaa.Ref
/-
  The reference of layer 7: Split, Lower.
-/
set_option linter.unusedVariables false
set_option linter.unusedSimpArgs false
namespace Go.Proofs.Ytlgpipdeckdmjaa.Ref
open Go.RowKit Base Reg Types Slice Sha Law
open Go.Proofs.Ytlgpipdeckdmjaa.One
/-- The digits of the first k bytes. -/
def dgs (d : List Nat) (k : Nat) : List Nat := upto 35 (2 * k) (dg d)
theorem dg_even (d : List Nat) (k : Nat) : dg d (2 * k) = d.getD k 0 / 16 := by
  unfold dg
  rw [if_pos (by omega), show 2 * k / 2 = k by omega]
theorem dg_odd (d : List Nat) (k : Nat) : dg d (2 * k + 1) = d.getD k 0 % 16 := by
  unfold dg
  rw [if_neg (by omega), show (2 * k + 1) / 2 = k by omega]
set_option maxRecDepth 20000 in
set_option maxHeartbeats 4000000 in
theorem split (w : World) (d : List Nat) (hd : d.length = 16) (hb : By d) :
    Calls Try.prog 18 #[agg .u8 d] w fun e w' => e = .returned (agg .i64 (sp d)) ∧ Below w.heap.size w w' := by
  go_enter Try.func18, Try.ntmps18
  go_wp2_with fail
  go_loopw [4, 5] (fun s i wr => ∃ k : Nat, k ≤ 16 ∧ s = .int .i64 (sm d (2 * k) : Nat) ∧ i = .int .i64 k ∧ blk wr w.heap.size (cl .u8 d) 22 ∧ blk wr (w.heap.size + 1) (cl .i64 (zs 35)) 27 ∧ blk wr (w.heap.size + 1 + 1) (cl .i64 (dgs d k)) 27 ∧ Below w.heap.size w wr) (fun _ i _ => 16 - (intOf i).toNat)
  case atStart =>
    exact ⟨0, by omega, rfl, rfl, blk_alloc (blk_alloc (blk_new _ _ _) _) _, blk_alloc (blk_at _ _ _ (by simp only [alloc_size])) _, by rw [dgs, Nat.mul_zero, upto_zero]; exact blk_at _ _ _ (by simp only [alloc_size]), (((Below.refl w.heap.size w).alloc (Nat.le_refl _) _).alloc (by simp only [alloc_size]; omega) _).alloc (by simp only [alloc_size]; omega) _⟩
  case round =>
    obtain ⟨k, hk, rfl, rfl, h1, h2, h3, hbel⟩ := hrel
    have hl : (dgs d k).length = 35 := upto_length _ _ _
    by_cases hk2 : k < 16
    · obtain ⟨x, hx⟩ : ∃ x, x = d.getD k 0 := ⟨_, rfl⟩
      have hx2 : x < 256 := hx ▸ hb k
      have hs := sm_le d (2 * k)
      obtain ⟨y, hy⟩ : ∃ y, y = sm d (2 * k) := ⟨_, rfl⟩
      rw [← hy] at hs ⊢
      have c1 : wr.cell? ⟨w.heap.size, k, none⟩ = some (.int .u8 (x : Int)) := by rw [hx]; exact (blk_cell h1 k).trans (cl_get _ _ _ (by omega))
      have c2 : wr.cell? ⟨w.heap.size + 1 + 1, 2 * k, none⟩ = some (.int .i64 (((dgs d k).getD (2 * k) 0 : Nat) : Int)) := (blk_cell h3 _).trans (cl_get _ _ _ (by omega))
      have c3 : wr.cell? ⟨w.heap.size + 1 + 1, 2 * k + 1, none⟩ = some (.int .i64 (((dgs d k).getD (2 * k + 1) 0 : Nat) : Int)) := (blk_cell h3 _).trans (cl_get _ _ _ (by omega))
      have f2 : wr.frozen? ⟨w.heap.size + 1 + 1, 2 * k, none⟩ = false := blk_free h3 _
      have f3 : wr.frozen? ⟨w.heap.size + 1 + 1, 2 * k + 1, none⟩ = false := blk_free h3 _
      have HX := Lib.hid hx
      have HY := Lib.hid hy
      have B1 := Lib.hid h1
      have B2 := Lib.hid h2
      have B3 := Lib.hid h3
      have HBW := Lib.hid hbel
      clear hx hy h1 h2 h3 hbel
      go_wp2_with fail
      go_region
      go_wp2_with fail
      have e1 : (x : Int) / 16 = ((dg d (2 * k) : Nat) : Int) := by rw [dg_even, ← HX.out]; omega
      have e2 : (x : Int) % 16 = ((dg d (2 * k + 1) : Nat) : Int) := by rw [dg_odd, ← HX.out]; omega
      rw [e1, e2]
      have b3 := blk_setCell (blk_setCell B3.out (2 * k) (.int .i64 ((dg d (2 * k) : Nat) : Int))) (2 * k + 1) (.int .i64 ((dg d (2 * k + 1) : Nat) : Int))
      have ed : ((dgs d k).set (2 * k) (dg d (2 * k))).set (2 * k + 1) (dg d (2 * k + 1)) = dgs d (k + 1) := by
        unfold dgs
        rw [upto_set 35 _ _ (by omega), upto_set 35 _ _ (by omega), show 2 * (k + 1) = 2 * k + 1 + 1 by omega]
      rw [cl_set, cl_set, ed] at b3
      have b1 := blk_setCell_ne (blk_setCell_ne B1.out (a := ⟨w.heap.size + 1 + 1, 2 * k, none⟩) (.int .i64 ((dg d (2 * k) : Nat) : Int)) (by simp; omega)) (a := ⟨w.heap.size + 1 + 1, 2 * k + 1, none⟩) (.int .i64 ((dg d (2 * k + 1) : Nat) : Int)) (by simp; omega)
      have b2 := blk_setCell_ne (blk_setCell_ne B2.out (a := ⟨w.heap.size + 1 + 1, 2 * k, none⟩) (.int .i64 ((dg d (2 * k) : Nat) : Int)) (by simp)) (a := ⟨w.heap.size + 1 + 1, 2 * k + 1, none⟩) (.int .i64 ((dg d (2 * k + 1) : Nat) : Int)) (by simp)
      have bb := bel_setCell (bel_setCell HBW.out (a := ⟨w.heap.size + 1 + 1, 2 * k, none⟩) (by simp; omega) (.int .i64 ((dg d (2 * k) : Nat) : Int))) (a := ⟨w.heap.size + 1 + 1, 2 * k + 1, none⟩) (by simp; omega) (.int .i64 ((dg d (2 * k + 1) : Nat) : Int))
      generalize ((wr.setCell ⟨w.heap.size + 1 + 1, 2 * k, none⟩ (.int .i64 ((dg d (2 * k) : Nat) : Int))).setCell ⟨w.heap.size + 1 + 1, 2 * k + 1, none⟩ (.int .i64 ((dg d (2 * k + 1) : Nat) : Int))) = W2 at b1 b2 b3 bb ⊢
      have p1 := dg_le hb (2 * k)
      have p2 := dg_le hb (2 * k + 1)
      have g1 : W2.drew.cell? ⟨w.heap.size + 1 + 1, 2 * k, none⟩ = some (.int .i64 ((dg d (2 * k) : Nat) : Int)) := (blk_cell (blk_drew b3) _).trans (by rw [cl_get _ _ _ (by rw [dgs, upto_length]; omega), dgs, upto_get _ _ _ _ (by omega) (by omega)])
      have g2 : W2.drew.cell? ⟨w.heap.size + 1 + 1, 2 * k + 1, none⟩ = some (.int .i64 ((dg d (2 * k + 1) : Nat) : Int)) := (blk_cell (blk_drew b3) _).trans (by rw [cl_get _ _ _ (by rw [dgs, upto_length]; omega), dgs, upto_get _ _ _ _ (by omega) (by omega)])
      clear c1 c2 c3 f2 f3 B1 B2 B3 HBW e1 e2
      have K1 := Lib.hid (blk_drew b1)
      have K2 := Lib.hid (blk_drew b2)
      have K3 := Lib.hid (blk_drew b3)
      have KB := Lib.hid bb.drew
      clear b1 b2 b3 bb ed
      generalize W2.drew = W3 at g1 g2 K1 K2 K3 KB ⊢
      go_region
      go_wp2_with fail
      refine ⟨⟨k + 1, by omega, ?_, by go_num, blk_drew K1.out, blk_drew K2.out, blk_drew K3.out, KB.out.drew⟩, by simp [intOf]; omega⟩
      have e : sm d (2 * (k + 1)) = sm d (2 * k) + (15 - dg d (2 * k)) + (15 - dg d (2 * k + 1)) := by rw [show 2 * (k + 1) = 2 * k + 1 + 1 by omega]; rfl
      have ey := HY.out
      have e2 : (y : Int) + (30 - ((dg d (2 * k) : Nat) : Int) - ((dg d (2 * k + 1) : Nat) : Int)) = ((sm d (2 * (k + 1)) : Nat) : Int) := by rw [e]; omega
      rw [e2]
    · obtain rfl : k = 16 := by omega
      obtain ⟨y, hy⟩ : ∃ y, y = sm d (2 * 16) := ⟨_, rfl⟩
      have hs : y ≤ 480 := by rw [hy]; exact sm_le d 32
      rw [← hy]
      have c2 : wr.cell? ⟨w.heap.size + 1 + 1, 32, none⟩ = some (.int .i64 (((dgs d 16).getD 32 0 : Nat) : Int)) := (blk_cell h3 _).trans (cl_get _ _ _ (by omega))
      have c3 : wr.cell? ⟨w.heap.size + 1 + 1, 33, none⟩ = some (.int .i64 (((dgs d 16).getD 33 0 : Nat) : Int)) := (blk_cell h3 _).trans (cl_get _ _ _ (by omega))
      have c4 : wr.cell? ⟨w.heap.size + 1 + 1, 34, none⟩ = some (.int .i64 (((dgs d 16).getD 34 0 : Nat) : Int)) := (blk_cell h3 _).trans (cl_get _ _ _ (by omega))
      have f2 : wr.frozen? ⟨w.heap.size + 1 + 1, 32, none⟩ = false := blk_free h3 _
      have f3 : wr.frozen? ⟨w.heap.size + 1 + 1, 33, none⟩ = false := blk_free h3 _
      have f4 : wr.frozen? ⟨w.heap.size + 1 + 1, 34, none⟩ = false := blk_free h3 _
      have HY := Lib.hid hy
      have B1 := Lib.hid h1
      have B2 := Lib.hid h2
      have B3 := Lib.hid h3
      clear hy h1 h2 h3
      have y1 : (y : Int) / 256 = ((spd d 32 : Nat) : Int) := by have := HY.out; rw [show spd d 32 = y / 2 ^ (4 * (34 - 32)) % 16 by rw [this]; rfl]; omega
      have y2 : (y : Int) / 16 % 16 = ((spd d 33 : Nat) : Int) := by have := HY.out; rw [show spd d 33 = y / 2 ^ (4 * (34 - 33)) % 16 by rw [this]; rfl]; omega
      have y3 : (y : Int) % 16 = ((spd d 34 : Nat) : Int) := by have := HY.out; rw [show spd d 34 = y / 2 ^ (4 * (34 - 34)) % 16 by rw [this]; rfl]; omega
      have es : (((dgs d 16).set 32 (spd d 32)).set 33 (spd d 33)).set 34 (spd d 34) = sp d := by
        have e0 : dgs d 16 = upto 35 32 (spd d) := by
          unfold dgs upto
          apply List.map_congr_left
          intro j hj
          by_cases h : j < 32
          · simp [h, spd]
          · simp [h]
        rw [e0, upto_set 35 32 (spd d) (by omega), upto_set 35 33 (spd d) (by omega), upto_set 35 34 (spd d) (by omega), upto_full]
        rfl
      have b3 : blk (((wr.setCell ⟨w.heap.size + 1 + 1, 32, none⟩ (.int .i64 ((y : Int) / 256))).setCell ⟨w.heap.size + 1 + 1, 33, none⟩ (.int .i64 ((y : Int) / 16 % 16))).setCell ⟨w.heap.size + 1 + 1, 34, none⟩ (.int .i64 ((y : Int) % 16))) (w.heap.size + 1 + 1) (cl .i64 (sp d)) 27 := by
        rw [y1, y2, y3]
        have h := blk_setCell (blk_setCell (blk_setCell B3.out 32 (.int .i64 ((spd d 32 : Nat) : Int))) 33 (.int .i64 ((spd d 33 : Nat) : Int))) 34 (.int .i64 ((spd d 34 : Nat) : Int))
        rw [cl_set, cl_set, cl_set, es] at h
        exact h
      have b2 : blk (((wr.setCell ⟨w.heap.size + 1 + 1, 32, none⟩ (.int .i64 ((y : Int) / 256))).setCell ⟨w.heap.size + 1 + 1, 33, none⟩ (.int .i64 ((y : Int) / 16 % 16))).setCell ⟨w.heap.size + 1 + 1, 34, none⟩ (.int .i64 ((y : Int) % 16))) (w.heap.size + 1) (cl .i64 (zs 35)) 27 :=
        blk_setCell_ne (blk_setCell_ne (blk_setCell_ne B2.out _ (by simp)) _ (by simp)) _ (by simp)
      have bb : Below w.heap.size w (((wr.setCell ⟨w.heap.size + 1 + 1, 32, none⟩ (.int .i64 ((y : Int) / 256))).setCell ⟨w.heap.size + 1 + 1, 33, none⟩ (.int .i64 ((y : Int) / 16 % 16))).setCell ⟨w.heap.size + 1 + 1, 34, none⟩ (.int .i64 ((y : Int) % 16))) :=
        bel_setCell (bel_setCell (bel_setCell hbel (by simp; omega) _) (by simp; omega) _) (by simp; omega) _
      have q3 := bk_of b3
      have q2 := bk_of b2
      have hls := sp_length d
      have K2 := Lib.hid b2
      have KB := Lib.hid bb
      clear b3 b2 bb es y1 y2 y3 hbel
      go_wp2_with fail
      refine ret_i35 rfl rfl (blk_setRow K2.out (cl .i64 (sp d))) hls rfl ⟨rfl, bel_setRow KB.out (by omega) _⟩
end Go.Proofs.Ytlgpipdeckdmjaa.Ref
/-
  The reference of layer 7: Lower.
-/
set_option linter.unusedVariables false
set_option linter.unusedSimpArgs false
namespace Go.Proofs.Ytlgpipdeckdmjaa.Ref
open Go.RowKit Base Reg Types Slice Sha Law
open Go.Proofs.Ytlgpipdeckdmjaa.One
def lwI : Option Nat → Int
  | some c => c
  | none => -1
/-- The frame of Lower while both Splits are made. -/
def Fr (w : World) (a b : List Nat) (u6 u7 u9 u10 u11 u12 : Value) : Act :=
  { tmps := #[agg .u8 a, agg .u8 b, .pointer (some ⟨w.heap.size, 0, none⟩), .pointer (some ⟨w.heap.size + 1, 0, none⟩), .int .i64 0, u6, u7, undef, u9, u10, u11, u12, undef, undef, undef, undef, undef, undef, undef, undef, undef, undef, undef, undef], defers := [] }
def B5 (w : World) (a b : List Nat) (x : Act) (W : World) : Prop :=
  ∃ u6 u7 u9 u10 u11 u12, x = Fr w a b u6 u7 u9 u10 u11 u12 ∧ At5 w a b W ∧ (∀ p, u6 = .pointer (some ⟨p, 0, none⟩) → w.heap.size + 2 ≤ p ∧ blk W p (cl .i64 (zs 35)) 27) ∧ (∀ p, u7 = .pointer (some ⟨p, 0, none⟩) → w.heap.size + 2 ≤ p ∧ blk W p (cl .i64 (zs 35)) 27) ∧ (∀ p, u6 = .pointer (some ⟨p, 0, none⟩) → u7 = .pointer (some ⟨p, 0, none⟩) → False)
def G5 (a b : List Nat) (i : Nat) (x : Act) (W : World) : Prop := match i with
  | 0 => x.tmps.getD 8 undef = agg .u8 a
  | 1 => x.tmps.getD 9 undef = agg .i64 (sp a)
  | 2 => x.tmps.getD 10 undef = agg .u8 b
  | 3 => x.tmps.getD 11 undef = agg .i64 (sp b)
  | 4 => ∃ p, x.tmps.getD 5 undef = .pointer (some ⟨p, 0, none⟩)
  | 5 => ∃ p, x.tmps.getD 6 undef = .pointer (some ⟨p, 0, none⟩)
  | _ => True
set_option maxRecDepth 20000 in
set_option maxHeartbeats 4000000 in
theorem lower (w : World) (a b : List Nat) (ha : a.length = 16) (hb : b.length = 16) (ba : By a) (bb : By b) :
    Calls Try.prog 15 #[agg .u8 a, agg .u8 b] w fun e w' => e = .returned (.int .i64 (lwI (lwr a b))) ∧ Below w.heap.size w w' := by
  go_enter Try.func15, Try.ntmps15
  have la := sp_length a
  have lb := sp_length b
  go_wp2_with fail
  refine Ord.wp_region_inv 6 (B5 w a b) (G5 a b) (by kernel_rfl) (by kernel_rfl) ⟨undef, undef, undef, undef, undef, undef, rfl, At5.drew ⟨blk_alloc (blk_new _ _ _) _, blk_at _ _ _ (by simp only [alloc_size]), ((Below.refl w.heap.size w).alloc (Nat.le_refl _) _).alloc (by simp only [alloc_size]; omega) _⟩, fun p h => (by cases h), fun p h => (by cases h), fun p h => (by cases h)⟩ ?_ ?_
  · intro i o hi ho x W hB hG
    obtain ⟨u6, u7, u9, u10, u11, u12, rfl, hA, h6, h7, hne⟩ := hB
    have q1 := bk_of hA.1
    have q2 := bk_of hA.2.1
    have HA := Lib.hid hA
    have H6 := Lib.hid h6
    have H7 := Lib.hid h7
    have HN := Lib.hid hne
    clear hA h6 h7 hne
    match i, hi with
    | 0, _ =>
      cases ho
      clear hG
      unfold Fr
      go_wp2_with fail
      refine ⟨⟨u6, u7, _, u10, u11, u12, rfl, HA.out, H6.out, H7.out, HN.out⟩, rfl, ?_⟩
      intro j hj hji h
      match j, hj with
      | 0, _ => exact absurd rfl hji
      | 1, _ => exact h
      | 2, _ => exact h
      | 3, _ => exact h
      | 4, _ => exact h
      | 5, _ => exact h
    | 1, _ =>
      cases ho
      have g : u9 = agg .u8 a := hG ⟨0, .data⟩ (by simp) rfl
      subst g
      clear hG
      unfold Fr
      go_wp2_with fail
      refine (split _ a ha ba).mono ?_
      rintro e w1 ⟨rfl, hb1⟩
      have hA1 := Lib.hid (At5.below HA.out hb1)
      have h61 : ∀ p, u6 = .pointer (some ⟨p, 0, none⟩) → w.heap.size + 2 ≤ p ∧ blk w1 p (cl .i64 (zs 35)) 27 := fun p h => ⟨(H6.out p h).1, blk_keep (H6.out p h).2 hb1⟩
      have h71 : ∀ p, u7 = .pointer (some ⟨p, 0, none⟩) → w.heap.size + 2 ≤ p ∧ blk w1 p (cl .i64 (zs 35)) 27 := fun p h => ⟨(H7.out p h).1, blk_keep (H7.out p h).2 hb1⟩
      have H61 := Lib.hid h61
      have H71 := Lib.hid h71
      clear hb1 h61 h71
      go_wp2_with fail
      refine ⟨⟨u6, u7, _, _, u11, u12, rfl, hA1.out, H61.out, H71.out, HN.out⟩, rfl, ?_⟩
      intro j hj hji h
      match j, hj with
      | 0, _ => exact h
      | 1, _ => exact absurd rfl hji
      | 2, _ => exact h
      | 3, _ => exact h
      | 4, _ => exact h
      | 5, _ => exact h
    | 2, _ =>
      cases ho
      clear hG
      unfold Fr
      go_wp2_with fail
      refine ⟨⟨u6, u7, u9, u10, _, u12, rfl, HA.out, H6.out, H7.out, HN.out⟩, rfl, ?_⟩
      intro j hj hji h
      match j, hj with
      | 0, _ => exact h
      | 1, _ => exact h
      | 2, _ => exact absurd rfl hji
      | 3, _ => exact h
      | 4, _ => exact h
      | 5, _ => exact h
    | 3, _ =>
      cases ho
      have g : u11 = agg .u8 b := hG ⟨2, .data⟩ (by simp) rfl
      subst g
      clear hG
      unfold Fr
      go_wp2_with fail
      refine (split _ b hb bb).mono ?_
      rintro e w1 ⟨rfl, hb1⟩
      have hA1 := Lib.hid (At5.below HA.out hb1)
      have h61 : ∀ p, u6 = .pointer (some ⟨p, 0, none⟩) → w.heap.size + 2 ≤ p ∧ blk w1 p (cl .i64 (zs 35)) 27 := fun p h => ⟨(H6.out p h).1, blk_keep (H6.out p h).2 hb1⟩
      have h71 : ∀ p, u7 = .pointer (some ⟨p, 0, none⟩) → w.heap.size + 2 ≤ p ∧ blk w1 p (cl .i64 (zs 35)) 27 := fun p h => ⟨(H7.out p h).1, blk_keep (H7.out p h).2 hb1⟩
      have H61 := Lib.hid h61
      have H71 := Lib.hid h71
      clear hb1 h61 h71
      go_wp2_with fail
      refine ⟨⟨u6, u7, u9, u10, _, _, rfl, hA1.out, H61.out, H71.out, HN.out⟩, rfl, ?_⟩
      intro j hj hji h
      match j, hj with
      | 0, _ => exact h
      | 1, _ => exact h
      | 2, _ => exact h
      | 3, _ => exact absurd rfl hji
      | 4, _ => exact h
      | 5, _ => exact h
    | 4, _ =>
      cases ho
      clear hG
      unfold Fr
      go_wp2_with fail
      have hk : Below W.heap.size W (W.alloc (.cells (cl .i64 (zs 35)).toArray 27)) := (Below.refl _ _).alloc (Nat.le_refl _) _
      have hsz := (HA.out.2.1 |> blk_lt)
      refine ⟨⟨_, u7, u9, u10, u11, u12, rfl, At5.below HA.out hk, (fun p h => by cases h; exact ⟨by omega, blk_new _ _ _⟩), (fun p h => ⟨(H7.out p h).1, blk_keep (H7.out p h).2 hk⟩), (fun p h h' => by cases h; have := blk_lt (H7.out _ h').2; omega)⟩, ⟨_, rfl⟩, ?_⟩
      intro j hj hji h
      match j, hj with
      | 0, _ => exact h
      | 1, _ => exact h
      | 2, _ => exact h
      | 3, _ => exact h
      | 4, _ => exact absurd rfl hji
      | 5, _ => exact h
    | 5, _ =>
      cases ho
      clear hG
      unfold Fr
      go_wp2_with fail
      have hk : Below W.heap.size W (W.alloc (.cells (cl .i64 (zs 35)).toArray 27)) := (Below.refl _ _).alloc (Nat.le_refl _) _
      have hsz := (HA.out.2.1 |> blk_lt)
      refine ⟨⟨u6, _, u9, u10, u11, u12, rfl, At5.below HA.out hk, (fun p h => ⟨(H6.out p h).1, blk_keep (H6.out p h).2 hk⟩), (fun p h => by cases h; exact ⟨by omega, blk_new _ _ _⟩), (fun p h' h => by cases h; have := blk_lt (H6.out _ h').2; omega)⟩, ⟨_, rfl⟩, ?_⟩
      intro j hj hji h
      match j, hj with
      | 0, _ => exact h
      | 1, _ => exact h
      | 2, _ => exact h
      | 3, _ => exact h
      | 4, _ => exact h
      | 5, _ => exact absurd rfl hji
  · intro x W hB hG
    obtain ⟨u6, u7, u9, u10, u11, u12, rfl, hA, h6, h7, hne⟩ := hB
    have g0 : u9 = agg .u8 a := hG 0 (by omega)
    have g1 : u10 = agg .i64 (sp a) := hG 1 (by omega)
    have g2 : u11 = agg .u8 b := hG 2 (by omega)
    have g3 : u12 = agg .i64 (sp b) := hG 3 (by omega)
    obtain ⟨p6, g4⟩ : ∃ p, u6 = .pointer (some ⟨p, 0, none⟩) := hG 4 (by omega)
    obtain ⟨p7, g5⟩ : ∃ p, u7 = .pointer (some ⟨p, 0, none⟩) := hG 5 (by omega)
    obtain ⟨hp6, hB6⟩ := h6 p6 g4
    obtain ⟨hp7, hB7⟩ := h7 p7 g5
    have hn67 : p6 ≠ p7 := fun e => hne p6 g4 (by rw [g5, e])
    subst g0 g1 g2 g3 g4 g5
    have k6 := bk_of hB6
    have k7 := bk_of hB7
    have hn76 : p7 ≠ p6 := fun e => hn67 e.symm
    have hbel := hA.2.2
    have k67 := bk_of (blk_setRow_ne hB7 (cl .i64 (sp a)).toArray hn76)
    clear hG hA h6 h7 hne
    have K6 := Lib.hid hB6
    have K7 := Lib.hid hB7
    clear hB6 hB7
    unfold Fr
    go_wp2_with fail
    have S0 : blk ((W.setRow p6 (cl .i64 (sp a)).toArray).setRow p7 (cl .i64 (sp b)).toArray) p6 (cl .i64 (sp a)) 27 ∧ blk ((W.setRow p6 (cl .i64 (sp a)).toArray).setRow p7 (cl .i64 (sp b)).toArray) p7 (cl .i64 (sp b)) 27 ∧ Below w.heap.size w ((W.setRow p6 (cl .i64 (sp a)).toArray).setRow p7 (cl .i64 (sp b)).toArray) :=
      ⟨blk_setRow_ne (blk_setRow K6.out (cl .i64 (sp a))) _ hn67, blk_setRow (blk_setRow_ne K7.out _ hn76) (cl .i64 (sp b)), bel_setRow (bel_setRow hbel (by omega) _) (by omega) _⟩
    go_loopw [7] (fun i wr => ∃ k : Nat, k ≤ 35 ∧ i = .int .i64 k ∧ (∀ j, j < k → ¬ spd b j < spd a j) ∧ blk wr p6 (cl .i64 (sp a)) 27 ∧ blk wr p7 (cl .i64 (sp b)) 27 ∧ Below w.heap.size w wr) (fun i _ => 35 - (intOf i).toNat)
    case atStart => exact ⟨0, by omega, rfl, fun j hj => absurd hj (Nat.not_lt_zero j), S0⟩
    case round =>
      clear S0 k6 k7 k67 K6 K7 hbel
      obtain ⟨k, hk, rfl, hno, hB6, hB7, hbel⟩ := hrel
      have HN := Lib.hid hno
      by_cases hk2 : k < 35
      · obtain ⟨ι, F, hF, hin⟩ := class_of (fun W => blk W p6 (cl .i64 (sp a)) 27 ∧ blk W p7 (cl .i64 (sp b)) 27 ∧ Below w.heap.size w W)
        have q1 : ∀ i, (F i).cell? ⟨p6, k, none⟩ = some (.int .i64 ((spd a k : Nat) : Int)) := fun i => (blk_cell (hF i).1 _).trans (by rw [cl_get _ _ _ (by omega), sp_getD a k hk2])
        have q2 : ∀ i, (F i).cell? ⟨p7, k, none⟩ = some (.int .i64 ((spd b k : Nat) : Int)) := fun i => (blk_cell (hF i).2.1 _).trans (by rw [cl_get _ _ _ (by omega), sp_getD b k hk2])
        have h0 := hin wr.drew ⟨blk_drew hB6, blk_drew hB7, hbel.drew⟩
        have hne : Nonempty ι := ⟨h0.choose⟩
        have HF := Lib.hid hF
        have H0 := Lib.hid h0
        clear hF hin hB6 hB7 hbel h0 hno
        go_wp2_with fail
        refine wp_region_all F (by kernel_rfl) (by kernel_rfl) H0.out ?_
        repeat (go_big_quiet_step (fail))
        refine wpQuiet_nil ?_
        intro i
        by_cases hlt : spd b k < spd a k
        · go_wp2_with fail
          go_ret
          rw [lwr_some hk2 hlt HN.out]
          exact ⟨rfl, (HF.out i).2.2⟩
        · go_wp2_with fail
          exact ⟨⟨k + 1, by omega, by go_num, fun j hj => (by
            by_cases hjk : j = k
            · subst hjk; exact hlt
            · exact HN.out j (by omega)), (HF.out i).1, (HF.out i).2.1, (HF.out i).2.2⟩, by simp [intOf]; omega⟩
      · obtain rfl : k = 35 := by omega
        have e := lwr_none hno
        clear hno
        go_wp2_with fail
        go_ret
        rw [e]
        exact ⟨rfl, hbel⟩
end Go.Proofs.Ytlgpipdeckdmjaa.Ref
/-
  The examples of the document hold.
-/
set_option linter.unusedVariables false
set_option linter.unusedSimpArgs false
namespace Go.Proofs.Ytlgpipdeckdmjaa.Known
open Go.RowKit Base Reg Types Slice Sha
open Go.Proofs.Ytlgpipdeckdmjaa.One
def za : List Nat := zs 16
def zb : List Nat := (zs 16).set 15 1
theorem by_mem {l : List Nat} (h : l.all (· < 256) = true) : By l := by
  intro j
  rw [List.getD_eq_getElem?_getD]
  cases hj : l[j]? with
  | none => decide
  | some x =>
    have := List.all_eq_true.1 h x (List.mem_of_getElem? hj)
    simpa using this
theorem by_za : By za := by_mem (by decide)
theorem by_zb : By zb := by_mem (by decide)
theorem lw_ba : lwr zb za = some 31 := by kernel_rfl
theorem lw_ab : lwr za zb = some 33 := by kernel_rfl
set_option maxRecDepth 20000 in
set_option maxHeartbeats 4000000 in
theorem known (w : World) : Calls Try.prog 16 #[] w fun e w' => e = .returned (.bool true) ∧ Below w.heap.size w w' := by
  go_enter Try.func16, Try.ntmps16
  go_wp2_with fail
  have e1 : (((w.alloc (.cells (cl .u8 (zs 16)).toArray 22)).alloc (.cells ((cl .u8 (zs 16)).set 15 (.int .u8 1)).toArray 22))) = ((w.alloc (.cells (cl .u8 za).toArray 22)).alloc (.cells (cl .u8 zb).toArray 22)) := rfl
  rw [e1]
  obtain ⟨W0, hW0⟩ : ∃ W0, W0 = ((w.alloc (.cells (cl .u8 za).toArray 22)).alloc (.cells (cl .u8 zb).toArray 22)) := ⟨_, rfl⟩
  have hA : blk W0 w.heap.size (cl .u8 za) 22 := by rw [hW0]; exact blk_alloc (blk_new _ _ _) _
  have hB : blk W0 (w.heap.size + 1) (cl .u8 zb) 22 := by rw [hW0]; exact blk_at _ _ _ (by simp only [alloc_size])
  have hbel : Below w.heap.size w W0 := by rw [hW0]; exact ((Below.refl w.heap.size w).alloc (Nat.le_refl _) _).alloc (by simp only [alloc_size]; omega) _
  rw [← hW0]
  clear e1 hW0
  have hza : za.length = 16 := rfl
  have hzb : zb.length = 16 := rfl
  refine (split W0 za rfl by_za).mono ?_
  rintro e w1 ⟨rfl, hb1⟩
  have A1 := blk_keep hA hb1
  have B1 := blk_keep hB hb1
  have L1 := bel_trans hbel hb1 hbel.size
  have a1 := bk_of A1
  have b1 := bk_of B1
  have l1 := blk_lt A1
  have m1 := blk_lt B1
  have s1 := sp_length za
  have HA1 := Lib.hid A1
  have HB1 := Lib.hid B1
  have HL1 := Lib.hid L1
  clear hA hB hbel hb1 A1 B1 L1
  go_wp2_with fail
  have A2 := blk_alloc HA1.out (.cells (cl .i64 (sp za)).toArray 27)
  have B2 := blk_alloc HB1.out (.cells (cl .i64 (sp za)).toArray 27)
  have D2 := blk_new w1 (cl .i64 (sp za)) 27
  have L2 := HL1.out.alloc HL1.out.size (.cells (cl .i64 (sp za)).toArray 27)
  generalize w1.alloc (.cells (cl .i64 (sp za)).toArray 27) = W1 at A2 B2 D2 L2 ⊢
  refine (lower W1 zb za rfl rfl by_zb by_za).mono ?_
  rintro e w2 ⟨rfl, hb2⟩
  rw [lw_ba]
  have A3 := blk_keep A2 hb2
  have B3 := blk_keep B2 hb2
  have D3 := blk_keep D2 hb2
  have L3 := bel_trans L2 hb2 L2.size
  have a3 := bk_of A3
  have b3 := bk_of B3
  have HA3 := Lib.hid A3
  have HB3 := Lib.hid B3
  have HD3 := Lib.hid D3
  have HL3 := Lib.hid L3
  clear A2 B2 D2 L2 hb2 A3 B3 D3 L3 a1 b1 HA1 HB1 HL1
  unfold lwV
  go_wp2_with fail
  refine (lower w2 za zb rfl rfl by_za by_zb).mono ?_
  rintro e w4 ⟨rfl, hb4⟩
  rw [lw_ab]
  have A5 := blk_keep HA3.out hb4
  have B5 := blk_keep HB3.out hb4
  have D5 := blk_keep HD3.out hb4
  have L5 := bel_trans HL3.out hb4 HL3.out.size
  have a5 := bk_of A5
  have b5 := bk_of B5
  have HA5 := Lib.hid A5
  have HB5 := Lib.hid B5
  have HD5 := Lib.hid D5
  have HL5 := Lib.hid L5
  clear hb4 A5 B5 D5 L5 a3 b3 HA3 HB3 HD3 HL3
  unfold lwV
  go_wp2_with fail
  refine (Step_in w4 1 2 3 za rfl (by omega) (by omega) (by omega)).mono ?_
  rintro e w6 ⟨rfl, hb6⟩
  have A7 := blk_keep HA5.out hb6
  have B7 := blk_keep HB5.out hb6
  have D7 := blk_keep HD5.out hb6
  have L7 := bel_trans HL5.out hb6 HL5.out.size
  have a7 := bk_of A7
  have b7 := bk_of B7
  have sl := stp_length 1 2 3 za
  have HA7 := Lib.hid A7
  have HB7 := Lib.hid B7
  have HD7 := Lib.hid D7
  have HL7 := Lib.hid L7
  clear hb6 A7 B7 D7 L7 a5 b5 HA5 HB5 HD5 HL5
  obtain ⟨ι, F, hF, hin⟩ := class_of (fun W => blk W w.heap.size (cl .u8 za) 22 ∧ blk W w1.heap.size (cl .i64 (sp za)) 27 ∧ blk W w6.heap.size (cl .u8 (stp 1 2 3 za)) 22 ∧ Below w.heap.size w W)
  have h0 := hin (w6.alloc (.cells (cl .u8 (stp 1 2 3 za)).toArray 22)).drew ⟨blk_drew (blk_alloc HA7.out _), blk_drew (blk_alloc HD7.out _), blk_drew (blk_new _ _ _), (HL7.out.alloc HL7.out.size _).drew⟩
  have hne : Nonempty ι := ⟨h0.choose⟩
  have q0 : ∀ i, bk (F i) w.heap.size = some (cl .u8 za).toArray := fun i => bk_of (hF i).1
  have q1 : ∀ i, bk (F i) w6.heap.size = some (cl .u8 (stp 1 2 3 za)).toArray := fun i => bk_of (hF i).2.2.1
  have r1 : ∀ i, (F i).cell? ⟨w1.heap.size, 31, none⟩ = some (.int .i64 0) := fun i => (blk_cell (hF i).2.1 31).trans (by kernel_rfl)
  have r2 : ∀ i, (F i).cell? ⟨w1.heap.size, 32, none⟩ = some (.int .i64 1) := fun i => (blk_cell (hF i).2.1 32).trans (by kernel_rfl)
  have r3 : ∀ i, (F i).cell? ⟨w1.heap.size, 33, none⟩ = some (.int .i64 14) := fun i => (blk_cell (hF i).2.1 33).trans (by kernel_rfl)
  have r4 : ∀ i, (F i).cell? ⟨w1.heap.size, 34, none⟩ = some (.int .i64 0) := fun i => (blk_cell (hF i).2.1 34).trans (by kernel_rfl)
  have HF := Lib.hid hF
  have HI := Lib.hid hin
  have H0 := Lib.hid h0
  clear hF hin h0 a7 b7
  go_wp2_with fail
  refine wp_region_all F (by kernel_rfl) (by kernel_rfl) H0.out ?_
  repeat (go_big_quiet_step ((go_at_call 24; (exact quiet_below HF.out HI.out (fun _ _ h hb => ⟨blk_keep h.1 hb, blk_keep h.2.1 hb, blk_keep h.2.2.1 hb, bel_trans h.2.2.2 hb h.2.2.2.size⟩) (Ref.step _ 1 2 3 za rfl (by omega) (by omega) (by omega))))))
  refine wpQuiet_nil ?_
  intro i
  go_wp2_with fail
  go_ret
  exact ⟨rfl, (HF.out i).2.2.2⟩
theorem isin (n m : Int) (w : World) : Calls Try.prog 20 #[.int .i64 n, .int .i64 m] w fun e w' => e = .returned (.bool (decide (0 ≤ n ∧ n ≤ m))) ∧ w = w' := by
  go_enter Try.func20, Try.ntmps20
  by_cases h : 0 ≤ n
  · go_wp2
    go_ret
    exact ⟨by simp [h], rfl⟩
  · go_wp2
    go_ret
    exact ⟨by simp; omega, rfl⟩
end Go.Proofs.Ytlgpipdeckdmjaa.Known
