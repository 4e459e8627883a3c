/-
  The reference of layer 7: Secret, Step, Advance.
-/
import Derived.Test.YtlgpipdeckdmjaaRef4
import Derived.Test.YtlgpipdeckdmjaaLaw
set_option linter.unusedVariables false
set_option linter.unusedSimpArgs false
namespace Go.Proofs.Ytlgpipdeckdmjaa.Ref
open Go.RowKit Base Reg Types Slice Sha Law
open Go.Proofs.Ytlgpipdeckdmjaa.One
theorem sl_lit' (w : World) (cs : Array Value) (l : List Nat) (n : Nat) (hcs : cs = (cl .u8 l).toArray) (hn : n = l.length) (h : l.length ≤ 1099511627776) {b : Nat} (hb : b = w.heap.size) : Sl (w.alloc (.cells cs 5)) (.slice (some ⟨b, 0, none⟩) n n) l := by
  subst hcs
  exact sl_lit w l n hn h hb
theorem wrap_u8 (n : Nat) : IntKind.u8.wrap (n : Int) = ((n % 256 : Nat) : Int) := by
  rw [show IntKind.u8.wrap (n : Int) = (n : Int) % 256 by simp [IntKind.wrap, IntKind.bits, IntKind.signed]]
  omega
set_option maxRecDepth 20000 in
set_option maxHeartbeats 4000000 in
theorem step (w : World) (leaf chain i : Nat) (v : List Nat) (hs : v.length = 16) (hleaf : leaf ≤ 65535) (hc : chain ≤ 65535) (hi : i ≤ 65535) :
    Calls Try.prog 24 #[.int .i64 (leaf : Int), .int .i64 (chain : Int), .int .i64 (i : Int), agg .u8 v] w fun e w' => e = .returned (agg .u8 (stp leaf chain i v)) ∧ Below w.heap.size w w' := by
  go_enter Try.func24, Try.ntmps24
  have ec : ((chain : Int) % 256) = ((chain % 256 : Nat) : Int) := by omega
  have ei : ((i : Int) % 256) = ((i % 256 : Nat) : Int) := by omega
  have EC := Lib.hid ec
  have EI := Lib.hid ei
  clear ec ei
  go_wp2_with fail
  obtain ⟨W0, hW0⟩ : ∃ W0, W0 = ((w.alloc (.cells (cl .u8 v).toArray 36)).alloc (.cells (cl .u8 (zs 16)).toArray 36)) := ⟨_, rfl⟩
  have hB0 : blk W0 w.heap.size (cl .u8 v) 36 := by rw [hW0]; exact blk_alloc (blk_new _ _ _) _
  have hB1 : blk W0 (w.heap.size + 1) (cl .u8 (zs 16)) 36 := by rw [hW0]; exact blk_at _ _ _ (by simp only [alloc_size])
  have hbel : Below w.heap.size w W0 := by rw [hW0]; exact ((Below.refl w.heap.size w).alloc (Nat.le_refl _) _).alloc (by simp only [alloc_size]; omega) _
  have hsz : W0.heap.size = w.heap.size + 2 := by rw [hW0]; simp only [alloc_size]
  rw [← hW0]
  have HS := Lib.hid hsz
  have H0 := Lib.hid hB0
  have H1 := Lib.hid hB1
  have HB := Lib.hid hbel
  clear hW0 hB0 hB1 hbel hsz
  have hsl := stp_length leaf chain i v
  go_region_law (first
    | (refine step_call rfl 65 _ _ rfl #[.int .u8 ((3 : Nat) : Int), .int .i64 (leaf : Int)] rfl (fun _ => by kernel_rfl) (head _ 3 leaf hleaf (by omega)) ?_
       rintro e w1 ⟨v1, rfl, ho1, hb1⟩
       refine ⟨_, rfl, ?_⟩
       have ho1' : Own w1 W0.heap.size v1 (hd 3 leaf) := by first | exact own_mono ho1 (Nat.le_refl _) | exact own_mono ho1 (by show _ ≤ (W0.alloc _).heap.size; rw [alloc_size]; exact Nat.le_succ _)
       have hk1 : Below W0.heap.size W0 w1 := by first | exact bel_trans (Below.refl W0.heap.size W0).drew hb1 (Nat.le_refl _) | exact bel_trans ((Below.refl W0.heap.size W0).alloc (Nat.le_refl _) _).drew hb1 (by show _ ≤ (W0.alloc _).heap.size; rw [alloc_size]; exact Nat.le_succ _)
       have HO1 := Lib.hid ho1'
       have HK1 := Lib.hid hk1
       have HB1 := Lib.hid hb1
       clear ho1 ho1' hk1 hb1)
    | ((refine step_append_bytes rfl (.tmp 10) (.tmp 15) rfl (base := W0.heap.size) (l := hd 3 leaf) (m := [chain % 256, i % 256]) rfl rfl ?_ ?_ ?_ ?_ ?_)
       · (first | exact own_keep HO1.out ((Below.refl _ _).alloc (Nat.le_refl _) _) | exact HO1.out)
       · first | ((refine sl_lit' _ _ [chain % 256, i % 256] 2 ?_ rfl (by simp) rfl); rw [wrap_u8, wrap_u8]; rfl) | ((refine ((sl_lit' W0 _ [chain % 256, i % 256] 2 ?_ rfl (by simp) rfl).keep (Below.refl _ _).drew).keep HB1.out); rw [wrap_u8, wrap_u8]; rfl)
       · simp [hd]
       · first | exact HK1.out.size | (rw [alloc_size]; exact Nat.le_succ_of_le HK1.out.size)
       intro v2 w2 ho2 hg2
       have hk2 : Below W0.heap.size W0 w2 := by first | exact HK1.out.grown hg2 HK1.out.size (fun k hk => own_block HO1.out k hk) | exact (HK1.out.alloc HK1.out.size _).grown hg2 (by rw [alloc_size]; exact Nat.le_succ_of_le HK1.out.size) (fun k hk => own_block HO1.out k hk)
       have HO2 := Lib.hid ho2
       have HK2 := Lib.hid hk2
       clear ho2 hg2 hk2)
    | ((refine step_append_bytes rfl (.tmp 16) (.tmp 17) rfl (base := W0.heap.size) (l := hd 3 leaf ++ [chain % 256, i % 256]) (m := v) rfl rfl ?_ ?_ ?_ ?_ ?_)
       · (exact HO2.out)
       · (refine sl_whole (m := 16) (c := 16) (blk_below H0.out HK2.out ?_) ?_ ?_ <;> (have := HS.out; omega))
       · (simp [hd]; omega)
       · exact HK2.out.size
       intro v3 w3 ho3 hg3
       have hk3 : Below W0.heap.size W0 w3 := HK2.out.grown hg3 HK2.out.size (fun k hk => own_block HO2.out k hk)
       have HO3 := Lib.hid ho3
       have HK3 := Lib.hid hk3
       clear ho3 hg3 hk3)
    | (refine step_call rfl 64 _ _ rfl #[v3] rfl (fun _ => by kernel_rfl) (half w3 (hd 3 leaf ++ [chain % 256, i % 256] ++ v) v3 (SlC.of_own HO3.out) (by simp [hd]; omega)) ?_
       rintro e w4 ⟨rfl, hb4⟩
       refine ⟨agg .u8 (stp leaf chain i v), rfl, ?_⟩
       have hk4 := bel_trans HK3.out hb4 HK3.out.size
       have hB4 := blk_below H1.out hk4 (by have := HS.out; omega)
       have k4 := bk_of hB4
       have HK4 := Lib.hid hk4
       have HB4 := Lib.hid hB4
       clear hb4 hk4 hB4)
    | fail)
  all_goals
    go_wp2_with fail
    refine ret_rv rfl rfl (blk_setRow HB4.out (cl .u8 (stp leaf chain i v))) hsl rfl ⟨rfl, bel_setRow (bel_trans HB.out HK4.out HB.out.size) (by omega) _⟩
set_option maxRecDepth 20000 in
set_option maxHeartbeats 4000000 in
theorem secret (w : World) (v : List Nat) (leaf chain : Nat) (hs : v.length = 32) (hleaf : leaf ≤ 65535) (hc : chain ≤ 65535) :
    Calls Try.prog 21 #[agg .u8 v, .int .i64 (leaf : Int), .int .i64 (chain : Int)] w fun e w' => e = .returned (agg .u8 (sec v leaf chain)) ∧ Below w.heap.size w w' := by
  go_enter Try.func21, Try.ntmps21
  have ec : ((chain : Int) % 256) = ((chain % 256 : Nat) : Int) := by omega
  have EC := Lib.hid ec
  clear ec
  go_wp2_with fail
  obtain ⟨W0, hW0⟩ : ∃ W0, W0 = ((w.alloc (.cells (cl .u8 v).toArray 31)).alloc (.cells (cl .u8 (zs 16)).toArray 36)) := ⟨_, rfl⟩
  have hB0 : blk W0 w.heap.size (cl .u8 v) 31 := by rw [hW0]; exact blk_alloc (blk_new _ _ _) _
  have hB1 : blk W0 (w.heap.size + 1) (cl .u8 (zs 16)) 36 := by rw [hW0]; exact blk_at _ _ _ (by simp only [alloc_size])
  have hbel : Below w.heap.size w W0 := by rw [hW0]; exact ((Below.refl w.heap.size w).alloc (Nat.le_refl _) _).alloc (by simp only [alloc_size]; omega) _
  have hsz : W0.heap.size = w.heap.size + 2 := by rw [hW0]; simp only [alloc_size]
  rw [← hW0]
  have HS := Lib.hid hsz
  have H0 := Lib.hid hB0
  have H1 := Lib.hid hB1
  have HB := Lib.hid hbel
  clear hW0 hB0 hB1 hbel hsz
  have hsl := sec_length v leaf chain
  go_region_law (first
    | (refine step_call rfl 65 _ _ rfl #[.int .u8 ((2 : Nat) : Int), .int .i64 (leaf : Int)] rfl (fun _ => by kernel_rfl) (head _ 2 leaf hleaf (by omega)) ?_
       rintro e w1 ⟨v1, rfl, ho1, hb1⟩
       refine ⟨_, rfl, ?_⟩
       have ho1' : Own w1 W0.heap.size v1 (hd 2 leaf) := by first | exact own_mono ho1 (Nat.le_refl _) | exact own_mono ho1 (by show _ ≤ (W0.alloc _).heap.size; rw [alloc_size]; exact Nat.le_succ _)
       have hk1 : Below W0.heap.size W0 w1 := by first | exact bel_trans (Below.refl W0.heap.size W0).drew hb1 (Nat.le_refl _) | exact bel_trans ((Below.refl W0.heap.size W0).alloc (Nat.le_refl _) _).drew hb1 (by show _ ≤ (W0.alloc _).heap.size; rw [alloc_size]; exact Nat.le_succ _)
       have HO1 := Lib.hid ho1'
       have HK1 := Lib.hid hk1
       have HB1 := Lib.hid hb1
       clear ho1 ho1' hk1 hb1)
    | ((refine step_append_bytes rfl (.tmp 8) (.tmp 11) rfl (base := W0.heap.size) (l := hd 2 leaf) (m := [chain % 256]) rfl rfl ?_ ?_ ?_ ?_ ?_)
       · (first | exact own_keep HO1.out ((Below.refl _ _).alloc (Nat.le_refl _) _) | exact HO1.out)
       · first | ((refine sl_lit' _ _ [chain % 256] 1 ?_ rfl (by simp) rfl); rw [wrap_u8]; rfl) | ((refine ((sl_lit' W0 _ [chain % 256] 1 ?_ rfl (by simp) rfl).keep (Below.refl _ _).drew).keep HB1.out); rw [wrap_u8]; rfl)
       · simp [hd]
       · first | exact HK1.out.size | (rw [alloc_size]; exact Nat.le_succ_of_le HK1.out.size)
       intro v2 w2 ho2 hg2
       have hk2 : Below W0.heap.size W0 w2 := by first | exact HK1.out.grown hg2 HK1.out.size (fun k hk => own_block HO1.out k hk) | exact (HK1.out.alloc HK1.out.size _).grown hg2 (by rw [alloc_size]; exact Nat.le_succ_of_le HK1.out.size) (fun k hk => own_block HO1.out k hk)
       have HO2 := Lib.hid ho2
       have HK2 := Lib.hid hk2
       clear ho2 hg2 hk2)
    | ((refine step_append_bytes rfl (.tmp 12) (.tmp 13) rfl (base := W0.heap.size) (l := hd 2 leaf ++ [chain % 256]) (m := v) rfl rfl ?_ ?_ ?_ ?_ ?_)
       · (exact HO2.out)
       · (refine sl_whole (m := 32) (c := 32) (blk_below H0.out HK2.out ?_) ?_ ?_ <;> (have := HS.out; omega))
       · (simp [hd]; omega)
       · exact HK2.out.size
       intro v3 w3 ho3 hg3
       have hk3 : Below W0.heap.size W0 w3 := HK2.out.grown hg3 HK2.out.size (fun k hk => own_block HO2.out k hk)
       have HO3 := Lib.hid ho3
       have HK3 := Lib.hid hk3
       clear ho3 hg3 hk3)
    | (refine step_call rfl 64 _ _ rfl #[v3] rfl (fun _ => by kernel_rfl) (half w3 (hd 2 leaf ++ [chain % 256] ++ v) v3 (SlC.of_own HO3.out) (by simp [hd]; omega)) ?_
       rintro e w4 ⟨rfl, hb4⟩
       refine ⟨agg .u8 (sec v leaf chain), rfl, ?_⟩
       have hk4 := bel_trans HK3.out hb4 HK3.out.size
       have hB4 := blk_below H1.out hk4 (by have := HS.out; omega)
       have k4 := bk_of hB4
       have HK4 := Lib.hid hk4
       have HB4 := Lib.hid hB4
       clear hb4 hk4 hB4)
    | fail)
  all_goals
    go_wp2_with fail
    refine ret_rv rfl rfl (blk_setRow HB4.out (cl .u8 (sec v leaf chain))) hsl rfl ⟨rfl, bel_setRow (bel_trans HB.out HK4.out HB.out.size) (by omega) _⟩
/-- n steps from a value on. -/
theorem advance (w : World) (leaf chain from_ n : Nat) (v : List Nat) (hs : v.length = 16) (hleaf : leaf ≤ 65535) (hc : chain ≤ 65535) (hi : from_ + n ≤ 65535) (to_ : Int) (hto : to_ = ((from_ + n : Nat) : Int)) :
    Calls Try.prog 25 #[.int .i64 (leaf : Int), .int .i64 (chain : Int), .int .i64 (from_ : Int), .int .i64 to_, agg .u8 v] w fun e w' => e = .returned (agg .u8 (adv leaf chain from_ n v)) ∧ Below w.heap.size w w' := by
  obtain ⟨T, hT⟩ : ∃ T : Nat, T = from_ + n := ⟨_, rfl⟩
  rw [← hT] at hto
  subst hto
  have HT := Lib.hid hT
  clear hT
  go_enter Try.func25, Try.ntmps25
  go_wp2_with fail
  go_loopw [11] (fun i wr => ∃ k q : Nat, k ≤ n ∧ q = from_ + k ∧ i = .int .i64 (q : Int) ∧ blk wr w.heap.size (cl .u8 (adv leaf chain from_ k v)) 36 ∧ blk wr (w.heap.size + 1) (cl .u8 (zs 16)) 36 ∧ Below w.heap.size w wr) (fun i _ => T - (intOf i).toNat)
  case atStart => exact ⟨0, from_, by omega, rfl, rfl, blk_alloc (blk_new _ _ _) _, blk_at _ _ _ (by simp only [alloc_size]), ((Below.refl _ _).alloc (Nat.le_refl _) _).alloc (by simp only [alloc_size]; omega) _⟩
  case round =>
    obtain ⟨k, q, hk, hq, rfl, hB0, hB1, hb⟩ := hrel
    have hT := HT.out
    have hq2 : q ≤ 65535 := by omega
    have hal := adv_length leaf chain from_ k v hs
    have hlt := blk_lt hB0
    have hk0 := bk_of hB0
    have G0 := Lib.hid hB0
    have G1 := Lib.hid hB1
    by_cases hkn : k < n
    · have i1 : (q : Int) < (T : Int) := by omega
      have i2 : q < T := by omega
      have HQ := Lib.hid hq
      clear hq hT hB0 hB1
      go_wp2_with fail
      refine (step wr leaf chain q _ hal hleaf hc (by have := HQ.out; omega)).mono ?_
      rintro e w1 ⟨rfl, hb1⟩
      have hB2 := blk_keep G0.out hb1
      have hB3 := blk_keep G1.out hb1
      have hb2 := bel_trans hb hb1 hb.size
      have hk2 := bk_of hB2
      have hsl := stp_length leaf chain q (adv leaf chain from_ k v)
      have K0 := Lib.hid hB2
      have K1 := Lib.hid hB3
      clear hb1 hB2 hB3 hk0
      go_wp2_with fail
      refine ⟨⟨k + 1, q + 1, by omega, by have := HQ.out; omega, by go_num, ?_, blk_setRow_ne K1.out _ (by omega), bel_setRow hb2 (Nat.le_refl _) _⟩, by simp [intOf]; omega⟩
      have e : adv leaf chain from_ (k + 1) v = stp leaf chain q (adv leaf chain from_ k v) := by rw [HQ.out, adv]
      rw [e]
      exact blk_setRow K0.out (cl .u8 (stp leaf chain q (adv leaf chain from_ k v)))
    · obtain rfl : k = n := by omega
      have i1 : ¬ (q : Int) < (T : Int) := by omega
      have hk1 := bk_of hB1
      clear hq hT hB0 hB1
      go_wp2_with fail
      refine ret_rv rfl rfl (blk_setRow G1.out (cl .u8 (adv leaf chain from_ k v))) hal rfl ⟨rfl, bel_setRow hb (by omega) _⟩
end Go.Proofs.Ytlgpipdeckdmjaa.Ref
