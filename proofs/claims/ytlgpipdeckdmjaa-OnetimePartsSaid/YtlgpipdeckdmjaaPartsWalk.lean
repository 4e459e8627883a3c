/-
  The walk of OnetimeParts.
-/
import Derived.Test.YtlgpipdeckdmjaaKnown
set_option linter.unusedVariables false
set_option linter.unusedSimpArgs false
namespace Go.Proofs.Ytlgpipdeckdmjaa.PartsWalk
open Go.RowKit Base Reg Types Slice Sha
open Go.Proofs.Ytlgpipdeckdmjaa.One
open Go.Proofs.Ytlgpipdeckdmjaa.Known
/-- Advancing in two parts. -/
theorem adv_parts (leaf chain a m n : Nat) (v : List Nat) : adv leaf chain (a + m) n (adv leaf chain a m v) = adv leaf chain a (m + n) v := by
  induction n with
  | zero => rfl
  | succ n ih => rw [← Nat.add_assoc, adv, adv, ih, Nat.add_assoc]
theorem Advance_int (w : World) (leaf chain i to_ : Int) (v : List Nat) (hs : v.length = 16) (h1 : 0 ≤ leaf) (h2 : leaf ≤ 65535) (h3 : 0 ≤ chain) (h4 : chain ≤ 34) (h5 : 0 ≤ i) (h6 : i ≤ to_) (h7 : to_ ≤ 15) :
    Calls Try.prog 23 #[.int .i64 leaf, .int .i64 chain, .int .i64 i, .int .i64 to_, agg .u8 v] w fun e w' => ∃ V, e = .returned (.tuple #[agg .u8 V, .int .i64 0]) ∧ V = adv leaf.toNat chain.toNat i.toNat (to_ - i).toNat v ∧ V.length = 16 ∧ Below w.heap.size w w' := by
  obtain ⟨l, rfl⟩ := Int.eq_ofNat_of_zero_le h1
  obtain ⟨c, rfl⟩ := Int.eq_ofNat_of_zero_le h3
  obtain ⟨a, rfl⟩ := Int.eq_ofNat_of_zero_le h5
  have h := Advance_in w l c a (to_ - a).toNat v hs (by omega) (by omega) (by omega) to_ (by omega)
  exact h.mono fun e w' ⟨he, hb⟩ => ⟨_, he, rfl, adv_length _ _ _ _ v hs, hb⟩
theorem adv_int (leaf chain : Nat) (x y z : Int) (v : List Nat) (h0 : 0 ≤ x) (h1 : x ≤ y) (h2 : y ≤ z) : adv leaf chain y.toNat (z - y).toNat (adv leaf chain x.toNat (y - x).toNat v) = adv leaf chain x.toNat (z - x).toNat v := by
  have e1 : y.toNat = x.toNat + (y - x).toNat := by omega
  have e2 : (z - x).toNat = (y - x).toNat + (z - y).toNat := by omega
  rw [e2, ← adv_parts, ← e1]
set_option maxRecDepth 20000 in
set_option maxHeartbeats 4000000 in
theorem walk4 (w : World) (p0 p1 s0 s1 s2 : Nat) (v : List Nat) (h0 : p0 < 65536) (h1 : p1 < 65536) (t0 : s0 < 256) (t1 : s1 < 256) (t2 : s2 < 256) (hv : v.length = 16) :
    Calls Try.prog 7 #[agg .u16 [p0, p1], agg .u8 [s0, s1, s2], agg .u8 v] w fun e w' => e = .returned (.bool true) ∧ Below w.heap.size w w' := by
  go_enter Try.func7, Try.ntmps7
  go_wp2_with fail
  obtain ⟨W0, hW0⟩ : ∃ W0, W0 = (((w.alloc (.cells (cl .u16 [p0, p1]).toArray 46)).alloc (.cells (cl .u8 [s0, s1, s2]).toArray 47)).alloc (.cells (cl .u8 v).toArray 22)) := ⟨_, rfl⟩
  have b0 : blk W0 w.heap.size (cl .u16 [p0, p1]) 46 := by rw [hW0]; exact blk_alloc (blk_alloc (blk_new _ _ _) _) _
  have b1 : blk W0 (w.heap.size + 1) (cl .u8 [s0, s1, s2]) 47 := by rw [hW0]; exact blk_alloc (blk_at _ _ _ (by simp only [alloc_size])) _
  have b2 : blk W0 (w.heap.size + 1 + 1) (cl .u8 v) 22 := by rw [hW0]; exact blk_at _ _ _ (by simp only [alloc_size])
  have bl : Below w.heap.size w W0 := by rw [hW0]; exact (((Below.refl w.heap.size w).alloc (Nat.le_refl _) _).alloc (by simp only [alloc_size]; omega) _).alloc (by simp only [alloc_size]; omega) _
  rw [← hW0]
  clear hW0
  have c0 : ∀ n, (W0.drewN n).cell? ⟨w.heap.size, 0, none⟩ = some (.int .u16 (p0 : Int)) := fun n => (blk_cell (blk_drewN b0) 0).trans rfl
  have c1 : ∀ n, (W0.drewN n).cell? ⟨w.heap.size, 1, none⟩ = some (.int .u16 (p1 : Int)) := fun n => (blk_cell (blk_drewN b0) 1).trans rfl
  have d0 : ∀ n, (W0.drewN n).cell? ⟨w.heap.size + 1, 0, none⟩ = some (.int .u8 (s0 : Int)) := fun n => (blk_cell (blk_drewN b1) 0).trans rfl
  have d1 : ∀ n, (W0.drewN n).cell? ⟨w.heap.size + 1, 1, none⟩ = some (.int .u8 (s1 : Int)) := fun n => (blk_cell (blk_drewN b1) 1).trans rfl
  have d2 : ∀ n, (W0.drewN n).cell? ⟨w.heap.size + 1, 2, none⟩ = some (.int .u8 (s2 : Int)) := fun n => (blk_cell (blk_drewN b1) 2).trans rfl
  have B2 := Lib.hid b2
  have BL := Lib.hid bl
  clear b0 b1 b2 bl
  refine wp_region_all (fun n => W0.drewN n) (by kernel_rfl) (by kernel_rfl) ⟨1, rfl⟩ ?_
  repeat (go_big_quiet_step (fail))
  refine wpQuiet_nil ?_
  intro n
  go_wp2_with fail
  refine wp_region_all (fun n => W0.drewN n) (by kernel_rfl) (by kernel_rfl) ⟨n + 1, rfl⟩ ?_
  repeat (go_big_quiet_step (fail))
  refine wpQuiet_nil ?_
  intro m
  have q2 : bk W0 (w.heap.size + 1 + 1) = some (cl .u8 v).toArray := bk_of B2.out
  have ho : ((s0 : Int) % 16 ≤ (s1 : Int) % 16 ∧ (s1 : Int) % 16 ≤ (s2 : Int) % 16 ∧ (s0 : Int) % 16 ≤ (s2 : Int) % 16) ∨ ((s0 : Int) % 16 ≤ (s1 : Int) % 16 ∧ (s2 : Int) % 16 < (s1 : Int) % 16 ∧ (s0 : Int) % 16 ≤ (s2 : Int) % 16) ∨ ((s1 : Int) % 16 < (s0 : Int) % 16 ∧ (s1 : Int) % 16 ≤ (s2 : Int) % 16 ∧ (s0 : Int) % 16 ≤ (s2 : Int) % 16) ∨
    ((s1 : Int) % 16 < (s0 : Int) % 16 ∧ (s1 : Int) % 16 ≤ (s2 : Int) % 16 ∧ (s2 : Int) % 16 < (s0 : Int) % 16) ∨ ((s0 : Int) % 16 ≤ (s1 : Int) % 16 ∧ (s2 : Int) % 16 < (s1 : Int) % 16 ∧ (s2 : Int) % 16 < (s0 : Int) % 16) ∨ ((s1 : Int) % 16 < (s0 : Int) % 16 ∧ (s2 : Int) % 16 < (s1 : Int) % 16 ∧ (s2 : Int) % 16 < (s0 : Int) % 16) := by omega
  rcases ho with ⟨o1, o2, o3⟩ | ⟨o1, o2, o3⟩ | ⟨o1, o2, o3⟩ | ⟨o1, o2, o3⟩ | ⟨o1, o2, o3⟩ | ⟨o1, o2, o3⟩
  all_goals go_wp2_with fail
  all_goals
    refine (Advance_int _ _ _ _ _ v hv ?_ ?_ ?_ ?_ ?_ ?_ ?_).mono ?_
    · omega
    · omega
    · omega
    · omega
    · omega
    · omega
    · omega
  all_goals
    rintro e w1 ⟨V1, rfl, e1, l1, hb1⟩
    have E1 := Lib.hid e1
    have C2 := Lib.hid (blk_alloc (blk_below (blk_drewN (n := m) B2.out) hb1 (by have := blk_lt B2.out; exact this)) (.cells (cl .u8 V1).toArray 22))
    have CV := Lib.hid (blk_new w1 (cl .u8 V1) 22)
    have CL := Lib.hid ((bel_trans (bel_drewN BL.out m) hb1 BL.out.size).alloc (by have := bel_trans (bel_drewN BL.out m) hb1 BL.out.size; exact this.size) (.cells (cl .u8 V1).toArray 22))
    have r2 := bk_of (blk_below (blk_drewN (n := m) B2.out) hb1 (by have := blk_lt B2.out; exact this))
    clear hb1 q2 e1
    go_wp2_with fail
    refine (Advance_int _ _ _ _ _ V1 l1 ?_ ?_ ?_ ?_ ?_ ?_ ?_).mono ?_
    · omega
    · omega
    · omega
    · omega
    · omega
    · omega
    · omega
  all_goals
    rintro e w2 ⟨V2, rfl, e2, l2, hb2⟩
    rw [E1.out, adv_int _ _ _ _ _ _ (by omega) (by omega) (by omega)] at e2
    have E2 := Lib.hid e2
    have D2 := Lib.hid (blk_keep C2.out hb2)
    have DL := Lib.hid (bel_trans CL.out hb2 CL.out.size)
    have r3 := bk_of (blk_keep C2.out hb2)
    have s3 := blk_lt (blk_keep C2.out hb2)
    clear hb2 r2 e2
    go_wp2_with fail
    refine (Advance_int _ _ _ _ _ v hv ?_ ?_ ?_ ?_ ?_ ?_ ?_).mono ?_
    · omega
    · omega
    · omega
    · omega
    · omega
    · omega
    · omega
  all_goals
    rintro e w3 ⟨V3, rfl, e3, l3, hb3⟩
    rw [← E2.out] at e3
    subst e3
    have F2 := Lib.hid (blk_keep (blk_new w2 (cl .u8 V3) 22) hb3)
    have FL := Lib.hid (bel_trans (DL.out.alloc DL.out.size (.cells (cl .u8 V3).toArray 22)) hb3 (by have := DL.out.size; simp only [alloc_size]; omega))
    have s4 := blk_lt (blk_keep (blk_new w2 (cl .u8 V3) 22) hb3)
    clear hb3 r3
    go_wp2_with fail
    refine (known _).mono ?_
    rintro e w4 ⟨rfl, hb4⟩
    have G2 := bk_of (blk_keep (blk_alloc F2.out (.cells (cl .u8 V3).toArray 22)) hb4)
    have G3 := bk_of (blk_keep (blk_new w3 (cl .u8 V3) 22) hb4)
    have GL := bel_trans (FL.out.alloc FL.out.size (.cells (cl .u8 V3).toArray 22)) hb4 (by have := FL.out.size; simp only [alloc_size]; omega)
    clear hb4
    go_wp2_with fail
    go_ret
    exact ⟨rfl, GL⟩
theorem walk (w : World) (l0 l1 l2 : List Nat) (hl0 : l0.length = 2) (hb0 : ∀ j, l0.getD j 0 < 65536) (hl1 : l1.length = 3) (hb1 : ∀ j, l1.getD j 0 < 256) (hl2 : l2.length = 16) (hb2 : ∀ j, l2.getD j 0 < 256) :
    Calls Try.prog 7 #[agg .u16 l0, agg .u8 l1, agg .u8 l2] w fun e w' => e = .returned (.bool true) ∧ Below w.heap.size w w' := by
  match l0, hl0, l1, hl1 with
  | [p0, p1], _, [s0, s1, s2], _ => exact walk4 w p0 p1 s0 s1 s2 l2 (hb0 0) (hb0 1) (hb1 0) (hb1 1) (hb1 2) hl2
end Go.Proofs.Ytlgpipdeckdmjaa.PartsWalk
