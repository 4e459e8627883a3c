/-
  Several texts laid into one (merge.py): Onc1, Onc2, Open5, Tab4.
-/
import Derived.Test.YtlgpipdeckdmjaaGreatVf19
import Derived.Test.YtlgpipdeckdmjaaGreatSf01
import Derived.Test.YtlgpipdeckdmjaaGreatKf01
import Derived.Test.YtlgpipdeckdmjaaGreatVf14
import Derived.Test.YtlgpipdeckdmjaaGreatVf24
/-
  The methods of a signer: Next, Left, Skip, Last; New out of range.
-/
set_option linter.unusedVariables false
set_option linter.unusedSimpArgs false
namespace Go.Proofs.YtlgpipdeckdmjaaGreat.Rm
open Go.RowKit Base Reg Types Slice Sha
open Go.Proofs.YtlgpipdeckdmjaaGreat.One
open Go.Proofs.YtlgpipdeckdmjaaGreat.Str
open Go.Proofs.YtlgpipdeckdmjaaGreat.Mer
open Go.Proofs.YtlgpipdeckdmjaaGreat.Sgn
open Go.Proofs.YtlgpipdeckdmjaaGreat.Signed
section
variable {seed root d : List Nat} {h : Nat} {ph next : Int}
theorem next_at (w : World) (g : Nat) (hs : seed.length = 32) (hr : root.length = 16) (hB : blk w g (sgrV seed (h : Int) ph root next) 108) :
    Calls Tryz.prog 29 #[.pointer (some ⟨g, 0, none⟩)] w fun e w' => e = .returned (.int .i64 next) ∧ Below w.heap.size w w' := by
  have q1 := sgr_next hs hr hB
  clear hB
  go_enter Tryz.func29, Tryz.ntmps29
  go_wp2_with fail
  go_ret
  exact ⟨rfl, Below.refl _ _⟩
theorem left_zero (w : World) (g : Nat) (hs : seed.length = 32) (hr : root.length = 16) (hh : h ≤ 8) (hn0 : 0 ≤ next) (hn1 : next ≤ 2 ^ h) (hn2 : (2 : Int) ^ h - 1 ≤ next) (hB : blk w g (sgrV seed (h : Int) ph root next) 108) :
    Calls Tryz.prog 30 #[.pointer (some ⟨g, 0, none⟩)] w fun e w' => e = .returned (.int .i64 0) ∧ Below w.heap.size w w' := by
  have p8' := pow8 hh
  have HB := Lib.hid hB
  have q1 : ∀ n, (w.drewN n).cell? ⟨g, 50, none⟩ = some (.int .i64 next) := fun n => sgr_next hs hr (blk_drewN hB)
  clear hB
  go_enter Tryz.func30, Tryz.ntmps30
  go_wp2_with fail
  refine wp_region_tail (fun n => w.drewN n) 8 (by kernel_rfl) (by kernel_rfl) ⟨1, rfl⟩ ?_
  simp only [List.take_succ_cons, List.take_zero, List.drop_succ_cons, List.drop_zero]
  repeat (go_big_quiet_step ((go_at_call 57; exact quiet_left (last (w.drewN _) g _ seed root ph next hs hh (blk_drewN HB.out)))))
  refine wpQuiet_nil ?_
  intro n
  go_wp2_with fail
  all_goals
    first
    | (exfalso; omega)
    | (go_ret
       exact ⟨rfl, bel_drewN (Below.refl _ _) n⟩)
    | (go_ret
       exact ⟨by show Ending.returned (.int .i64 (max 0 _)) = _; first | rw [Int.max_eq_left (by omega)] | rw [Int.max_eq_right (by omega)], bel_drewN (Below.refl _ _) n⟩)
theorem left_pos (w : World) (g : Nat) (hs : seed.length = 32) (hr : root.length = 16) (hh : h ≤ 8) (hn0 : 0 ≤ next) (hn1 : next ≤ 2 ^ h) (hn2 : next < (2 : Int) ^ h - 1) (hB : blk w g (sgrV seed (h : Int) ph root next) 108) :
    Calls Tryz.prog 30 #[.pointer (some ⟨g, 0, none⟩)] w fun e w' => e = .returned (.int .i64 ((2 : Int) ^ h - 1 - next)) ∧ Below w.heap.size w w' := by
  have p8' := pow8 hh
  have HB := Lib.hid hB
  have q1 : ∀ n, (w.drewN n).cell? ⟨g, 50, none⟩ = some (.int .i64 next) := fun n => sgr_next hs hr (blk_drewN hB)
  clear hB
  go_enter Tryz.func30, Tryz.ntmps30
  go_wp2_with fail
  refine wp_region_tail (fun n => w.drewN n) 8 (by kernel_rfl) (by kernel_rfl) ⟨1, rfl⟩ ?_
  simp only [List.take_succ_cons, List.take_zero, List.drop_succ_cons, List.drop_zero]
  repeat (go_big_quiet_step ((go_at_call 57; exact quiet_left (last (w.drewN _) g _ seed root ph next hs hh (blk_drewN HB.out)))))
  refine wpQuiet_nil ?_
  intro n
  go_wp2_with fail
  all_goals
    first
    | (exfalso; omega)
    | (go_ret
       exact ⟨rfl, bel_drewN (Below.refl _ _) n⟩)
    | (go_ret
       exact ⟨by show Ending.returned (.int .i64 (max 0 _)) = _; first | rw [Int.max_eq_left (by omega)] | rw [Int.max_eq_right (by omega)], bel_drewN (Below.refl _ _) n⟩)
theorem skip_range (w : World) (g : Nat) (n : Int) (hs : seed.length = 32) (hr : root.length = 16) (hh : h ≤ 8) (hn : (2 : Int) ^ h < n) (hB : blk w g (sgrV seed (h : Int) ph root next) 108) :
    Calls Tryz.prog 33 #[.pointer (some ⟨g, 0, none⟩), .int .i64 n] w fun e w' => e = .returned (.int .i64 2) ∧ w = w' := by
  have p8' := pow8 hh
  have p9 : (0 : Int) < 2 ^ h := Int.pow_pos (by decide)
  have HB := Lib.hid hB
  have q1 := sgr_next hs hr hB
  have f1 := blk_free hB 50
  clear hB
  go_enter Tryz.func33, Tryz.ntmps33
  go_wp2_with fail
  refine (last w g _ seed root ph next hs hh HB.out).mono ?_
  rintro e w1 ⟨rfl, rfl⟩
  go_wp2_with fail
  go_ret
  exact ⟨rfl, rfl⟩
theorem skip_seq (w : World) (g : Nat) (n : Int) (hs : seed.length = 32) (hr : root.length = 16) (hh : h ≤ 8) (hn : n ≤ (2 : Int) ^ h) (hn2 : n < next) (hB : blk w g (sgrV seed (h : Int) ph root next) 108) :
    Calls Tryz.prog 33 #[.pointer (some ⟨g, 0, none⟩), .int .i64 n] w fun e w' => e = .returned (.int .i64 30) ∧ w = w' := by
  have p8' := pow8 hh
  have p9 : (0 : Int) < 2 ^ h := Int.pow_pos (by decide)
  have HB := Lib.hid hB
  have q1 := sgr_next hs hr hB
  have f1 := blk_free hB 50
  clear hB
  go_enter Tryz.func33, Tryz.ntmps33
  go_wp2_with fail
  refine (last w g _ seed root ph next hs hh HB.out).mono ?_
  rintro e w1 ⟨rfl, rfl⟩
  go_wp2_with fail
  go_ret
  exact ⟨rfl, rfl⟩
theorem skip_ok (w : World) (g : Nat) (n : Int) (hs : seed.length = 32) (hr : root.length = 16) (hh : h ≤ 8) (hn : n ≤ (2 : Int) ^ h) (hn2 : next ≤ n) (hB : blk w g (sgrV seed (h : Int) ph root next) 108) :
    Calls Tryz.prog 33 #[.pointer (some ⟨g, 0, none⟩), .int .i64 n] w fun e w' => e = .returned (.int .i64 0) ∧ blk w' g (sgrV seed (h : Int) ph root n) 108 ∧ w.grownBy w' (some g) := by
  have p8' := pow8 hh
  have p9 : (0 : Int) < 2 ^ h := Int.pow_pos (by decide)
  have HB := Lib.hid hB
  have q1 := sgr_next hs hr hB
  have f1 := blk_free hB 50
  have B2 := Lib.hid (by have hb := blk_setCell hB 50 (.int .i64 n); rw [sgr_set hs hr] at hb; exact hb)
  clear hB
  go_enter Tryz.func33, Tryz.ntmps33
  go_wp2_with fail
  refine (last w g _ seed root ph next hs hh HB.out).mono ?_
  rintro e w1 ⟨rfl, rfl⟩
  go_wp2_with fail
  go_ret
  exact ⟨rfl, B2.out, grown_setCell _ g 50 _⟩
end
theorem new_out (w : World) (seed : List Nat) (h : Nat) (next : Int) (hs : seed.length = 32) (hh : h = 1 ∨ h = 2 ∨ h = 3) (ho : ¬ (0 ≤ next ∧ next ≤ 2 ^ h)) :
    Calls Tryz.prog 27 #[.agg (secV seed (h : Int)).toArray, .int .i64 next] w fun e w' => e = .returned (.tuple #[.pointer none, .int .i64 2]) ∧ Below w.heap.size w w' := by
  have c1 := Lib.hid (fun W => secret_public W seed h hs hh)
  have lK := keyRoot_length seed h
  obtain ⟨KR, hK⟩ : ∃ KR, KR = keyRoot seed h := ⟨_, rfl⟩
  rw [← hK] at c1 lK
  have p8' := pow8 (h := h) (by omega)
  have p9 : (0 : Int) < 2 ^ h := Int.pow_pos (by decide)
  have h3 : h ≤ 3 := by omega
  have hcase : next < 0 ∨ (0 ≤ next ∧ 2 ^ h < next) := by omega
  have HB := Lib.hid (And.intro (blk_new w (secV seed (h : Int)) 27) ((Below.refl w.heap.size w).alloc (Nat.le_refl _) (.cells (secV seed (h : Int)).toArray 27)))
  clear ho hh hK
  rcases hcase with hn | ⟨hn0, hn⟩
  · have d1 : decide (next < 0) = true := decide_eq_true hn
    clear hn
    go_enter Tryz.func27, Tryz.ntmps27
    go_wp2_with fail
    refine (c1.out _).mono ?_
    rintro e w1 ⟨rfl, hb1⟩
    have S1 := Lib.hid (And.intro (blk_keep HB.out.1 hb1) (bel_trans HB.out.2 hb1 HB.out.2.size))
    clear hb1
    go_wp2_with fail
    go_ret2
    exact ⟨rfl, S1.out.2.alloc S1.out.2.size _⟩
  · have d1 : decide (next < 0) = false := decide_eq_false (by omega)
    have d2 : decide ((2 : Int) ^ h < next) = true := decide_eq_true hn
    clear hn
    go_enter Tryz.func27, Tryz.ntmps27
    go_wp2_with fail
    refine (c1.out _).mono ?_
    rintro e w1 ⟨rfl, hb1⟩
    have S1 := Lib.hid (And.intro (blk_keep HB.out.1 hb1) (bel_trans HB.out.2 hb1 HB.out.2.size))
    have q1 := sec_height hs (blk_alloc S1.out.1 (.cells (pubV (h : Int) KR).toArray 39))
    clear hb1
    go_wp2_with fail
    go_ret2
    exact ⟨rfl, S1.out.2.alloc S1.out.2.size _⟩
end Go.Proofs.YtlgpipdeckdmjaaGreat.Rm
/-
  The last leaf of a signer. Printed by gen_onc2.py.
-/
set_option linter.unusedVariables false
set_option linter.unusedSimpArgs false
namespace Go.Proofs.YtlgpipdeckdmjaaGreat.Rm
open Go.RowKit Base Reg Types Slice Sha
open Go.Proofs.YtlgpipdeckdmjaaGreat.One
open Go.Proofs.YtlgpipdeckdmjaaGreat.Str
open Go.Proofs.YtlgpipdeckdmjaaGreat.Mer
open Go.Proofs.YtlgpipdeckdmjaaGreat.Sgn
open Go.Proofs.YtlgpipdeckdmjaaGreat.Signed
set_option maxRecDepth 20000 in
set_option maxHeartbeats 4000000 in
theorem last_used (w : World) (g h : Nat) (seed root d : List Nat) (ph next : Int) (hs : seed.length = 32) (hr : root.length = 16) (hd : d.length = 16) (hh : h ≤ 8) (hn : (2 : Int) ^ h - 1 < next) (hB : blk w g (sgrV seed (h : Int) ph root next) 108) :
    Calls Tryz.prog 32 #[.pointer (some ⟨g, 0, none⟩), agg .u8 d] w fun e w' => e = .returned (.tuple #[.agg (sigV 0 (zs 560) (.slice none 0 0)).toArray, .int .i64 19]) ∧ Below w.heap.size w w' := by
  obtain ⟨Z, hZ⟩ : ∃ Z, Z = zs 560 := ⟨_, rfl⟩
  have lZ : Z.length = 560 := by rw [hZ, zs_length]
  have b0 := bl0_sg
  have a0 := al_sg
  rw [← hZ] at b0 a0 ⊢
  obtain ⟨W0, hW0⟩ : ∃ W0, W0 = (w.alloc (.cells (cl .u8 d).toArray 23)).alloc (.cells (sigV 0 Z (.slice none 0 0)).toArray 31) := ⟨_, rfl⟩
  have b1 : blk W0 (w.heap.size + 1) (sigV 0 Z (.slice none 0 0)) 31 := by rw [hW0]; exact blk_at _ _ _ (by simp only [alloc_size])
  have b2 : blk W0 g (sgrV seed (h : Int) ph root next) 108 := by rw [hW0]; exact blk_alloc (blk_alloc hB _) _
  have bl : Below w.heap.size w W0 := by rw [hW0]; exact ((Below.refl w.heap.size w).alloc (Nat.le_refl _) _).alloc (by simp only [alloc_size]; omega) _
  have S0 := Lib.hid (And.intro b1 (And.intro b2 bl))
  have HW := Lib.hid hW0
  have q1 : ∀ n, (W0.drewN n).cell? ⟨g, 50, none⟩ = some (.int .i64 next) := fun n => sgr_next hs hr b2
  have k1 := bk_of b1
  have hd1 : decide ((2 : Int) ^ h - 1 < next) = true := decide_eq_true hn
  clear b1 b2 bl hW0 hB hZ hn
  go_enter Tryz.func32, Tryz.ntmps32
  go_wp2_with fail
  rw [← HW.out]
  refine wp_region_all (fun n => W0.drewN n) (by kernel_rfl) (by kernel_rfl) ⟨1, rfl⟩ ?_
  repeat (go_big_quiet_step ((go_at_call 57; exact quiet_left (last (W0.drewN _) g h seed root ph next hs hh S0.out.2.1))))
  refine wpQuiet_nil ?_
  intro n
  go_wp2_with fail
  refine ret2_sg rfl rfl rfl (blk_setRow (blk_drewN (n := n) S0.out.1) (sigV 0 Z (.slice none 0 0))) (by rw [sigV_length, lZ]) rfl ⟨rfl, bel_setRow (bel_drewN S0.out.2.2 n) (by omega) _⟩
def AtJ (w : World) (g h : Nat) (seed root d : List Nat) (ph : Int) (W : World) : Prop :=
  blk W g (sgrV seed (h : Int) ph root (2 ^ h)) 108 ∧ blk W w.heap.size (cl .u8 d) 23 ∧ blk W (w.heap.size + 1) (sigV 0 (zs 560) (.slice none 0 0)) 31 ∧ w.grownBy W (some g)
theorem AtJ_keep {w : World} {g h : Nat} {seed root d : List Nat} {ph : Int} {W W' : World} (hA : AtJ w g h seed root d ph W) (hb : Below W.heap.size W W') : AtJ w g h seed root d ph W' := ⟨blk_keep hA.1 hb, blk_keep hA.2.1 hb, blk_keep hA.2.2.1 hb, Ref.grown_trans hA.2.2.2 (Ref.grown_bel hb (Nat.le_refl _))⟩
def JlP (w : World) (g h : Nat) (seed d S : List Nat) (PS : List (List Nat)) (i : Nat) (v : Value) (W : World) : Prop := match i with
  | 0 => v = .pointer (some ⟨g, 0, none⟩)
  | 1 => v = .pointer (some ⟨g, 0, none⟩)
  | 2 => v = .pointer (some ⟨g, 0, none⟩)
  | 3 => v = .agg (secV seed (h : Int)).toArray
  | 4 => v = .pointer (some ⟨g, 0, none⟩)
  | 5 => v = .int .i64 ((2 : Int) ^ h - 1)
  | 6 => v = agg .u8 d
  | 7 => ∃ p, v = .tuple #[.agg (sigV ((2 : Int) ^ h - 1) S p).toArray, .int .i64 0] ∧ OwnN 23 W w.heap.size p PS
  | 8 => ∃ p, v = .agg (sigV ((2 : Int) ^ h - 1) S p).toArray ∧ OwnN 23 W w.heap.size p PS
  | 9 => v = .int .i64 0
  | _ => True
theorem JlP_mono (w : World) (g h : Nat) (seed d S : List Nat) (PS : List (List Nat)) (i : Nat) (v : Value) (W W' : World) (hb : Below W.heap.size W W') (hQ : JlP w g h seed d S PS i v W) : JlP w g h seed d S PS i v W' := by
  unfold JlP at hQ ⊢
  split at hQ
  · exact hQ
  · exact hQ
  · exact hQ
  · exact hQ
  · exact hQ
  · exact hQ
  · exact hQ
  · obtain ⟨p, h1, h2⟩ := hQ
    exact ⟨p, h1, own_keep h2 hb⟩
  · obtain ⟨p, h1, h2⟩ := hQ
    exact ⟨p, h1, own_keep h2 hb⟩
  · exact hQ
  · exact hQ
set_option maxRecDepth 20000 in
set_option maxHeartbeats 4000000 in
theorem signer_last (w : World) (g h L : Nat) (seed root d : List Nat) (ph next : Int) (hs : seed.length = 32) (hr : root.length = 16) (hd : d.length = 16) (bd : By d) (hh : h = 1 ∨ h = 2 ∨ h = 3) (hL : L + 1 = 2 ^ h) (hn : next ≤ 2 ^ h - 1) (hB : blk w g (sgrV seed (h : Int) ph root next) 108) :
    Calls Tryz.prog 32 #[.pointer (some ⟨g, 0, none⟩), agg .u8 d] w fun e w' => ∃ p, e = .returned (.tuple #[.agg (sigV (L : Int) (sg seed d L) p).toArray, .int .i64 0]) ∧ OwnN 23 w' w.heap.size p (sigPath seed h L) ∧ blk w' g (sgrV seed (h : Int) ph root (2 ^ h)) 108 ∧ w.grownBy w' (some g) := by
  obtain ⟨S, hS⟩ : ∃ S, S = sg seed d L := ⟨_, rfl⟩
  have lS : S.length = 560 := by rw [hS]; exact sg_length _ _ _
  have eL : (L : Int) = 2 ^ h - 1 := by have : ((L + 1 : Nat) : Int) = ((2 ^ h : Nat) : Int) := by rw [hL]
                                        push_cast at this; omega
  have c1 := Lib.hid fun W => sign W seed d h L hs hd bd hh (by omega)
  obtain ⟨PS, hPS⟩ : ∃ PS, PS = sigPath seed h L := ⟨_, rfl⟩
  rw [← hS, ← hPS] at c1 ⊢
  rw [eL] at c1 ⊢
  have p8' := pow8 (h := h) (by omega)
  have p9 : (0 : Int) < 2 ^ h := Int.pow_pos (by decide)
  have h3 : h ≤ 8 := by omega
  have lg := blk_lt hB
  have d1 : decide ((2 : Int) ^ h - 1 < next) = false := decide_eq_false (by omega)
  obtain ⟨W0, hW0⟩ : ∃ W0, W0 = (w.alloc (.cells (cl .u8 d).toArray 23)).alloc (.cells (sigV 0 (zs 560) (.slice none 0 0)).toArray 31) := ⟨_, rfl⟩
  have b0 : blk W0 w.heap.size (cl .u8 d) 23 := by rw [hW0]; exact blk_alloc (blk_new _ _ _) _
  have b1 : blk W0 (w.heap.size + 1) (sigV 0 (zs 560) (.slice none 0 0)) 31 := by rw [hW0]; exact blk_at _ _ _ (by simp only [alloc_size])
  have b2 : blk W0 g (sgrV seed (h : Int) ph root next) 108 := by rw [hW0]; exact blk_alloc (blk_alloc hB _) _
  have bl : Below w.heap.size w W0 := by rw [hW0]; exact ((Below.refl w.heap.size w).alloc (Nat.le_refl _) _).alloc (by simp only [alloc_size]; omega) _
  have S0 := Lib.hid (And.intro b0 (And.intro b1 (And.intro b2 bl)))
  have HW := Lib.hid hW0
  have q1 : ∀ n, (W0.drewN n).cell? ⟨g, 50, none⟩ = some (.int .i64 next) := fun n => sgr_next hs hr b2
  have EL := Lib.hid eL
  clear hS hPS hn b0 b1 b2 bl hW0 hB eL hh
  go_enter Tryz.func32, Tryz.ntmps32
  go_wp2_with fail
  rw [← HW.out]
  refine wp_region_all (fun n => W0.drewN n) (by kernel_rfl) (by kernel_rfl) ⟨1, rfl⟩ ?_
  repeat (go_big_quiet_step ((go_at_call 57; exact quiet_left (last (W0.drewN _) g h seed root ph next hs h3 S0.out.2.2.1))))
  refine wpQuiet_nil ?_
  intro n
  have f1 := blk_free S0.out.2.2.1 50
  clear q1
  have q2 : W0.cell? ⟨g, 50, none⟩ = some (.int .i64 next) := sgr_next hs hr S0.out.2.2.1
  go_wp2_with fail
  refine (last (W0.drewN n) g h seed root ph next hs h3 (blk_drewN S0.out.2.2.1)).mono ?_
  rintro e w1 ⟨rfl, rfl⟩
  go_wp2_with fail
  obtain ⟨W1, hW1⟩ : ∃ W1, W1 = (W0.drewN n).setCell ⟨g, 50, none⟩ (.int .i64 ((2 : Int) ^ h)) := ⟨_, rfl⟩
  have hB1 := blk_setCell (blk_drewN (n := n) S0.out.2.2.1) 50 (.int .i64 ((2 : Int) ^ h))
  rw [sgr_set hs hr, ← hW1] at hB1
  have hb0 := blk_setCell_ne (blk_drewN (n := n) S0.out.1) (a := ⟨g, 50, none⟩) (.int .i64 ((2 : Int) ^ h)) (by show w.heap.size ≠ g; omega)
  have hb1 := blk_setCell_ne (blk_drewN (n := n) S0.out.2.1) (a := ⟨g, 50, none⟩) (.int .i64 ((2 : Int) ^ h)) (by show w.heap.size + 1 ≠ g; omega)
  rw [← hW1] at hb0 hb1
  have hg1 : w.grownBy W1 (some g) := by
    rw [hW1]
    exact Ref.grown_trans (Ref.grown_bel (bel_drewN S0.out.2.2.2 n) (Nat.le_refl _)) (grown_setCell _ g 50 _)
  rw [← hW1]
  have T1 := Lib.hid (And.intro hB1 (And.intro hb0 (And.intro hb1 hg1)))
  have HS := Lib.hid hs
  clear hW1 hB1 hb0 hb1 hg1 f1 q2 hs
  refine Ord.wp_region_tab2 10 [25, 26, 27, 28, 29, 30, 31, 32, 33, 34] [Value.pointer (some { block := g, off := 0 }), agg IntKind.u8 d, undef, Value.pointer (some { block := w.heap.size, off := 0 }), Value.pointer (some { block := w.heap.size + 1, off := 0 }), Value.int IntKind.i64 0, Value.bool false, Value.pointer (some { block := g, off := 0 }), Value.bool false, undef, Value.bool false, Value.pointer (some { block := g, off := 0 }), Value.pointer (some { block := g, off := 0 }), Value.pointer (some { block := g, off := 50 }), Value.int IntKind.i64 next, Value.pointer (some { block := g, off := 0 }), Value.int IntKind.i64 (2 ^ h - 1), Value.bool false, undef, Value.pointer (some { block := g, off := 0 }), Value.pointer (some { block := g, off := 0 }), Value.int IntKind.i64 (2 ^ h - 1), Value.int IntKind.i64 (2 ^ h), Value.pointer (some { block := g, off := 0 }), Value.pointer (some { block := g, off := 50 }), undef, undef, undef, undef, undef, undef, undef, undef, undef, undef] (fun W => AtJ w g h seed root d ph W) (JlP w g h seed d S PS) (by kernel_rfl) (by kernel_rfl) (by rfl) ⟨blk_drew T1.out.1, blk_drew T1.out.2.1, blk_drew T1.out.2.2.1, Ref.grown_trans T1.out.2.2.2 (Ref.grown_bel (Below.refl _ _).drew (Nat.le_refl _))⟩ (fun i v W W' _ hb hQ => JlP_mono w g h seed d S PS i v W W' hb hQ) ?_ ?_
  · intro i o hi ho a W K hS hF hG hK
    have hs1 := HS.out
    have k1 := ld_sgr_sec hs1 hr hS.1
    have k2 := bk_of hS.2.1
    match i, hi with
    | 0, _ =>
      cases ho
      have s0 : a.tmps.getD 0 undef = Value.pointer (some { block := g, off := 0 }) := hF.slots 0 (by simp) (by decide)
      go_wp2_with fail
      exact hK _ _ hS (Below.refl _ _) (by first | rfl | (show _ = _; simp))
    | 1, _ =>
      cases ho
      have s25 : a.tmps.getD 25 undef = .pointer (some ⟨g, 0, none⟩) := hG { on := 0, ground := .data } (by simp) rfl
      go_wp2_with fail
      exact hK _ _ hS (Below.refl _ _) (by first | rfl | (show _ = _; simp))
    | 2, _ =>
      cases ho
      have s26 : a.tmps.getD 26 undef = .pointer (some ⟨g, 0, none⟩) := hG { on := 1, ground := .data } (by simp) rfl
      go_wp2_with fail
      exact hK _ _ hS (Below.refl _ _) (by first | rfl | (show _ = _; simp))
    | 3, _ =>
      cases ho
      have s27 : a.tmps.getD 27 undef = .pointer (some ⟨g, 0, none⟩) := hG { on := 2, ground := .data } (by simp) rfl
      go_wp2_with fail
      exact hK _ _ hS (Below.refl _ _) (by first | rfl | (show _ = _; simp))
    | 4, _ =>
      cases ho
      have s0 : a.tmps.getD 0 undef = Value.pointer (some { block := g, off := 0 }) := hF.slots 0 (by simp) (by decide)
      go_wp2_with fail
      exact hK _ _ hS (Below.refl _ _) (by first | rfl | (show _ = _; simp))
    | 5, _ =>
      cases ho
      have s29 : a.tmps.getD 29 undef = .pointer (some ⟨g, 0, none⟩) := hG { on := 4, ground := .data } (by simp) rfl
      go_wp2_with fail
      refine (last W g h seed root ph (2 ^ h) hs1 h3 hS.1).mono ?_
      rintro e W2 ⟨rfl, hW2⟩
      subst hW2
      go_wp2_with fail
      exact hK _ _ hS (Below.refl _ _) rfl
    | 6, _ =>
      cases ho
      have s3 : a.tmps.getD 3 undef = Value.pointer (some { block := w.heap.size, off := 0 }) := hF.slots 3 (by simp) (by decide)
      go_wp2_with fail
      exact hK _ _ hS (Below.refl _ _) (by first | rfl | (show _ = _; simp))
    | 7, _ =>
      cases ho
      have s28 : a.tmps.getD 28 undef = .agg (secV seed (h : Int)).toArray := hG { on := 3, ground := .data } (by simp) rfl
      have s30 : a.tmps.getD 30 undef = .int .i64 ((2 : Int) ^ h - 1) := hG { on := 5, ground := .data } (by simp) rfl
      have s31 : a.tmps.getD 31 undef = agg .u8 d := hG { on := 6, ground := .data } (by simp) rfl
      go_wp2_with fail
      refine (c1.out W).mono ?_
      rintro e W2 ⟨p, rfl, ho2, hb2⟩
      obtain ⟨Ap, cp, rfl⟩ := ownN_slice ho2
      go_wp2_with fail
      exact hK _ _ (AtJ_keep hS hb2) hb2 ⟨_, rfl, own_mono ho2 hS.2.2.2.size⟩
    | 8, _ =>
      cases ho
      obtain ⟨p32, s32, hp32⟩ : JlP w g h seed d S PS 7 (a.tmps.getD 32 undef) W := hG { on := 7, ground := .data } (by simp) rfl
      go_wp2_with fail
      exact hK _ _ hS (Below.refl _ _) ⟨_, rfl, hp32⟩
    | 9, _ =>
      cases ho
      obtain ⟨p32, s32, hp32⟩ : JlP w g h seed d S PS 7 (a.tmps.getD 32 undef) W := hG { on := 7, ground := .data } (by simp) rfl
      go_wp2_with fail
      exact hK _ _ hS (Below.refl _ _) (by first | rfl | (show _ = _; simp))
    | i + 10, hi => exact absurd hi (by omega)
  · intro a W hS hF hG
    have t25 : a.tmps.getD 25 undef = .pointer (some ⟨g, 0, none⟩) := hG 0 (by omega)
    have t26 : a.tmps.getD 26 undef = .pointer (some ⟨g, 0, none⟩) := hG 1 (by omega)
    have t27 : a.tmps.getD 27 undef = .pointer (some ⟨g, 0, none⟩) := hG 2 (by omega)
    have t28 : a.tmps.getD 28 undef = .agg (secV seed (h : Int)).toArray := hG 3 (by omega)
    have t29 : a.tmps.getD 29 undef = .pointer (some ⟨g, 0, none⟩) := hG 4 (by omega)
    have t30 : a.tmps.getD 30 undef = .int .i64 ((2 : Int) ^ h - 1) := hG 5 (by omega)
    have t31 : a.tmps.getD 31 undef = agg .u8 d := hG 6 (by omega)
    obtain ⟨p32, t32, hp32⟩ : JlP w g h seed d S PS 7 (a.tmps.getD 32 undef) W := hG 7 (by omega)
    obtain ⟨p33, t33, hp33⟩ : JlP w g h seed d S PS 8 (a.tmps.getD 33 undef) W := hG 8 (by omega)
    have t34 : a.tmps.getD 34 undef = .int .i64 0 := hG 9 (by omega)
    have fr := Ord.frame_of (L := [Value.pointer (some { block := g, off := 0 }), agg IntKind.u8 d, undef, Value.pointer (some { block := w.heap.size, off := 0 }), Value.pointer (some { block := w.heap.size + 1, off := 0 }), Value.int IntKind.i64 0, Value.bool false, Value.pointer (some { block := g, off := 0 }), Value.bool false, undef, Value.bool false, Value.pointer (some { block := g, off := 0 }), Value.pointer (some { block := g, off := 0 }), Value.pointer (some { block := g, off := 50 }), Value.int IntKind.i64 next, Value.pointer (some { block := g, off := 0 }), Value.int IntKind.i64 (2 ^ h - 1), Value.bool false, undef, Value.pointer (some { block := g, off := 0 }), Value.pointer (some { block := g, off := 0 }), Value.int IntKind.i64 (2 ^ h - 1), Value.int IntKind.i64 (2 ^ h), Value.pointer (some { block := g, off := 0 }), Value.pointer (some { block := g, off := 50 }), .pointer (some ⟨g, 0, none⟩), .pointer (some ⟨g, 0, none⟩), .pointer (some ⟨g, 0, none⟩), .agg (secV seed (h : Int)).toArray, .pointer (some ⟨g, 0, none⟩), .int .i64 ((2 : Int) ^ h - 1), agg .u8 d, .tuple #[.agg (sigV ((2 : Int) ^ h - 1) S p32).toArray, .int .i64 0], .agg (sigV ((2 : Int) ^ h - 1) S p33).toArray, .int .i64 0]) hF.defers hF.size (fun k hk => match k, hk with
      | 0, _ => hF.slots 0 (by simp) (by decide)
      | 1, _ => hF.slots 1 (by simp) (by decide)
      | 2, _ => hF.slots 2 (by simp) (by decide)
      | 3, _ => hF.slots 3 (by simp) (by decide)
      | 4, _ => hF.slots 4 (by simp) (by decide)
      | 5, _ => hF.slots 5 (by simp) (by decide)
      | 6, _ => hF.slots 6 (by simp) (by decide)
      | 7, _ => hF.slots 7 (by simp) (by decide)
      | 8, _ => hF.slots 8 (by simp) (by decide)
      | 9, _ => hF.slots 9 (by simp) (by decide)
      | 10, _ => hF.slots 10 (by simp) (by decide)
      | 11, _ => hF.slots 11 (by simp) (by decide)
      | 12, _ => hF.slots 12 (by simp) (by decide)
      | 13, _ => hF.slots 13 (by simp) (by decide)
      | 14, _ => hF.slots 14 (by simp) (by decide)
      | 15, _ => hF.slots 15 (by simp) (by decide)
      | 16, _ => hF.slots 16 (by simp) (by decide)
      | 17, _ => hF.slots 17 (by simp) (by decide)
      | 18, _ => hF.slots 18 (by simp) (by decide)
      | 19, _ => hF.slots 19 (by simp) (by decide)
      | 20, _ => hF.slots 20 (by simp) (by decide)
      | 21, _ => hF.slots 21 (by simp) (by decide)
      | 22, _ => hF.slots 22 (by simp) (by decide)
      | 23, _ => hF.slots 23 (by simp) (by decide)
      | 24, _ => hF.slots 24 (by simp) (by decide)
      | 25, _ => t25
      | 26, _ => t26
      | 27, _ => t27
      | 28, _ => t28
      | 29, _ => t29
      | 30, _ => t30
      | 31, _ => t31
      | 32, _ => t32
      | 33, _ => t33
      | 34, _ => t34
      | k + 35, hk => absurd hk (by simp))
    subst fr
    clear hF hG t25 t26 t27 t28 t29 t30 t31 t32 t33 t34
    simp only [List.drop_succ_cons, List.drop_zero]
    obtain ⟨Ap, cp, rfl⟩ := ownN_slice hp33
    have k2 := bk_of hS.2.2.1
    have hne := own_blk_ne hp33 hS.2.2.1 (by decide)
    have hps := hS.2.2.2.size
    have J := Lib.hid (And.intro hS (And.intro hp33 hne))
    clear hS hp32 hp33 hne
    go_wp2_with fail
    refine ret2_sg rfl rfl rfl (blk_setRow J.out.1.2.2.1 (sigV ((2 : Int) ^ h - 1) S (.slice Ap PS.length cp))) (by rw [sigV_length, lS]) rfl ⟨_, rfl, own_setRow J.out.2.1 J.out.2.2, blk_setRow_ne J.out.1.1 _ (by omega), grown_setRow_new J.out.1.2.2.2 (by omega) _⟩
end Go.Proofs.YtlgpipdeckdmjaaGreat.Rm
/-
  A slice of operations (a byte, a number, sixteen bytes) that comes in, opened. No program.
-/
set_option linter.unusedVariables false
set_option linter.unusedSimpArgs false
namespace Go.Proofs.YtlgpipdeckdmjaaGreat.Opened
open Go.ChangeShapes Go.WideShapes Go.ChangeAt Go.RowKit Base
/-- One operation at an address. -/
def OpAt (w : World) (b o : Nat) (x : Nat × Int × List Nat) : Prop :=
  x.1 < 256 ∧ x.2.2.length = 16 ∧ By8 x.2.2 ∧ w.cell? ⟨b, o, none⟩ = some (.int .u8 (x.1 : Int)) ∧ w.cell? ⟨b, o + 1, none⟩ = some (.int .i64 x.2.1) ∧ (∀ j u, (cl .u8 x.2.2)[j]? = some u → w.cell? ⟨b, o + 2 + j, none⟩ = some u)
def Ops (w : World) (v : Value) (n : Nat) (X : Nat → Nat × Int × List Nat) : Prop :=
  ∃ A c, v = .slice A n c ∧ n ≤ c ∧ c ≤ maxLen ∧ (0 < n → ∃ b o, A = some ⟨b, o, none⟩ ∧ b < w.heap.size ∧ ∀ i, i < n → OpAt w b (o + i * 18) (X i))
theorem OpAt.keep {w w' : World} {b o : Nat} {x : Nat × Int × List Nat} (h : OpAt w b o x) (hw : ∀ j, w'.cell? ⟨b, j, none⟩ = w.cell? ⟨b, j, none⟩) : OpAt w' b o x :=
  ⟨h.1, h.2.1, h.2.2.1, (hw _).trans h.2.2.2.1, (hw _).trans h.2.2.2.2.1, fun j u hj => (hw _).trans (h.2.2.2.2.2 j u hj)⟩
section
variable {H : Type} {enc : TypeId × Value → H} {P : Program} {w : World} {base : Nat} {spare : Nat → Bool} {held : Bool} {t e u g : TypeId} {v : Value}
theorem cells_op {f0 f1 f2 : Field} {fuel : Nat} {cs : List Value} {x : DataW H × List MemPlace} (ht : P.underlying e = some (.struct #[f0, f1, f2])) (hcs : P.cellsOf e = 18) (o0 : f0.offset = 0) (o1 : f1.offset = 1) (o2 : f2.offset = 2) (c0 : P.cellsOf f0.type = 1) (c1 : P.cellsOf f1.type = 1) (c2 : P.cellsOf f2.type = 16)
    (u0 : P.underlying f0.type = some (.int .u8)) (u1 : P.underlying f1.type = some (.int .i64)) (u2 : P.underlying f2.type = some (.array 16 u)) (hu : P.underlying u = some (.int .u8)) (hcu : P.cellsOf u = 1)
    (h : DataW.trod enc P w base spare held fuel e cs = some x) : ∃ y : Nat × Int × List Nat, y.1 < 256 ∧ y.2.2.length = 16 ∧ By8 y.2.2 ∧ cs = .int .u8 (y.1 : Int) :: .int .i64 y.2.1 :: cl .u8 y.2.2 := by
  obtain ⟨xs, m, _, hx, hl, hlen, hfd⟩ := DataW.trod_struct ht h
  have hl' : cs.length = 18 := by rw [← hcs]; exact hl
  have d0 := hfd 0 f0 rfl
  have d1 := hfd 1 f1 rfl
  have d2 := hfd 2 f2 rfl
  rw [o0, c0] at d0
  rw [o1, c1] at d1
  rw [o2, c2] at d2
  have hx3 : xs.length = 3 := hlen
  rw [List.getElem?_eq_getElem (by omega)] at d0 d1 d2
  obtain ⟨z, hz, _, hwf⟩ := DataW.trod_int u0 d0
  obtain ⟨z1, hz1, _, _⟩ := DataW.trod_int u1 d1
  obtain ⟨a1, a2⟩ := cells_u8 u2 hu hcu c2 d2
  obtain ⟨l, e1, e2, e3⟩ := allU8_cl a1
  have hb := bounds_u8 hwf
  refine ⟨(z.toNat, z1, l), by show z.toNat < 256; omega, by show l.length = 16; rw [e2, a2], e3, ?_⟩
  show cs = .int .u8 ((z.toNat : Nat) : Int) :: .int .i64 z1 :: cl .u8 l
  rw [Int.toNat_of_nonneg hb.1, ← e1]
  match cs, hl' with
  | a :: b :: r, hl' =>
    have h1 : [a] = [Value.int .u8 z] := by simpa using hz
    have h2 : [b] = [Value.int .i64 z1] := by simpa using hz1
    cases h1
    cases h2
    have hr : r.length = 16 := by simpa using hl'
    simp only [List.drop_succ_cons, List.drop_zero]
    rw [List.take_of_length_le (by omega)]
theorem open_ops {r : Reach} {d : DataW H} {ps : List MemPlace} {f0 f1 f2 : Field} (hs : P.underlying t = some (.slice e)) (ht : P.underlying e = some (.struct #[f0, f1, f2])) (hcs : P.cellsOf e = 18) (o0 : f0.offset = 0) (o1 : f1.offset = 1) (o2 : f2.offset = 2) (c0 : P.cellsOf f0.type = 1) (c1 : P.cellsOf f1.type = 1) (c2 : P.cellsOf f2.type = 16)
    (u0 : P.underlying f0.type = some (.int .u8)) (u1 : P.underlying f1.type = some (.int .i64)) (u2 : P.underlying f2.type = some (.array 16 u)) (hu : P.underlying u = some (.int .u8)) (hcu : P.cellsOf u = 1)
    {b0 : Nat} (hval : Value.okWide P w r b0 t v) (hd : DataW.Trod enc P w base spare held t v d ps) : ∃ n X, Ops w v n X := by
  obtain ⟨a, len, cap, rfl⟩ := okWide_slice hs hval
  obtain ⟨fuel, hf⟩ := hd
  rcases DataW.trod_slice hs hf with ⟨h0, _⟩ | ⟨a', len', cap', elems, rest, g, _, hcell, _, hb, hl, hmx, hlen, hel, _, _⟩
  · have e : (.slice a len cap : Value) = .slice none 0 0 := by simpa [Value.cells] using h0
    rw [e]
    exact ⟨0, fun _ => (0, 0, []), none, 0, rfl, Nat.le_refl _, Nat.zero_le _, fun h => absurd h (by omega)⟩
  · have e : (.slice a len cap : Value) = .slice (some a') len' cap' := by simpa [Value.cells] using hcell
    rw [e]
    have each : ∀ i, i < len' → ∃ y : Nat × Int × List Nat, y.1 < 256 ∧ y.2.2.length = 16 ∧ By8 y.2.2 ∧ ∀ j u, (Value.int .u8 (y.1 : Int) :: .int .i64 y.2.1 :: cl .u8 y.2.2)[j]? = some u → w.cell? ((a'.add (i * 18)).add j) = some u := by
      intro i hi
      have h1 := hel i hi
      rw [hcs, List.getElem?_eq_getElem (by omega), Option.bind_eq_some_iff] at h1
      obtain ⟨cs', h2, h3⟩ := h1
      obtain ⟨y, hy1, hy2, hy3, rfl⟩ := cells_op ht hcs o0 o1 o2 c0 c1 c2 u0 u1 u2 hu hcu h3
      refine ⟨y, hy1, hy2, hy3, fun j u hj => ?_⟩
      have hj18 : j < 18 := by
        have := (List.getElem?_eq_some_iff.1 hj).1
        simp only [List.length_cons, cl_length, hy2] at this
        exact this
      exact ((World.cells?_some h2).2.2 j hj18).trans hj
    have each' : ∀ i, ∃ y : Nat × Int × List Nat, i < len' → y.1 < 256 ∧ y.2.2.length = 16 ∧ By8 y.2.2 ∧ ∀ j u, (Value.int .u8 (y.1 : Int) :: .int .i64 y.2.1 :: cl .u8 y.2.2)[j]? = some u → w.cell? ((a'.add (i * 18)).add j) = some u := by
      intro i
      by_cases hi : i < len'
      · obtain ⟨y, hy⟩ := each i hi
        exact ⟨y, fun _ => hy⟩
      · exact ⟨(0, 0, []), fun h => absurd h hi⟩
    obtain ⟨X, hX⟩ := Classical.axiomOfChoice each'
    refine ⟨len', X, some a', cap', rfl, hl, hmx, fun hp => ?_⟩
    obtain ⟨b, o, spot⟩ := a'
    have h00 := (hX 0 hp).2.2.2 0 _ rfl
    have hspot : spot = none := by simpa [Addr.add] using World.cell?_spot h00
    subst hspot
    have hlt : b < w.heap.size := by
      rw [Go.WideShapes.add_plain, Go.WideShapes.add_plain] at h00
      exact cell_lt h00
    refine ⟨b, o, rfl, hlt, fun i hi => ?_⟩
    obtain ⟨hy1, hy2, hy3, hy4⟩ := hX i hi
    have hc : ∀ j u, (Value.int .u8 ((X i).1 : Int) :: .int .i64 (X i).2.1 :: cl .u8 (X i).2.2)[j]? = some u → w.cell? ⟨b, o + i * 18 + j, none⟩ = some u := fun j u hj => by
      have := hy4 j u hj
      rwa [Go.WideShapes.add_plain, Go.WideShapes.add_plain] at this
    exact ⟨hy1, hy2, hy3, hc 0 _ rfl, hc 1 _ rfl, fun j u hj => by have := hc (j + 2) u (by simpa using hj); rwa [show o + i * 18 + (j + 2) = o + i * 18 + 2 + j by omega] at this⟩
end
end Go.Proofs.YtlgpipdeckdmjaaGreat.Opened
/-
  The frame behind a region by a table, put together at once. No program.
-/
set_option linter.unusedVariables false
set_option linter.unusedSimpArgs false
namespace Go.Proofs.YtlgpipdeckdmjaaGreat.Ord
open Go.RowKit
/-- The list with some places written anew. -/
def setAll : List Value → List Nat → List Value → List Value
  | b, d :: ds, v :: vs => setAll (b.set d v) ds vs
  | b, _, _ => b
theorem setAll_length : ∀ (ds : List Nat) (b vs : List Value), (setAll b ds vs).length = b.length
  | [], b, vs => by rw [setAll]; intros; simp_all
  | d :: ds, b, [] => by rw [setAll]; intros; simp_all
  | d :: ds, b, v :: vs => by rw [setAll, setAll_length ds, List.length_set]
theorem getD_setL (b : List Value) (d k : Nat) (v : Value) (h : k ≠ d) : (b.set d v).getD k undef = b.getD k undef := by
  rw [List.getD_eq_getElem?_getD, List.getD_eq_getElem?_getD, List.getElem?_set_ne (Ne.symm h)]
theorem getD_setS (b : List Value) (d : Nat) (v : Value) (h : d < b.length) : (b.set d v).getD d undef = v := by
  rw [List.getD_eq_getElem?_getD, List.getElem?_set_self h]
  rfl
theorem setAll_other : ∀ (ds : List Nat) (b vs : List Value) (k : Nat), k ∉ ds → (setAll b ds vs).getD k undef = b.getD k undef
  | [], b, vs, k, _ => by cases vs <;> rfl
  | d :: ds, b, [], k, _ => rfl
  | d :: ds, b, v :: vs, k, h => by
    rw [setAll, setAll_other ds (b.set d v) vs k (fun hm => h (List.mem_cons_of_mem _ hm)), getD_setL b d k v (fun e => h (e ▸ List.mem_cons_self))]
theorem setAll_at : ∀ (ds : List Nat) (b vs : List Value), ds.Nodup → ds.length = vs.length → (∀ d ∈ ds, d < b.length) → ∀ j, j < ds.length → (setAll b ds vs).getD (ds.getD j 0) undef = vs.getD j undef
  | [], b, vs, _, _, _, j, hj => absurd hj (Nat.not_lt_zero j)
  | d :: ds, b, [], _, hl, _, j, hj => absurd hl (by simp)
  | d :: ds, b, v :: vs, hn, hl, hb, 0, hj => by
    have hn' := List.nodup_cons.1 hn
    show (setAll b (d :: ds) (v :: vs)).getD d undef = v
    rw [setAll, setAll_other ds (b.set d v) vs d hn'.1, getD_setS b d v (hb d List.mem_cons_self)]
  | d :: ds, b, v :: vs, hn, hl, hb, j + 1, hj => by
    have hn' := List.nodup_cons.1 hn
    show (setAll b (d :: ds) (v :: vs)).getD (ds.getD j 0) undef = vs.getD j undef
    rw [setAll, setAll_at ds (b.set d v) vs hn'.2 (by simpa using hl) (fun x hx => by rw [List.length_set]; exact hb x (List.mem_cons_of_mem _ hx)) j (by simpa using hj)]
theorem frame_all {a : Act} {ds : List Nat} {base vs : List Value} (hF : Fix2 ds base a) (hds : (decide (ds.length = vs.length) && decide ds.Nodup && ds.all (fun d => decide (d < base.length))) = true)
    (h : ∀ j, j < ds.length → a.tmps.getD (ds.getD j 0) undef = vs.getD j undef) : a = { tmps := (setAll base ds vs).toArray, defers := [] } := by
  simp only [Bool.and_eq_true, decide_eq_true_eq, List.all_eq_true] at hds
  obtain ⟨⟨hl, hnd⟩, hb⟩ := hds
  refine frame_of hF.defers (by rw [setAll_length, hF.size]) (fun k hk => ?_)
  rw [setAll_length] at hk
  by_cases hm : k ∈ ds
  · obtain ⟨j, hj, rfl⟩ := List.mem_iff_getElem.1 hm
    have e : ds[j] = ds.getD j 0 := by rw [List.getD_eq_getElem?_getD, List.getElem?_eq_getElem hj]; rfl
    rw [e, h j hj, setAll_at ds base vs hnd hl hb j hj]
  · rw [setAll_other ds base vs k hm]
    exact hF.slots k hk hm
end Go.Proofs.YtlgpipdeckdmjaaGreat.Ord
