/-
  Several texts laid into one (merge.py): Ver2, Sgn7, Sgn8, B641, B642.
-/
import Derived.Test.YtlgpipdeckdmjaaGreatVf18
import Derived.Shelf.Strings.BuilderK
/-
  The reference's Verify, at what is in range; both Verify's as one function.
-/
set_option linter.unusedVariables false
set_option linter.unusedSimpArgs false
namespace Go.Proofs.YtlgpipdeckdmjaaGreat.Rm
open Go.RowKit Base Reg Types Slice Sha
open Go.Proofs.YtlgpipdeckdmjaaGreat.One
open Go.Proofs.YtlgpipdeckdmjaaGreat.Str
open Go.Proofs.YtlgpipdeckdmjaaGreat.Mer
open Go.Proofs.YtlgpipdeckdmjaaGreat.Sgn
set_option maxRecDepth 20000 in
set_option maxHeartbeats 4000000 in
theorem ver8_in (w : World) (h leaf : Nat) (root ch d : List Nat) (p : Value) (ps : List (List Nat)) (hr : root.length = 16) (h1 : 1 ≤ h) (h8 : h ≤ 8) (hc : ch.length = 560) (hd : d.length = 16) (bd : By d) (hp : SlN w p ps) (hN : N16 ps) (hn1 : 1 ≤ ps.length) (hn8 : ps.length ≤ 8) (hl : leaf < 2 ^ ps.length) :
    Calls Tryz.prog 20 #[.int .i64 (h : Int), agg .u8 root, agg .u8 d, .agg (sigV (leaf : Int) ch p).toArray] w fun e w' => e = .returned (.int .i64 (if ps.length = h ∧ reach ch d leaf ps = root then 0 else 17)) ∧ Below w.heap.size w w' := by
  obtain ⟨R, hR⟩ : ∃ R, R = reach ch d leaf ps := ⟨_, rfl⟩
  have lR : R.length = 16 := by rw [hR]; exact reach_length _ _ _ _
  have hl' : (leaf : Int) < 2 ^ ps.length := by exact_mod_cast hl
  obtain ⟨A, c, hpA, -⟩ := id hp
  obtain ⟨n, hne⟩ : ∃ n, n = ps.length := ⟨_, rfl⟩
  have c1 : Hid (∀ W, Calls Tryz.prog 18 #[.agg (sigV (leaf : Int) ch p).toArray] W fun e w' => e = .returned (.int .i64 0) ∧ Below W.heap.size W w') := Lib.hid fun W => by rw [hpA]; exact check8 W leaf ch A ps.length c hc hn1 hn8 (by omega) hl'
  have c2 : Hid (∀ W, Below w.heap.size w W → Calls Tryz.prog 21 #[agg .u8 d, .agg (sigV (leaf : Int) ch p).toArray] W fun e w' => e = .returned (agg .u8 R) ∧ Below W.heap.size W w') := Lib.hid fun W hW => by
    rw [hR]
    exact reach8 W leaf ch d p ps hc hd bd (hp.keep hW) hN hn1 hn8 hl
  rw [← hR, ← hne]
  rw [← hne] at hn8 hn1 hpA
  obtain ⟨E, hE⟩ : ∃ E : Int, E = if n = h ∧ R = root then 0 else 17 := ⟨_, rfl⟩
  rw [← hE]
  have HE := Lib.hid hE
  clear hR hl hl' hne hN hp bd hE
  subst hpA
  obtain ⟨W0, hW0⟩ : ∃ W0, W0 = ((w.alloc (.cells (cl .u8 root).toArray 23)).alloc (.cells (cl .u8 d).toArray 23)).alloc (.cells (sigV (leaf : Int) ch (.slice A n c)).toArray 36) := ⟨_, rfl⟩
  have b0 : blk W0 w.heap.size (cl .u8 root) 23 := by rw [hW0]; exact blk_alloc (blk_alloc (blk_new _ _ _) _) _
  have b1 : blk W0 (w.heap.size + 1) (cl .u8 d) 23 := by rw [hW0]; exact blk_alloc (blk_at _ _ _ (by simp only [alloc_size])) _
  have b2 : blk W0 (w.heap.size + 1 + 1) (sigV (leaf : Int) ch (.slice A n c)) 36 := by rw [hW0]; exact blk_at _ _ _ (by simp only [alloc_size])
  have bl : Below w.heap.size w W0 := by rw [hW0]; exact (((Below.refl w.heap.size w).alloc (Nat.le_refl _) _).alloc (by simp only [alloc_size]; omega) _).alloc (by simp only [alloc_size]; omega) _
  have S0 := Lib.hid (And.intro b0 (And.intro b1 (And.intro b2 bl)))
  have HW := Lib.hid hW0
  have k2 := bk_of b2
  rw [hW0] at k2
  clear b0 b1 b2 bl hW0
  go_enter Tryz.func20, Tryz.ntmps20
  have d1 : decide ((h : Int) < 1) = false := by simp; omega
  have d2 : decide ((8 : Int) < h) = false := by simp; omega
  go_wp2_with fail
  rw [← HW.out]
  refine (c1.out _).mono ?_
  rintro e w1 ⟨rfl, hb1⟩
  clear k2
  obtain ⟨ι, F, hF, hin⟩ := class_of (fun W => blk W w.heap.size (cl .u8 root) 23 ∧ blk W (w.heap.size + 1) (cl .u8 d) 23 ∧ blk W (w.heap.size + 1 + 1) (sigV (leaf : Int) ch (.slice A n c)) 36 ∧ Below w.heap.size w W)
  have h0 := hin w1.drew ⟨blk_drew (blk_keep S0.out.1 hb1), blk_drew (blk_keep S0.out.2.1 hb1), blk_drew (blk_keep S0.out.2.2.1 hb1), (bel_trans S0.out.2.2.2 hb1 S0.out.2.2.2.size).drew⟩
  have hne : Nonempty ι := ⟨h0.choose⟩
  have q0 : ∀ i, bk (F i) w.heap.size = some (cl .u8 root).toArray := fun i => bk_of (hF i).1
  have q1 : ∀ i, bk (F i) (w.heap.size + 1) = some (cl .u8 d).toArray := fun i => bk_of (hF i).2.1
  have q2 : ∀ i, bk (F i) (w.heap.size + 1 + 1) = some (sigV (leaf : Int) ch (.slice A n c)).toArray := fun i => bk_of (hF i).2.2.1
  have q3 : ∀ i, (F i).cell? ⟨w.heap.size + 1 + 1, 561, none⟩ = some (.slice A n c) := fun i => sig_path hc (hF i).2.2.1
  have HF := Lib.hid hF
  have HI := Lib.hid hin
  have HH := Lib.hid h0
  clear hF hin h0 hb1
  by_cases hnh : n = h
  · subst hnh
    by_cases hRr : R = root
    · subst hRr
      have E0 : Hid (E = 0) := Lib.hid (by rw [HE.out, if_pos ⟨rfl, rfl⟩])
      clear HE
      go_wp2_with fail
      refine wp_region_all F (by kernel_rfl) (by kernel_rfl) HH.out ?_
      repeat (go_big_quiet_step ((go_at_call 21; exact quiet_below HF.out HI.out (fun _ _ h hb => ⟨blk_keep h.1 hb, blk_keep h.2.1 hb, blk_keep h.2.2.1 hb, bel_trans h.2.2.2 hb h.2.2.2.size⟩) (c2.out _ (HF.out _).2.2.2))))
      refine wpQuiet_nil ?_
      intro i
      go_wp2_with fail
      go_ret
      exact ⟨by rw [E0.out]; rfl, (HF.out i).2.2.2⟩
    · have hd1 : decide (R = root) = false := decide_eq_false hRr
      have E0 : Hid (E = 17) := Lib.hid (by rw [HE.out, if_neg (fun h => hRr h.2)])
      clear hRr HE
      go_wp2_with fail
      refine wp_region_all F (by kernel_rfl) (by kernel_rfl) HH.out ?_
      repeat (go_big_quiet_step ((go_at_call 21; exact quiet_below HF.out HI.out (fun _ _ h hb => ⟨blk_keep h.1 hb, blk_keep h.2.1 hb, blk_keep h.2.2.1 hb, bel_trans h.2.2.2 hb h.2.2.2.size⟩) (c2.out _ (HF.out _).2.2.2))))
      refine wpQuiet_nil ?_
      intro i
      go_wp2_with fail
      go_ret
      exact ⟨by rw [E0.out]; rfl, (HF.out i).2.2.2⟩
  · have hd1 : ((n : Int) != (h : Int)) = true := by simp; omega
    have E0 : Hid (E = 17) := Lib.hid (by rw [HE.out, if_neg (fun h => hnh h.1)])
    clear hnh HE
    go_wp2_with fail
    refine wp_region_all F (by kernel_rfl) (by kernel_rfl) HH.out ?_
    repeat (go_big_quiet_step ((go_at_call 21; exact quiet_below HF.out HI.out (fun _ _ h hb => ⟨blk_keep h.1 hb, blk_keep h.2.1 hb, blk_keep h.2.2.1 hb, bel_trans h.2.2.2 hb h.2.2.2.size⟩) (c2.out _ (HF.out _).2.2.2))))
    refine wpQuiet_nil ?_
    intro i
    go_wp2_with fail
    go_ret
    exact ⟨by rw [E0.out]; rfl, (HF.out i).2.2.2⟩
/-- What both answer. -/
def vrf (h l : Int) (root ch d : List Nat) (ps : List (List Nat)) : Int :=
  if ¬ (1 ≤ h ∧ h ≤ 8) then 2 else if ¬ GOk l ps.length then 2 else if (ps.length : Int) = h ∧ reach ch d l.toNat ps = root then 0 else 17
theorem vrf_nat {h leaf : Nat} {root ch d : List Nat} {ps : List (List Nat)} (h1 : 1 ≤ h) (h8 : h ≤ 8) (hg : GOk (leaf : Int) ps.length) : vrf (h : Int) (leaf : Int) root ch d ps = if ps.length = h ∧ reach ch d leaf ps = root then 0 else 17 := by
  unfold vrf
  rw [if_neg (by omega), if_neg (not_not_intro hg), Int.toNat_natCast]
  by_cases hc : ps.length = h ∧ reach ch d leaf ps = root
  · rw [if_pos hc, if_pos ⟨by omega, hc.2⟩]
  · rw [if_neg hc, if_neg (fun e => hc ⟨by omega, e.2⟩)]
theorem verify_any (w : World) (h l : Int) (root ch d : List Nat) (p : Value) (ps : List (List Nat)) (hr : root.length = 16) (hc : ch.length = 560) (hd : d.length = 16) (bd : By d) (hp : SlN w p ps) (hN : N16 ps) :
    Calls Tryz.prog 14 #[.agg (pubV h root).toArray, agg .u8 d, .agg (sigV l ch p).toArray] w fun e w' => e = .returned (.int .i64 (vrf h l root ch d ps)) ∧ Below w.heap.size w w' := by
  obtain ⟨A, c, rfl, -⟩ := id hp
  by_cases hh : 1 ≤ h ∧ h ≤ 8
  · by_cases hg : GOk l ps.length
    · obtain ⟨hn, hl⟩ : (∃ hn : Nat, h = (hn : Int)) ∧ (∃ ln : Nat, l = (ln : Int)) := ⟨⟨h.toNat, by omega⟩, ⟨l.toNat, by have := hg.2.1; omega⟩⟩
      obtain ⟨hn, rfl⟩ := hn
      obtain ⟨ln, rfl⟩ := hl
      rw [vrf_nat (by omega) (by omega) hg]
      exact verify_in w hn ln root ch d _ ps hr (by omega) (by omega) hc hd bd hp hN hg.1.1 hg.1.2 (by have := hg.2.2; exact_mod_cast this)
    · rw [show vrf h l root ch d ps = 2 by unfold vrf; rw [if_neg (by omega), if_pos hg]]
      exact verify_gout w h l root ch d A ps.length c hr hh.1 hh.2 hg hc hd
  · rw [show vrf h l root ch d ps = 2 by unfold vrf; rw [if_pos hh]]
    exact verify_hout w h l root ch d A ps.length c hr hh hc hd
theorem ver8_any (w : World) (h l : Int) (root ch d : List Nat) (p : Value) (ps : List (List Nat)) (hr : root.length = 16) (hc : ch.length = 560) (hd : d.length = 16) (bd : By d) (hp : SlN w p ps) (hN : N16 ps) :
    Calls Tryz.prog 20 #[.int .i64 h, agg .u8 root, agg .u8 d, .agg (sigV l ch p).toArray] w fun e w' => e = .returned (.int .i64 (vrf h l root ch d ps)) ∧ Below w.heap.size w w' := by
  obtain ⟨A, c, rfl, -⟩ := id hp
  by_cases hh : 1 ≤ h ∧ h ≤ 8
  · by_cases hg : GOk l ps.length
    · obtain ⟨hn, hl⟩ : (∃ hn : Nat, h = (hn : Int)) ∧ (∃ ln : Nat, l = (ln : Int)) := ⟨⟨h.toNat, by omega⟩, ⟨l.toNat, by have := hg.2.1; omega⟩⟩
      obtain ⟨hn, rfl⟩ := hn
      obtain ⟨ln, rfl⟩ := hl
      rw [vrf_nat (by omega) (by omega) hg]
      exact ver8_in w hn ln root ch d _ ps hr (by omega) (by omega) hc hd bd hp hN hg.1.1 hg.1.2 (by have := hg.2.2; exact_mod_cast this)
    · rw [show vrf h l root ch d ps = 2 by unfold vrf; rw [if_neg (by omega), if_pos hg]]
      exact ver8_gout w h l root ch d A ps.length c hr hh.1 hh.2 hg hc hd
  · rw [show vrf h l root ch d ps = 2 by unfold vrf; rw [if_pos hh]]
    exact ver8_hout w h l root ch d A ps.length c hr hh hc hd
end Go.Proofs.YtlgpipdeckdmjaaGreat.Rm
/-
  signer: signers.
-/
set_option linter.unusedVariables false
set_option linter.unusedSimpArgs false
namespace Go.Proofs.YtlgpipdeckdmjaaGreat.Sgn
open Go.RowKit Base Reg Types Slice Sha
open Go.Proofs.YtlgpipdeckdmjaaGreat.One
open Go.Proofs.YtlgpipdeckdmjaaGreat.Str
open Go.Proofs.YtlgpipdeckdmjaaGreat.Mer
open Go.Proofs.YtlgpipdeckdmjaaGreat.Signed
section
variable {W : World} {g : Nat} {seed root : List Nat} {h ph next : Int} {t : TypeId}
theorem sgr_height (hs : seed.length = 32) (hB : blk W g (sgrV seed h ph root next) t) : W.cell? ⟨g, 32, none⟩ = some (.int .i64 h) := by
  rw [blk_cell hB, sgrV, secV, List.append_assoc, List.getElem?_append_right (by rw [cl_length]; omega), cl_length, hs]
  rfl
theorem sgr_next (hs : seed.length = 32) (hr : root.length = 16) (hB : blk W g (sgrV seed h ph root next) t) : W.cell? ⟨g, 50, none⟩ = some (.int .i64 next) := by
  rw [blk_cell hB, sgrV, ← List.append_assoc, List.getElem?_append_right (by rw [List.length_append, secV_length, pubV_length]; omega), List.length_append, secV_length, pubV_length, hs, hr]
  rfl
theorem sgr_set (hs : seed.length = 32) (hr : root.length = 16) (n : Int) : (sgrV seed h ph root next).set 50 (.int .i64 n) = sgrV seed h ph root n := by
  unfold sgrV
  rw [← List.append_assoc, List.set_append_right _ _ (by rw [List.length_append, secV_length, pubV_length]; omega), List.length_append, secV_length, pubV_length, hs, hr, ← List.append_assoc]
  rfl
theorem ld_sgr_sec (hs : seed.length = 32) (hr : root.length = 16) (hB : blk W g (sgrV seed h ph root next) t) : ldGot Tryz.prog 27 g 33 W (bk W g) = .ok (.agg (secV seed h).toArray) W := by
  have h1 := ld_part (P := Tryz.prog) (ty := 27) (n := 33) (d := (Tryz.prog.underlying 27).get (by kernel_rfl)) hB (by kernel_rfl) (by kernel_rfl) (by kernel_rfl) (by rw [sgrV_length]; omega)
  rw [show (sgrV seed h ph root next).take 33 = secV seed h by unfold sgrV; rw [List.take_left' (by rw [secV_length, hs])]] at h1
  exact h1
theorem ld_sgr_pub (hs : seed.length = 32) (hr : root.length = 16) (hB : blk W g (sgrV seed h ph root next) t) : (ldA 39 (.pointer (some ⟨g, 33, none⟩))).run Tryz.prog W = .ok (.agg (pubV ph root).toArray) W := by
  have h1 := run_loadAt_part (P := Tryz.prog) (ty := 39) hB 33 17 (d := (Tryz.prog.underlying 39).get (by kernel_rfl)) (by kernel_rfl) (by kernel_rfl) (by kernel_rfl) (by rw [sgrV_length]; omega)
  rw [show ((sgrV seed h ph root next).drop 33).take 17 = pubV ph root by unfold sgrV; rw [List.drop_left' (by rw [secV_length, hs]), List.take_left' (by rw [pubV_length, hr])]] at h1
  exact h1
end
theorem grown_setRow_new {w w2 : World} {r : Option Nat} {b : Nat} (h : w.grownBy w2 r) (hb : w.heap.size ≤ b) (cs : Array Value) : w.grownBy (w2.setRow b cs) r :=
  ⟨h.os, h.tape, h.output, by have := h.size; simpa using this, fun k hk hr => (setRow_other w2 b k cs (by omega)).trans (h.block k hk hr)⟩
theorem pow8 {h : Nat} (hh : h ≤ 8) : (2 : Int) ^ h ≤ 256 := by
  have h1 := pow_cases hh
  have e : (2 : Int) ^ h = ((2 ^ h : Nat) : Int) := by norm_cast
  rw [e]
  omega
theorem last (w : World) (g h : Nat) (seed root : List Nat) (ph next : Int) (hs : seed.length = 32) (hh : h ≤ 8) (hB : blk w g (sgrV seed (h : Int) ph root next) 108) :
    Calls Tryz.prog 57 #[.pointer (some ⟨g, 0, none⟩)] w fun e w' => e = .returned (.int .i64 ((2 : Int) ^ h - 1)) ∧ w = w' := by
  have q := sgr_height hs hB
  have p8' := pow8 hh
  have p9 : (0 : Int) < 2 ^ h := Int.pow_pos (by decide)
  clear hB
  go_enter Tryz.func57, Tryz.ntmps57
  go_wp2_with fail
  go_ret
  exact ⟨rfl, rfl⟩
theorem signer_public (w : World) (g : Nat) (seed root : List Nat) (h ph next : Int) (hs : seed.length = 32) (hr : root.length = 16) (hB : blk w g (sgrV seed h ph root next) 108) :
    Calls Tryz.prog 28 #[.pointer (some ⟨g, 0, none⟩)] w fun e w' => e = .returned (.agg (pubV ph root).toArray) ∧ Below w.heap.size w w' := by
  have q := ld_sgr_pub hs hr (blk_alloc hB (.cells (pubV 0 (zs 16)).toArray 39))
  clear hB
  go_enter Tryz.func28, Tryz.ntmps28
  go_wp2_with fail
  refine ret_pub rfl rfl (blk_new w (pubV ph root) 39) (by rw [pubV_length, hr]) rfl ⟨rfl, (Below.refl w.heap.size w).alloc (Nat.le_refl _) _⟩
set_option maxRecDepth 20000 in
theorem new_in (w : World) (seed : List Nat) (h : Nat) (next : Int) (hs : seed.length = 32) (hh : h = 1 ∨ h = 2 ∨ h = 3) (hn0 : 0 ≤ next) (hn1 : next ≤ 2 ^ h) :
    Calls Tryz.prog 27 #[.agg (secV seed (h : Int)).toArray, .int .i64 next] w fun e w' => ∃ g, e = .returned (.tuple #[.pointer (some ⟨g, 0, none⟩), .int .i64 0]) ∧ w.heap.size ≤ g ∧ blk w' g (sgrV seed (h : Int) (h : Int) (keyRoot seed h) next) 108 ∧ Below w.heap.size w w' := by
  have c1 := Lib.hid fun W => secret_public W seed h hs hh
  have lR := keyRoot_length seed h
  have p8' : (2 : Int) ^ h ≤ 8 := by
    have p8 : 2 ^ h ≤ 2 ^ 3 := Nat.pow_le_pow_right (by omega) (by omega)
    exact_mod_cast p8
  generalize keyRoot seed h = R at c1 lR ⊢
  have k0 := bk_of (blk_new w (secV seed (h : Int)) 27)
  go_enter Tryz.func27, Tryz.ntmps27
  go_wp2_with fail
  refine (c1.out _).mono ?_
  rintro e w1 ⟨rfl, hb1⟩
  have B1 := blk_keep (blk_new w (secV seed (h : Int)) 27) hb1
  have S1 := Lib.hid (And.intro B1 (bel_trans ((Below.refl w.heap.size w).alloc (Nat.le_refl _) (.cells (secV seed (h : Int)).toArray 27)) hb1 (by simp only [alloc_size]; omega)))
  have q1 := sec_height hs (blk_alloc B1 (.cells (pubV (h : Int) R).toArray 39))
  have k1 := bk_of B1
  have lt1 := blk_lt B1
  clear hb1 B1 k0
  go_wp2_with fail
  go_ret2
  have hb2 := S1.out.2.alloc S1.out.2.size (.cells (pubV (h : Int) R).toArray 39)
  exact ⟨_, rfl, by have := S1.out.2.size; omega, blk_at _ (sgrV seed (h : Int) (h : Int) R next) _ (by simp only [alloc_size]), hb2.alloc hb2.size _⟩
set_option maxRecDepth 20000 in
set_option maxHeartbeats 4000000 in
theorem signer_sign (w : World) (g h next : Nat) (seed root d : List Nat) (ph : Int) (hs : seed.length = 32) (hr : root.length = 16) (hd : d.length = 16) (bd : By d) (hh : h = 1 ∨ h = 2 ∨ h = 3) (hn : next + 1 < 2 ^ h) (hB : blk w g (sgrV seed (h : Int) ph root (next : Int)) 108) :
    Calls Tryz.prog 31 #[.pointer (some ⟨g, 0, none⟩), agg .u8 d] w fun e w' => ∃ p, e = .returned (.tuple #[.agg (sigV (next : Int) (sg seed d next) p).toArray, .int .i64 0]) ∧ OwnN 23 w' w.heap.size p (sigPath seed h next) ∧ blk w' g (sgrV seed (h : Int) ph root ((next : Int) + 1)) 108 ∧ w.grownBy w' (some g) := by
  obtain ⟨S, hS⟩ : ∃ S, S = sg seed d next := ⟨_, rfl⟩
  have lS : S.length = 560 := by rw [hS]; exact sg_length _ _ _
  have c1 := Lib.hid fun W => sign W seed d h next hs hd bd hh (by omega)
  rw [← hS] at c1 ⊢
  have p8' := pow8 (h := h) (by omega)
  have p9 : ((next : Int) + 1) < 2 ^ h := by exact_mod_cast hn
  have lg := blk_lt hB
  obtain ⟨W0, hW0⟩ : ∃ W0, W0 = (w.alloc (.cells (cl .u8 d).toArray 23)).alloc (.cells (sigV 0 (zs 560) (.slice none 0 0)).toArray 31) := ⟨_, rfl⟩
  have b0 : blk W0 w.heap.size (cl .u8 d) 23 := by rw [hW0]; exact blk_alloc (blk_new _ _ _) _
  have b1 : blk W0 (w.heap.size + 1) (sigV 0 (zs 560) (.slice none 0 0)) 31 := by rw [hW0]; exact blk_at _ _ _ (by simp only [alloc_size])
  have b2 : blk W0 g (sgrV seed (h : Int) ph root (next : Int)) 108 := by rw [hW0]; exact blk_alloc (blk_alloc hB _) _
  have bl : Below w.heap.size w W0 := by rw [hW0]; exact ((Below.refl w.heap.size w).alloc (Nat.le_refl _) _).alloc (by simp only [alloc_size]; omega) _
  have S0 := Lib.hid (And.intro b0 (And.intro b1 (And.intro b2 bl)))
  have HW := Lib.hid hW0
  have q1 : ∀ n, (W0.drewN n).cell? ⟨g, 50, none⟩ = some (.int .i64 (next : Int)) := fun n => sgr_next hs hr b2
  clear hS hn b0 b1 b2 bl hW0 hB
  go_enter Tryz.func31, Tryz.ntmps31
  go_wp2_with fail
  rw [← HW.out]
  refine wp_region_all (fun n => W0.drewN n) (by kernel_rfl) (by kernel_rfl) ⟨1, rfl⟩ ?_
  repeat (go_big_quiet_step ((go_at_call 57; exact quiet_left (last (W0.drewN _) g h seed root ph (next : Int) hs (by omega) S0.out.2.2.1))))
  refine wpQuiet_nil ?_
  intro n
  have f1 := blk_free S0.out.2.2.1 50
  clear q1
  have q2 : W0.cell? ⟨g, 50, none⟩ = some (.int .i64 (next : Int)) := sgr_next hs hr S0.out.2.2.1
  go_wp2_with fail
  obtain ⟨W1, hW1⟩ : ∃ W1, W1 = (W0.drewN n).setCell ⟨g, 50, none⟩ (.int .i64 ((next : Int) + 1)) := ⟨_, rfl⟩
  have hB1 := blk_setCell (blk_drewN (n := n) S0.out.2.2.1) 50 (.int .i64 ((next : Int) + 1))
  rw [sgr_set hs hr, ← hW1] at hB1
  have hb0 := blk_setCell_ne (blk_drewN (n := n) S0.out.1) (a := ⟨g, 50, none⟩) (.int .i64 ((next : Int) + 1)) (by show w.heap.size ≠ g; omega)
  have hb1 := blk_setCell_ne (blk_drewN (n := n) S0.out.2.1) (a := ⟨g, 50, none⟩) (.int .i64 ((next : Int) + 1)) (by show w.heap.size + 1 ≠ g; omega)
  rw [← hW1] at hb0 hb1
  have hg1 : w.grownBy W1 (some g) := by
    rw [hW1]
    exact Ref.grown_trans (Ref.grown_bel (bel_drewN S0.out.2.2.2 n) (Nat.le_refl _)) (grown_setCell _ g 50 _)
  rw [← hW1]
  have T1 := Lib.hid (And.intro hB1 (And.intro hb0 (And.intro hb1 hg1)))
  have z1 : ldGot Tryz.prog 27 g 33 W1.drew (bk W1 g) = .ok (.agg (secV seed (h : Int)).toArray) W1.drew := ld_sgr_sec hs hr (blk_drew hB1)
  have z2 := sgr_next hs hr hB1
  have z3 := bk_of hb0
  have hw1 : IntKind.i64.wrap (next : Int) = (next : Int) := by rw [IntKind.wrap_i64]; omega
  clear hW1 hB1 hb0 hb1 hg1 q2 f1
  go_region_law (first
    | (refine Law.step_call rfl 9 _ _ rfl #[.agg (secV seed (h : Int)).toArray, .int .i64 (next : Int), agg .u8 d] rfl (fun _ => by kernel_rfl) (c1.out _) ?_
       rintro e w2 ⟨p, rfl, ho2, hw2⟩
       obtain ⟨Ap, cp, rfl⟩ := ownN_slice ho2
       refine ⟨_, rfl, ?_⟩
       have T2 := Lib.hid (And.intro (blk_keep (blk_drew T1.out.1) hw2) (And.intro (blk_keep (blk_drew T1.out.2.2.1) hw2) (And.intro ho2 (Ref.grown_trans T1.out.2.2.2 (Ref.grown_bel (bel_trans (Below.refl W1.heap.size W1).drew hw2 (Nat.le_refl _)) (Nat.le_refl _))))))
       have k2 := bk_of T2.out.2.1
       clear hw2 ho2)
    | fail)
  all_goals
    go_wp2_with fail
    have hne := own_blk_ne T2.out.2.2.1 T2.out.2.1 (by decide)
    refine ret2_sg rfl rfl rfl (blk_setRow T2.out.2.1 (sigV (next : Int) S (.slice Ap (sigPath seed h next).length cp))) (by rw [sigV_length, lS]) rfl ⟨_, rfl, own_mono (own_setRow T2.out.2.2.1 hne) T1.out.2.2.2.size, blk_setRow_ne T2.out.1 _ (by omega), ?_⟩
    exact grown_setRow_new T2.out.2.2.2 (by omega) _
end Go.Proofs.YtlgpipdeckdmjaaGreat.Sgn
/-
  signer: a signer that has no leaf left.
-/
set_option linter.unusedVariables false
set_option linter.unusedSimpArgs false
namespace Go.Proofs.YtlgpipdeckdmjaaGreat.Sgn
open Go.RowKit Base Reg Types Slice Sha
open Go.Proofs.YtlgpipdeckdmjaaGreat.One
open Go.Proofs.YtlgpipdeckdmjaaGreat.Str
open Go.Proofs.YtlgpipdeckdmjaaGreat.Mer
open Go.Proofs.YtlgpipdeckdmjaaGreat.Signed
set_option maxRecDepth 20000 in
set_option maxHeartbeats 4000000 in
theorem signer_used (w : World) (g h : Nat) (seed root d : List Nat) (ph next : Int) (hs : seed.length = 32) (hr : root.length = 16) (hd : d.length = 16) (hh : h ≤ 8) (hn : (2 : Int) ^ h - 1 ≤ next) (hB : blk w g (sgrV seed (h : Int) ph root next) 108) :
    Calls Tryz.prog 31 #[.pointer (some ⟨g, 0, none⟩), agg .u8 d] w fun e w' => e = .returned (.tuple #[.agg (sigV 0 (zs 560) (.slice none 0 0)).toArray, .int .i64 19]) ∧ Below w.heap.size w w' := by
  obtain ⟨Z, hZ⟩ : ∃ Z, Z = zs 560 := ⟨_, rfl⟩
  have lZ : Z.length = 560 := by rw [hZ, zs_length]
  have b0 := bl0_sg
  have a0 := al_sg
  rw [← hZ] at b0 a0 ⊢
  have lg := blk_lt hB
  obtain ⟨W0, hW0⟩ : ∃ W0, W0 = (w.alloc (.cells (cl .u8 d).toArray 23)).alloc (.cells (sigV 0 Z (.slice none 0 0)).toArray 31) := ⟨_, rfl⟩
  have b1 : blk W0 (w.heap.size + 1) (sigV 0 Z (.slice none 0 0)) 31 := by rw [hW0]; exact blk_at _ _ _ (by simp only [alloc_size])
  have b2 : blk W0 g (sgrV seed (h : Int) ph root next) 108 := by rw [hW0]; exact blk_alloc (blk_alloc hB _) _
  have bl : Below w.heap.size w W0 := by rw [hW0]; exact ((Below.refl w.heap.size w).alloc (Nat.le_refl _) _).alloc (by simp only [alloc_size]; omega) _
  have S0 := Lib.hid (And.intro b1 (And.intro b2 bl))
  have HW := Lib.hid hW0
  have q1 : ∀ n, (W0.drewN n).cell? ⟨g, 50, none⟩ = some (.int .i64 next) := fun n => sgr_next hs hr b2
  have k1 := bk_of b1
  have hd1 : decide ((2 : Int) ^ h - 1 ≤ next) = true := decide_eq_true hn
  clear b1 b2 bl hW0 hB hZ hn
  go_enter Tryz.func31, Tryz.ntmps31
  go_wp2_with fail
  rw [← HW.out]
  refine wp_region_all (fun n => W0.drewN n) (by kernel_rfl) (by kernel_rfl) ⟨1, rfl⟩ ?_
  repeat (go_big_quiet_step ((go_at_call 57; exact quiet_left (last (W0.drewN _) g h seed root ph next hs hh S0.out.2.1))))
  refine wpQuiet_nil ?_
  intro n
  go_wp2_with fail
  refine ret2_sg rfl rfl rfl (blk_setRow (blk_drewN (n := n) S0.out.1) (sigV 0 Z (.slice none 0 0))) (by rw [sigV_length, lZ]) rfl ⟨rfl, bel_setRow (bel_drewN S0.out.2.2 n) (by omega) _⟩
end Go.Proofs.YtlgpipdeckdmjaaGreat.Sgn
/-
  base64: the alphabet.
-/
set_option linter.unusedVariables false
set_option linter.unusedSimpArgs false
namespace Go.Proofs.YtlgpipdeckdmjaaGreat.B64
open Go.RowKit Base Reg Types Slice Sha
open Go.Proofs.YtlgpipdeckdmjaaGreat.One
def setRun (L : List Nat) (n lo : Nat) : Nat → List Nat
  | 0 => L
  | k + 1 => (setRun L n lo k).set (n + k) (lo + k)
theorem setRun_length (L : List Nat) (n lo : Nat) : ∀ k, (setRun L n lo k).length = L.length
  | 0 => rfl
  | k + 1 => by rw [setRun, List.length_set, setRun_length L n lo k]
set_option maxRecDepth 20000 in
theorem run (w : World) (A N base lo m n hi : Nat) (L : List Nat) (hL : L.length = 64) (hn : n + m ≤ 64) (hm : lo + m = hi + 1) (hhi : hi ≤ 254) (hA : base ≤ A) (hN : base ≤ N) (hAN : A ≠ N)
    (bA : blk w A (cl .u8 L) 162) (bN : blk w N [.int .i64 (n : Int)] 3) :
    Calls Tryz.prog 116 #[.int .u8 (lo : Int), .int .u8 (hi : Int), .pointer (some ⟨A, 0, none⟩), .pointer (some ⟨N, 0, none⟩)] w fun e w' => e = .returned (.tuple #[]) ∧ blk w' A (cl .u8 (setRun L n lo m)) 162 ∧ blk w' N [.int .i64 ((n + m : Nat) : Int)] 3 ∧ Below base w w' := by
  have S0 := Lib.hid (And.intro bA bN)
  clear bA bN
  go_enter Tryz.func116, Tryz.ntmps116
  go_wp2_with fail
  go_loopw [6] (fun c wr => ∃ k x : Nat, k ≤ m ∧ x = lo + k ∧ c = .int .u8 (x : Int) ∧ blk wr A (cl .u8 (setRun L n lo k)) 162 ∧ blk wr N [.int .i64 ((n + k : Nat) : Int)] 3 ∧ Below base w wr) (fun c _ => hi + 1 - (intOf c).toNat)
  case atStart => exact ⟨0, lo, by omega, by omega, rfl, S0.out.1, S0.out.2, Below.refl _ _⟩
  case round =>
    clear S0
    obtain ⟨k, x, hk, hx, rfl, b1, b2, hb⟩ := hrel
    have hl : (setRun L n lo k).length = 64 := (setRun_length L n lo k).trans hL
    by_cases hk2 : k < m
    · obtain ⟨q, hq⟩ : ∃ q, q = n + k := ⟨_, rfl⟩
      have hxh : x ≤ hi := by omega
      have hw1 : IntKind.u8.wrap ((x : Int) + 1) = (x : Int) + 1 := by rw [IntKind.wrap_u8]; omega
      have hw2 : IntKind.i64.wrap ((q : Int) + 1) = (q : Int) + 1 := by rw [IntKind.wrap_i64]; omega
      rw [← hq] at b2
      have hq64 : q < 64 := by omega
      have c1 : wr.cell? ⟨A, q, none⟩ = some (.int .u8 (((setRun L n lo k).getD q 0 : Nat) : Int)) := (blk_cell b1 q).trans (cl_get _ _ _ (by omega))
      have f1 : wr.frozen? ⟨A, q, none⟩ = false := blk_free b1 q
      have c2 : wr.cell? ⟨N, 0, none⟩ = some (.int .i64 (q : Int)) := (blk_cell b2 0).trans rfl
      have f2 : wr.frozen? ⟨N, 0, none⟩ = false := blk_free b2 0
      have hNA : N ≠ A := fun e => hAN e.symm
      have B1 := Lib.hid b1
      have B2 := Lib.hid b2
      have HX := Lib.hid hx
      have HQ := Lib.hid hq
      have HM := Lib.hid hm
      clear b1 b2 hx hq hm
      go_wp2_with fail
      go_roundw
      case rel =>
        refine ⟨k + 1, x + 1, by omega, by have := HX.out; omega, by go_num, ?_, ?_, bel_setCell (bel_setCell hb hA _) hN _⟩
        · have h := blk_setCell B1.out q (.int .u8 (x : Int))
          rw [cl_set] at h
          have e : setRun L n lo (k + 1) = (setRun L n lo k).set q x := by rw [setRun, HQ.out, HX.out]
          rw [e]
          exact blk_setCell_ne h _ hAN
        · have h := blk_setCell (blk_setCell_ne (a := ⟨A, q, none⟩) B2.out (.int .u8 (x : Int)) hNA) 0 (.int .i64 ((q : Int) + 1))
          have e : ((n + (k + 1) : Nat) : Int) = (q : Int) + 1 := by have := HQ.out; omega
          rw [e]
          exact h
      case measure => simp [intOf]; omega
    · obtain rfl : k = m := by omega
      have hxh : ¬ x ≤ hi := by omega
      have B1 := Lib.hid b1
      have B2 := Lib.hid b2
      clear b1 b2
      go_wp2_with fail
      go_end0
      exact ⟨rfl, B1.out, B2.out, hb⟩
def alphaN : List Nat := setRun (setRun (setRun (setRun (setRun (zs 64) 0 65 26) 26 97 26) 52 48 10) 62 43 1) 63 47 1
theorem alphaN_length : alphaN.length = 64 := by simp only [alphaN, setRun_length, zs_length]
/-- One call of the function value, as the caller writes it. -/
theorem runs (w0 w : World) (lo m n hi : Nat) (L : List Nat) (hL : L.length = 64) (hn : n + m ≤ 64) (hm : lo + m = hi + 1) (hhi : hi ≤ 254) 
    (h : blk w (w0.heap.size + 1) (cl .u8 L) 162 ∧ blk w (w0.heap.size + 1 + 1) [.int .i64 (n : Int)] 3 ∧ blk w w0.heap.size (cl .u8 (zs 64)) 162 ∧ Below w0.heap.size w0 w) :
    Calls Tryz.prog 116 #[.int .u8 (lo : Int), .int .u8 (hi : Int), .pointer (some ⟨w0.heap.size + 1, 0, none⟩), .pointer (some ⟨w0.heap.size + 1 + 1, 0, none⟩)] w fun e w' => e = .returned (.tuple #[]) ∧
      blk w' (w0.heap.size + 1) (cl .u8 (setRun L n lo m)) 162 ∧ blk w' (w0.heap.size + 1 + 1) [.int .i64 ((n + m : Nat) : Int)] 3 ∧ blk w' w0.heap.size (cl .u8 (zs 64)) 162 ∧ Below w0.heap.size w0 w' := by
  obtain ⟨h1, h2, h3, h4⟩ := h
  refine (run w (w0.heap.size + 1) (w0.heap.size + 1 + 1) (w0.heap.size + 1) lo m n hi L hL hn hm hhi (Nat.le_refl _) (by omega) (by omega) h1 h2).mono ?_
  rintro e w' ⟨rfl, g1, g2, g3⟩
  exact ⟨rfl, g1, g2, blk_below h3 g3 (by omega), h4.trans (g3.mono (by omega))⟩
theorem start (w : World) :
    blk (((w.alloc (.cells (cl .u8 (zs 64)).toArray 162)).alloc (.cells (cl .u8 (zs 64)).toArray 162)).alloc (.cells #[.int .i64 0] 3)) (w.heap.size + 1) (cl .u8 (zs 64)) 162 ∧
    blk (((w.alloc (.cells (cl .u8 (zs 64)).toArray 162)).alloc (.cells (cl .u8 (zs 64)).toArray 162)).alloc (.cells #[.int .i64 0] 3)) (w.heap.size + 1 + 1) [.int .i64 ((0 : Nat) : Int)] 3 ∧
    blk (((w.alloc (.cells (cl .u8 (zs 64)).toArray 162)).alloc (.cells (cl .u8 (zs 64)).toArray 162)).alloc (.cells #[.int .i64 0] 3)) w.heap.size (cl .u8 (zs 64)) 162 ∧
    Below w.heap.size w (((w.alloc (.cells (cl .u8 (zs 64)).toArray 162)).alloc (.cells (cl .u8 (zs 64)).toArray 162)).alloc (.cells #[.int .i64 0] 3)) :=
  ⟨blk_alloc (blk_at _ _ _ (by simp only [alloc_size])) _, blk_at _ [.int .i64 0] _ (by simp only [alloc_size]), blk_alloc (blk_alloc (blk_new _ _ _) _) _, (((Below.refl w.heap.size w).alloc (Nat.le_refl _) _).alloc (by simp only [alloc_size]; omega) _).alloc (by simp only [alloc_size]; omega) _⟩
set_option maxRecDepth 20000 in
theorem alphabet (w : World) : Calls Tryz.prog 106 #[] w fun e w' => e = .returned (agg .u8 alphaN) ∧ Below w.heap.size w w' := by
  have hmf : ∀ (fn : Fn) (first cap : Array Value) (w : World), (Instr.makeFunc fn first cap).run Tryz.prog w = .ok (.func fn first cap) w := fun _ _ _ _ => rfl
  go_enter Tryz.func106, Tryz.ntmps106
  have I0 := Lib.hid (start w)
  go_wp2_with fail
  refine (runs w _ 65 26 0 90 _ (zs_length 64) (by decide) (by decide) (by decide) I0.out).mono ?_
  rintro e w1 ⟨rfl, h⟩
  have I1 := Lib.hid h
  clear I0 h
  go_wp2_with fail
  refine (runs w _ 97 26 26 122 _ (by simp only [setRun_length, zs_length]) (by decide) (by decide) (by decide) I1.out).mono ?_
  rintro e w2 ⟨rfl, h⟩
  have I2 := Lib.hid h
  clear I1 h
  go_wp2_with fail
  refine (runs w _ 48 10 52 57 _ (by simp only [setRun_length, zs_length]) (by decide) (by decide) (by decide) I2.out).mono ?_
  rintro e w3 ⟨rfl, h⟩
  have I3 := Lib.hid h
  clear I2 h
  go_wp2_with fail
  refine (runs w _ 43 1 62 43 _ (by simp only [setRun_length, zs_length]) (by decide) (by decide) (by decide) I3.out).mono ?_
  rintro e w4 ⟨rfl, h⟩
  have I4 := Lib.hid h
  clear I3 h
  go_wp2_with fail
  refine (runs w _ 47 1 63 47 _ (by simp only [setRun_length, zs_length]) (by decide) (by decide) (by decide) I4.out).mono ?_
  rintro e w5 ⟨rfl, h⟩
  have ea : setRun (setRun (setRun (setRun (setRun (zs 64) 0 65 26) 26 97 26) 52 48 10) 62 43 1) 63 47 1 = alphaN := rfl
  rw [ea] at h
  clear ea
  have hl := alphaN_length
  obtain ⟨A, hA⟩ : ∃ A, A = alphaN := ⟨_, rfl⟩
  rw [← hA] at h hl
  have HA := Lib.hid hA
  clear hA
  obtain ⟨h1, -, h3, h4⟩ := h
  have k1 := bk_of h1
  have k2 := bk_of h3
  have l1 := blk_lt h1
  have H3 := Lib.hid h3
  have H4 := Lib.hid h4
  clear I4 h1 h3 h4
  go_wp2_with fail
  exact ret_b64 rfl rfl (blk_setRow H3.out (cl .u8 A)) hl rfl ⟨by rw [HA.out], bel_setRow H4.out (Nat.le_refl _) _⟩
end Go.Proofs.YtlgpipdeckdmjaaGreat.B64
/-
  strings.Builder: written byte by byte; its length; its text.
-/
set_option linter.unusedVariables false
set_option linter.unusedSimpArgs false
namespace Go.Proofs.YtlgpipdeckdmjaaGreat.B64
open Go.RowKit Base Reg Types Slice Sha Go.Shelf
open Go.Proofs.YtlgpipdeckdmjaaGreat.One
def ren : Go.Shelf.Ren := ⟨fun | 169 => 110 | n => n, fun | 70 => 164 | 9 => 9 | 0 => 0 | 72 => 166 | 37 => 97 | 127 => 181 | 3 => 3 | 5 => 5 | n => n, fun | n => n⟩
theorem lays : Go.Proofs.Lays.n169 Tryz.prog ren := {
  mixed := by kernel_rfl
  f169 := Tryz.func110.trans (congrArg some (by kernel_rfl))
  t0 := Tryz.underlying0
  a0 := Tryz.isAgg0
  z0 := Tryz.sizeOf0
  v0 := Tryz.zeroValue0
  t3 := Tryz.underlying3
  a3 := Tryz.isAgg3
  z3 := Tryz.sizeOf3
  v3 := Tryz.zeroValue3
  t9 := Tryz.underlying9
  a9 := Tryz.isAgg9
  z9 := Tryz.sizeOf9
  v9 := Tryz.zeroValue9
  t37 := Tryz.underlying97
  a37 := Tryz.isAgg97
  z37 := Tryz.sizeOf97
  v37 := Tryz.zeroValue97
  t70 := Tryz.underlying164
  a70 := Tryz.isAgg164
  z70 := Tryz.sizeOf164
  v70 := Tryz.zeroValue164
  t72 := Tryz.underlying166
  a72 := Tryz.isAgg166
  z72 := Tryz.sizeOf166
  v72 := Tryz.zeroValue166
  t127 := Tryz.underlying181
  a127 := Tryz.isAgg181
  z127 := Tryz.sizeOf181
  v127 := Tryz.zeroValue181 }
theorem extra : Builder.Extra Tryz.prog ren := {
  sizeBuilder := by kernel_rfl
  liesBuilder := by kernel_rfl
  t5 := Tryz.underlying5
  a5 := Tryz.isAgg5
  z5 := Tryz.sizeOf5
  v5 := Tryz.zeroValue5
  infoByte := by kernel_rfl
  cellsByte := by kernel_rfl
  sizeByte := by kernel_rfl
  neB5 := by decide }
/-- A builder of the call's own that holds these bytes; what a call on it leaves. -/
abbrev Bld (B b : Nat) (o : List Nat) (w : World) : Prop := Lib.IsBuilderF 166 5 B b (cl .u8 o) w
abbrev Oth (b : Nat) (w w' : World) : Prop := Lib.OthersKept 5 (some b) w w'
theorem text (B b : Nat) (l : List UInt8) (w : World) (h : Lib.IsBuilderF 166 5 B b (Lib.byteCells l) w) (hB : B ≤ w.heap.size) :
    Calls Tryz.prog 110 #[.pointer (some ⟨b, 0, none⟩)] w fun e w' => e = .returned (.string ⟨l.toArray⟩) ∧ Below B w w' :=
  (Any.Builder_String_any_k (P := Tryz.prog) (ρ := ren) lays extra B b l w h hB).mono fun e w' h => ⟨h.1, h.2.2.1⟩
theorem len (B b : Nat) (o : List Nat) (w : World) (h : Bld B b o w) : Calls Tryz.prog 109 #[.pointer (some ⟨b, 0, none⟩)] w fun e w' => e = .returned (.int .i64 (o.length : Int)) ∧ w = w' := by
  obtain ⟨p, hB, v, hbk, hown, hne⟩ : ∃ p, Lib.BuilderAtF 166 5 B b p (cl .u8 o) w := by
    rcases h with h | h
    · exact ⟨_, h⟩
    · exact ⟨_, h⟩
  have hl := cl_length .u8 o
  obtain ⟨ao, cap, rfl⟩ : ∃ ao cap, v = .slice ao o.length cap := by
    rcases hown.2 with ⟨hv, h0⟩ | ⟨g, cap, cur, fz, hv, _⟩
    · exact ⟨none, 0, by rw [hv, ← hl, h0]⟩
    · exact ⟨_, _, by rw [hv, hl]⟩
  have c1 : w.cell? ⟨b, 1, none⟩ = some (.slice ao o.length cap) := by rw [Lib.cell_of_heap hbk]; rfl
  go_enter Tryz.func109, Tryz.ntmps109
  go_wp2
  go_ret
  exact ⟨rfl, rfl⟩
set_option maxRecDepth 100000 in
set_option maxHeartbeats 1000000 in
theorem check (B b : Nat) (bs : List Value) (w : World) (h : Lib.IsBuilderF 166 5 B b bs w) :
    Calls Tryz.prog 117 #[.pointer (some ⟨b, 0, none⟩)] w fun e w' => e = .returned (.tuple #[]) ∧ (Lib.BuilderAtF 166 5 B b (.pointer (some ⟨b, 0, none⟩)) bs w' ∧ Below B w w' ∧ Oth b w w') := by
  obtain ⟨j, hj, hjs⟩ := Option.map_eq_some_iff.1 (show (Tryz.prog.info? 166).map (·.size) = some 2 by kernel_rfl)
  rcases h with h | h
  · have h0 := h.cell0
    have hsh := h.shape
    have hfz := h.frozen0
    have HH := Lib.hid h
    clear h
    go_enter Tryz.func117, Tryz.ntmps117
    go_wp2
    rw [Lib.run_to_unsafe w ⟨b, 0, none⟩ Tryz.underlying164 Tryz.underlying187 hj (by rw [hjs]; decide) hsh (Nat.zero_lt_succ 1)]
    simp only [Result.andThen]
    rw [Oper.upon_value]
    go_wp2
    rw [run_callFunc_extern Tryz.func121 (by kernel_rfl) (by kernel_rfl) (by kernel_rfl) (e := Extern.AbiNoEscape.same) (by kernel_rfl)]
    rw [Lib.run_noEscape]
    simp only [Result.andThen]
    rw [Oper.upon_value]
    go_wp2
    rw [Lib.run_from_unsafe w ⟨b, 0, none⟩ Tryz.underlying187 Tryz.underlying164 hj hsh (by kernel_rfl)]
    simp only [Result.andThen]
    rw [Oper.upon_value]
    go_wp2
    go_end0
    exact ⟨rfl, HH.out.used _, (Below.refl B w).setCell (p := ⟨b, 0, none⟩) HH.out.1 _, (Lib.OthersKept.refl _ _ w).setCell ⟨b, 0, none⟩ rfl _⟩
  · have h0 := h.cell0
    have HH := Lib.hid h
    clear h
    go_enter Tryz.func117, Tryz.ntmps117
    go_wp2
    rw [Lib.run_neq_ptr_same w _ Tryz.underlying164 hj]
    go_wp2
    go_end0
    exact ⟨rfl, HH.out, Below.refl B _, Lib.OthersKept.refl _ _ _⟩
set_option maxRecDepth 100000 in
set_option maxHeartbeats 2000000 in
theorem write (B b : Nat) (o : List Nat) (c : Nat) (w : World) (h : Bld B b o w) (hlen : o.length ≤ 1000000) (hBw : B ≤ w.heap.size) :
    Calls Tryz.prog 108 #[.pointer (some ⟨b, 0, none⟩), .int .u8 (c : Int)] w fun e w' => e = .returned .nilIface ∧ Bld B b (o ++ [c]) w' ∧ Below B w w' ∧ Oth b w w' := by
  have hl := cl_length .u8 o
  obtain ⟨i0, hi, hz0, hz1, hz2⟩ := info_parts (show (Tryz.prog.info? 5).map (fun i => (i.zero, i.size, i.bytes)) = some (some (.int .u8 0), 1, 1) by kernel_rfl)
  go_enter Tryz.func108, Tryz.ntmps108
  go_wp2_with (go_at_call 117; refine (check B b (cl .u8 o) _ h).mono ?_)
  rintro e w1 ⟨rfl, h1, hb1, hk1⟩
  obtain ⟨hB, v, hbk, hown, hne⟩ := h1
  have c0 : w1.cell? ⟨b, 0, none⟩ = some (.pointer (some ⟨b, 0, none⟩)) := by rw [Lib.cell_of_heap hbk]; rfl
  have c1 : w1.cell? ⟨b, 1, none⟩ = some v := by rw [Lib.cell_of_heap hbk]; rfl
  clear h
  go_wp2_with (at_builtin; refine wpList_append_ownF _ rfl _ _ 97 rfl B 5 i0 (.int .u8 0) 1 1 Tryz.underlying97 hi hz0 hz1 hz2 rfl (by decide) _ _ _ rfl (hown.alloc _) ⟨w1.heap.size, 0, none⟩ 1 1 [.int .u8 (c : Int)] rfl rfl ?c1 ?c2 ?c3 ?c4 ?c5 ?_)
  case c1 =>
    intro j u hj
    match j, hj with
    | 0, hj => simp at hj; subst hj; simp [Addr.add]
  case c2 => intro u hu; simp at hu; subst hu; rfl
  case c3 => unfold maxLen; omega
  case c4 => omega
  case c5 => have := hb1.size; simp; omega
  intro v' w2 hown' hgrow _
  have hlt : b < w1.heap.size := by
    rcases Nat.lt_or_ge b w1.heap.size with h' | h'
    · exact h'
    · simp [Array.getElem?_eq_none h'] at hbk
  have hb2 : w2.heap[b]? = some (.cells #[.pointer (some ⟨b, 0, none⟩), v] 166 (0, 0)) := by
    rw [hgrow.block b (by simp; omega) (fun e => hne e.symm), Lib.alloc_old w1 _ b hlt]
    exact hbk
  have d0 : w2.cell? ⟨b, 0, none⟩ = some (.pointer (some ⟨b, 0, none⟩)) := by rw [Lib.cell_of_heap hb2]; rfl
  have d1 : w2.cell? ⟨b, 1, none⟩ = some v := by rw [Lib.cell_of_heap hb2]; rfl
  have f1 : w2.frozen? ⟨b, 1, none⟩ = false := Lib.frozen_of_heap hb2 1
  obtain ⟨g, cap, rfl⟩ : ∃ g cap, v' = .slice (some ⟨g, 0, none⟩) (o.length + 1) cap := by
    rcases hown'.2 with ⟨_, h0⟩ | ⟨g, cap, cur, fz, hv, _⟩
    · omega
    · exact ⟨g, cap, hv⟩
  have hp : Lib.BuilderAtF 166 5 B b (.pointer (some ⟨b, 0, none⟩)) (cl .u8 (o ++ [c])) (w2.setCell ⟨b, 1, none⟩ (.slice (some ⟨g, 0, none⟩) (o.length + 1) cap)) := by
    rw [← cl_append]
    exact Lib.BuilderAtF.put (T := 166) (e := 5) hB hb2 (bs' := cl .u8 o ++ [.int .u8 (c : Int)]) (by simpa [hl] using hown') (by decide)
  have HP := Lib.hid (And.intro hp (And.intro (((hb1.alloc (by have := hb1.size; omega) _).grown hgrow (by have := hb1.size; simp; omega) (fun k hk => (hown.lt k hk).1)).setCell (p := ⟨b, 1, none⟩) hB (.slice (some ⟨g, 0, none⟩) (o.length + 1) cap)) (((hk1.alloc _).grown hgrow (Lib.ownsRowF_kind (hown.alloc _))).setCell ⟨b, 1, none⟩ rfl (.slice (some ⟨g, 0, none⟩) (o.length + 1) cap))))
  clear hp hown' hgrow
  go_wp2
  go_ret
  exact ⟨rfl, .inr HP.out.1, HP.out.2⟩
end Go.Proofs.YtlgpipdeckdmjaaGreat.B64
