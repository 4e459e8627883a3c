/-
  onetime: the ends that a signature leads to.
-/
import Derived.Test.YtlgpipdeckdmjaaOne8
import Derived.Test.YtlgpipdeckdmjaaOne5
set_option linter.unusedVariables false
set_option linter.unusedSimpArgs false
namespace Go.Proofs.Ytlgpipdeckdmjaa.One
open Go.RowKit Base Reg Types Slice Sha
/-- Part c of a flat list of values. -/
def elt (s : List Nat) (c : Nat) : List Nat := (s.drop (c * 16)).take 16
def endF (s d : List Nat) (leaf c : Nat) : List Nat := if c < 35 then adv leaf c (spd d c) (15 - spd d c) (elt s c) else zs 16
theorem endF_length {s : List Nat} (hs : s.length = 560) (d : List Nat) (leaf c : Nat) : (endF s d leaf c).length = 16 := by
  unfold endF
  split
  · refine adv_length _ _ _ _ _ ?_
    unfold elt
    simp
    omega
  · rfl
theorem sp_le {d : List Nat} (h : By d) (j : Nat) : (sp d).getD j 0 ≤ 15 := by
  by_cases hj : j < 35
  · rw [sp_getD d j hj]; exact spd_le h j
  · rw [List.getD_eq_getElem?_getD, List.getElem?_eq_none (by rw [sp_length]; omega)]; decide
set_option maxRecDepth 20000 in
theorem ends (w : World) (s d : List Nat) (leaf : Nat) (hs : s.length = 560) (hd : d.length = 16) (bd : By d) (hleaf : leaf ≤ 65535) :
    Calls Try.prog 78 #[agg .u8 s, .int .i64 (leaf : Int), agg .u8 d] w fun e w' => e = .returned (agg .u8 (flat (endF s d leaf) 35)) ∧ Below w.heap.size w w' := by
  go_enter Try.func78, Try.ntmps78
  go_wp2_with fail
  obtain ⟨W0, hW0⟩ : ∃ W0, W0 = ((((w.alloc (.cells (cl .u8 s).toArray 68)).alloc (.cells #[.int .i64 (leaf : Int)] 3)).alloc (.cells (cl .u8 d).toArray 22)).alloc (.cells (cl .u8 (zs 560)).toArray 55)) := ⟨_, rfl⟩
  have b0 : blk W0 w.heap.size (cl .u8 s) 68 := by rw [hW0]; exact blk_alloc (blk_alloc (blk_alloc (blk_new _ _ _) _) _) _
  have b1 : blk W0 (w.heap.size + 1) [.int .i64 (leaf : Int)] 3 := by rw [hW0]; exact blk_alloc (blk_alloc (blk_at _ [.int .i64 (leaf : Int)] _ (by simp only [alloc_size])) _) _
  have b3 : blk W0 (w.heap.size + 1 + 1 + 1) (cl .u8 (zs 560)) 55 := by rw [hW0]; exact blk_at _ _ _ (by simp only [alloc_size])
  have bl : Below w.heap.size w W0 := by rw [hW0]; exact ((((Below.refl w.heap.size w).alloc (Nat.le_refl _) _).alloc (by simp only [alloc_size]; omega) _).alloc (by simp only [alloc_size]; omega) _).alloc (by simp only [alloc_size]; omega) _
  rw [← hW0]
  clear hW0
  refine (split W0 d hd bd).mono ?_
  rintro e w1 ⟨rfl, hb1⟩
  have A0 := Lib.hid (blk_alloc (blk_keep b0 hb1) (.cells (cl .i64 (sp d)).toArray 27))
  have A1 := Lib.hid (blk_alloc (blk_keep b1 hb1) (.cells (cl .i64 (sp d)).toArray 27))
  have A3 := Lib.hid (blk_alloc (blk_keep b3 hb1) (.cells (cl .i64 (sp d)).toArray 27))
  have AD := Lib.hid (blk_new w1 (cl .i64 (sp d)) 27)
  have AL := Lib.hid ((bel_trans bl hb1 bl.size).alloc (by have := bel_trans bl hb1 bl.size; exact this.size) (.cells (cl .i64 (sp d)).toArray 27))
  have ld := sp_length d
  clear hb1 b0 b1 b3 bl
  go_wp2_with fail
  refine (each_ends _ (endF s d leaf) _ _ _ (endF_length hs d leaf) (fun c hc W hb => by
    have h := ends_of W s (sp d) leaf c (w.heap.size + 1) w1.heap.size w.heap.size ld (sp_le bd) hs hleaf hc (blk_keep A1.out hb) (blk_keep AD.out hb) (blk_keep A0.out hb)
    rw [sp_getD d c hc] at h
    have e : endF s d leaf c = adv leaf c (spd d c) (15 - spd d c) ((s.drop (c * 16)).take 16) := by rw [endF, if_pos hc, elt]
    rw [e]
    exact h)).mono ?_
  rintro e w2 ⟨rfl, hb2⟩
  have B3 := blk_keep A3.out hb2
  have k3 := bk_of B3
  have BL := bel_trans AL.out hb2 AL.out.size
  have lf := flat_length (endF_length hs d leaf) 35
  clear hb2
  go_wp2_with fail
  refine ret_bs rfl rfl (blk_setRow B3 (cl .u8 (flat (endF s d leaf) 35))) lf rfl ⟨rfl, bel_setRow BL (by omega) _⟩
end Go.Proofs.Ytlgpipdeckdmjaa.One
