/-
  onetime: the functions of a chain's number.
-/
import Derived.Test.YtlgpipdeckdmjaaOne7
set_option linter.unusedVariables false
set_option linter.unusedSimpArgs false
namespace Go.Proofs.Ytlgpipdeckdmjaa.One
open Go.RowKit Base Reg Types Slice Sha
set_option maxRecDepth 20000 in
theorem public_of (w : World) (seed : List Nat) (leaf c gl gs : Nat) (hs : seed.length = 32) (hleaf : leaf ≤ 65535) (hc : c < 35) (hL : blk w gl [.int .i64 (leaf : Int)] 3) (hS : blk w gs (cl .u8 seed) 31) :
    Calls Try.prog 80 #[.int .i64 (c : Int), .pointer (some ⟨gl, 0, none⟩), .pointer (some ⟨gs, 0, none⟩)] w fun e w' => e = .returned (agg .u8 (adv leaf c 0 15 (sec seed leaf c))) ∧ Below w.heap.size w w' := by
  have ltl := blk_lt hL
  have lts := blk_lt hS
  go_enter Try.func80, Try.ntmps80
  obtain ⟨ι, F, hF, hin⟩ := class_of (fun W => blk W gl [.int .i64 (leaf : Int)] 3 ∧ blk W gs (cl .u8 seed) 31 ∧ blk W w.heap.size (cl .u8 (zs 16)) 22 ∧ Below w.heap.size w W)
  have h0 := hin (w.alloc (.cells (cl .u8 (zs 16)).toArray 22)).drew ⟨blk_drew (blk_alloc hL _), blk_drew (blk_alloc hS _), blk_drew (blk_new _ _ _), ((Below.refl _ _).alloc (Nat.le_refl _) _).drew⟩
  have hne : Nonempty ι := ⟨h0.choose⟩
  have q0 : ∀ i, (F i).cell? ⟨gl, 0, none⟩ = some (.int .i64 (leaf : Int)) := fun i => (blk_cell (hF i).1 0).trans rfl
  have q1 : ∀ i, bk (F i) gs = some (cl .u8 seed).toArray := fun i => bk_of (hF i).2.1
  have q2 : ∀ i, bk (F i) w.heap.size = some (cl .u8 (zs 16)).toArray := fun i => bk_of (hF i).2.2.1
  have HF := Lib.hid hF
  have HI := Lib.hid hin
  have H0 := Lib.hid h0
  have l1 := sec_length seed leaf c
  have l2 := adv_length leaf c 0 15 (sec seed leaf c) l1
  clear hF hin h0 hL hS
  go_wp2_with fail
  refine wp_region_tail F 7 (by kernel_rfl) (by kernel_rfl) H0.out ?_
  simp only [List.take_succ_cons, List.take_zero, List.drop_succ_cons, List.drop_zero]
  repeat (go_big_quiet_step (first
    | (go_at_call 63; exact quiet_below HF.out HI.out (fun _ _ h hb => ⟨blk_keep h.1 hb, blk_keep h.2.1 hb, blk_keep h.2.2.1 hb, bel_trans h.2.2.2 hb h.2.2.2.size⟩) (secret _ seed leaf c hs hleaf (by omega)))
    | (go_at_call 68; exact quiet_below HF.out HI.out (fun _ _ h hb => ⟨blk_keep h.1 hb, blk_keep h.2.1 hb, blk_keep h.2.2.1 hb, bel_trans h.2.2.2 hb h.2.2.2.size⟩) (advance _ leaf c 0 15 (sec seed leaf c) l1 hleaf (by omega) (by omega) 15 rfl))))
  refine wpQuiet_nil ?_
  intro i
  go_wp2_with fail
  refine ret_b16 rfl rfl (blk_setRow (HF.out i).2.2.1 (cl .u8 (adv leaf c 0 15 (sec seed leaf c)))) l2 rfl ⟨rfl, bel_setRow (HF.out i).2.2.2 (Nat.le_refl _) _⟩
set_option maxRecDepth 20000 in
theorem sign_of (w : World) (seed : List Nat) (D : List Nat) (leaf c gl gd gs : Nat) (hD : D.length = 35) (hD15 : ∀ j, D.getD j 0 ≤ 15) (hs : seed.length = 32) (hleaf : leaf ≤ 65535) (hc : c < 35) (hL : blk w gl [.int .i64 (leaf : Int)] 3) (hDB : blk w gd (cl .i64 D) 27) (hS : blk w gs (cl .u8 seed) 31) :
    Calls Try.prog 81 #[.int .i64 (c : Int),   .pointer (some ⟨gl, 0, none⟩), .pointer (some ⟨gd, 0, none⟩), .pointer (some ⟨gs, 0, none⟩)] w fun e w' => e = .returned (agg .u8 (adv leaf c 0 (D.getD c 0) (sec seed leaf c))) ∧ Below w.heap.size w w' := by
  have ltl := blk_lt hL
  have ltd := blk_lt hDB
  obtain ⟨x, hx⟩ : ∃ x, x = D.getD c 0 := ⟨_, rfl⟩
  have hx15 : x ≤ 15 := by rw [hx]; exact hD15 c
  rw [← hx]
  have lts := blk_lt hS
  go_enter Try.func81, Try.ntmps81
  obtain ⟨ι, F, hF, hin⟩ := class_of (fun W => blk W gl [.int .i64 (leaf : Int)] 3 ∧ blk W gd (cl .i64 D) 27 ∧ blk W gs (cl .u8 seed) 31 ∧ blk W w.heap.size (cl .u8 (zs 16)) 22 ∧ Below w.heap.size w W)
  have h0 := hin (w.alloc (.cells (cl .u8 (zs 16)).toArray 22)).drew ⟨blk_drew (blk_alloc hL _), blk_drew (blk_alloc hDB _), blk_drew (blk_alloc hS _), blk_drew (blk_new _ _ _), ((Below.refl _ _).alloc (Nat.le_refl _) _).drew⟩
  have hne : Nonempty ι := ⟨h0.choose⟩
  have q0 : ∀ i, (F i).cell? ⟨gl, 0, none⟩ = some (.int .i64 (leaf : Int)) := fun i => (blk_cell (hF i).1 0).trans rfl
  have q1 : ∀ i, bk (F i) gs = some (cl .u8 seed).toArray := fun i => bk_of (hF i).2.2.1
  have q2 : ∀ i, bk (F i) w.heap.size = some (cl .u8 (zs 16)).toArray := fun i => bk_of (hF i).2.2.2.1
  have q3 : ∀ i, (F i).cell? ⟨gd, c, none⟩ = some (.int .i64 ((x : Nat) : Int)) := fun i => (blk_cell (hF i).2.1 c).trans (by rw [hx]; exact cl_get _ _ _ (by omega))
  have HF := Lib.hid hF
  have HI := Lib.hid hin
  have H0 := Lib.hid h0
  have l1 := sec_length seed leaf c
  have l2 := adv_length leaf c 0 (x) (sec seed leaf c) l1
  have HX := Lib.hid hx
  clear hF hin h0 hL hS hDB hx
  go_wp2_with fail
  refine wp_region_tail F 10 (by kernel_rfl) (by kernel_rfl) H0.out ?_
  simp only [List.take_succ_cons, List.take_zero, List.drop_succ_cons, List.drop_zero]
  repeat (go_big_quiet_step (first
    | (go_at_call 63; exact quiet_below HF.out HI.out (fun _ _ h hb => ⟨blk_keep h.1 hb, blk_keep h.2.1 hb, blk_keep h.2.2.1 hb, blk_keep h.2.2.2.1 hb, bel_trans h.2.2.2.2 hb h.2.2.2.2.size⟩) (secret _ seed leaf c hs hleaf (by omega)))
    | (go_at_call 68; exact quiet_below HF.out HI.out (fun _ _ h hb => ⟨blk_keep h.1 hb, blk_keep h.2.1 hb, blk_keep h.2.2.1 hb, blk_keep h.2.2.2.1 hb, bel_trans h.2.2.2.2 hb h.2.2.2.2.size⟩) (advance _ leaf c 0 x (sec seed leaf c) l1 hleaf (by omega) (by omega) x (by rw [Nat.zero_add])))))
  refine wpQuiet_nil ?_
  intro i
  go_wp2_with fail
  refine ret_b16 rfl rfl (blk_setRow (HF.out i).2.2.2.1 (cl .u8 (adv leaf c 0 (x) (sec seed leaf c)))) l2 rfl ⟨rfl, bel_setRow (HF.out i).2.2.2.2 (Nat.le_refl _) _⟩
theorem ld_at {W : World} {gs c : Nat} {s : List Nat} {t : TypeId} (hs : s.length = 560) (hc : c < 35) (h : blk W gs (cl .u8 s) t) : (ldA 22 (.pointer (some ⟨gs, c * 16, none⟩))).run Try.prog W = .ok (agg .u8 ((s.drop (c * 16)).take 16)) W := by
  have h1 := run_loadAt_part (P := Try.prog) (ty := 22) h (c * 16) 16 (d := (Try.prog.underlying 22).get (by kernel_rfl)) (by kernel_rfl) (by kernel_rfl) (by kernel_rfl) (by rw [cl_length, hs]; omega)
  rw [cl_drop, cl_take] at h1
  exact h1
set_option maxRecDepth 20000 in
theorem ends_of (w : World) (seed : List Nat) (D : List Nat) (leaf c gl gd gs : Nat) (hD : D.length = 35) (hD15 : ∀ j, D.getD j 0 ≤ 15) (hs : seed.length = 560) (hleaf : leaf ≤ 65535) (hc : c < 35) (hL : blk w gl [.int .i64 (leaf : Int)] 3) (hDB : blk w gd (cl .i64 D) 27) (hS : blk w gs (cl .u8 seed) 68) :
    Calls Try.prog 95 #[.int .i64 (c : Int),   .pointer (some ⟨gl, 0, none⟩), .pointer (some ⟨gd, 0, none⟩), .pointer (some ⟨gs, 0, none⟩)] w fun e w' => e = .returned (agg .u8 (adv leaf c (D.getD c 0) (15 - D.getD c 0) ((seed.drop (c * 16)).take 16))) ∧ Below w.heap.size w w' := by
  have ltl := blk_lt hL
  have ltd := blk_lt hDB
  obtain ⟨x, hx⟩ : ∃ x, x = D.getD c 0 := ⟨_, rfl⟩
  have hx15 : x ≤ 15 := by rw [hx]; exact hD15 c
  rw [← hx]
  have lts := blk_lt hS
  go_enter Try.func95, Try.ntmps95
  obtain ⟨ι, F, hF, hin⟩ := class_of (fun W => blk W gl [.int .i64 (leaf : Int)] 3 ∧ blk W gd (cl .i64 D) 27 ∧ blk W gs (cl .u8 seed) 68 ∧ blk W w.heap.size (cl .u8 (zs 16)) 22 ∧ Below w.heap.size w W)
  have h0 := hin (w.alloc (.cells (cl .u8 (zs 16)).toArray 22)).drew ⟨blk_drew (blk_alloc hL _), blk_drew (blk_alloc hDB _), blk_drew (blk_alloc hS _), blk_drew (blk_new _ _ _), ((Below.refl _ _).alloc (Nat.le_refl _) _).drew⟩
  have hne : Nonempty ι := ⟨h0.choose⟩
  have q0 : ∀ i, (F i).cell? ⟨gl, 0, none⟩ = some (.int .i64 (leaf : Int)) := fun i => (blk_cell (hF i).1 0).trans rfl
  have q1 : ∀ i, (ldA 22 (.pointer (some ⟨gs, c * 16, none⟩))).run Try.prog (F i) = .ok (agg .u8 ((seed.drop (c * 16)).take 16)) (F i) := fun i => ld_at hs hc (hF i).2.2.1
  have q2 : ∀ i, bk (F i) w.heap.size = some (cl .u8 (zs 16)).toArray := fun i => bk_of (hF i).2.2.2.1
  have q3 : ∀ i, (F i).cell? ⟨gd, c, none⟩ = some (.int .i64 ((x : Nat) : Int)) := fun i => (blk_cell (hF i).2.1 c).trans (by rw [hx]; exact cl_get _ _ _ (by omega))
  have HF := Lib.hid hF
  have HI := Lib.hid hin
  have H0 := Lib.hid h0
  have l1 : ((seed.drop (c * 16)).take 16).length = 16 := by simp; omega
  have l2 := adv_length leaf c x (15 - x) ((seed.drop (c * 16)).take 16) l1
  have HX := Lib.hid hx
  clear hF hin h0 hL hS hDB hx
  go_wp2_with fail
  refine wp_region_tail F 9 (by kernel_rfl) (by kernel_rfl) H0.out ?_
  simp only [List.take_succ_cons, List.take_zero, List.drop_succ_cons, List.drop_zero]
  repeat (go_big_quiet_step (first
    | (go_at_call 68; exact quiet_below HF.out HI.out (fun _ _ h hb => ⟨blk_keep h.1 hb, blk_keep h.2.1 hb, blk_keep h.2.2.1 hb, blk_keep h.2.2.2.1 hb, bel_trans h.2.2.2.2 hb h.2.2.2.2.size⟩) (advance _ leaf c x (15 - x) ((seed.drop (c * 16)).take 16) l1 hleaf (by omega) (by omega) 15 (by omega)))))
  refine wpQuiet_nil ?_
  intro i
  go_wp2_with fail
  refine ret_b16 rfl rfl (blk_setRow (HF.out i).2.2.2.1 (cl .u8 (adv leaf c x (15 - x) ((seed.drop (c * 16)).take 16)))) l2 rfl ⟨rfl, bel_setRow (HF.out i).2.2.2.2 (Nat.le_refl _) _⟩
end Go.Proofs.Ytlgpipdeckdmjaa.One
