/-
  Several texts laid into one (merge.py): Sgn4, Rm6, Rm7.
-/
import Derived.Test.YtlgpipdeckdmjaaGreatVf15
/-
  signer: the nodes and the value of a signature.
-/
set_option linter.unusedVariables false
set_option linter.unusedSimpArgs false
namespace Go.Proofs.YtlgpipdeckdmjaaGreat.Sgn
open Go.RowKit Base Reg Types Slice Sha
open Go.Proofs.YtlgpipdeckdmjaaGreat.One
open Go.Proofs.YtlgpipdeckdmjaaGreat.Str
open Go.Proofs.YtlgpipdeckdmjaaGreat.Mer
open Go.Proofs.YtlgpipdeckdmjaaGreat.Signed
set_option maxRecDepth 20000 in
set_option maxHeartbeats 4000000 in
theorem nodes (w : World) (l : Int) (ch : List Nat) (p : Value) (ps : List (List Nat)) (hc : ch.length = 560) (hp : SlN w p ps) (hN : N16 ps) (hn : ps.length ≤ 1000) :
    Calls Tryz.prog 47 #[.agg (sigV l ch p).toArray] w fun e w' => ∃ x, e = .returned x ∧ OwnN 81 w' w.heap.size x ps ∧ Below w.heap.size w w' := by
  obtain ⟨Ap, cp, rfl, -⟩ := id hp
  have q0 := sig_path hc (blk_new w (sigV l ch (.slice Ap ps.length cp)) 31)
  obtain ⟨n, hne⟩ : ∃ n, n = ps.length := ⟨_, rfl⟩
  have HE := Lib.hid hne
  have HP := Lib.hid hp
  have HN := Lib.hid hN
  rw [← hne] at q0 hn ⊢
  clear hp hN hne
  go_enter Tryz.func47, Tryz.ntmps47
  go_wp2_with fail
  go_loopw [3, 9] (fun x k wr => ∃ m : Nat, m ≤ n ∧ k = .int .i64 (m : Int) ∧ OwnN 81 wr w.heap.size x (ps.take m) ∧ Below w.heap.size w wr) (fun _ k _ => n - (intOf k).toNat)
  case atStart => exact ⟨0, by omega, rfl, ownN_nil _ _ _, (Below.refl w.heap.size w).alloc (Nat.le_refl _) _⟩
  case round =>
    clear q0
    obtain ⟨m, hm, rfl, ho, hb⟩ := hrel
    by_cases hmn : m < n
    · obtain ⟨b, o, c', hbo, hmc, hlt, hcl⟩ := slc_addr HP.out (by rw [← HE.out]; omega)
      cases hbo
      have q1 := ld_val (i := m) HN.out (by rw [← HE.out]; omega) (fun j u hj => (hb.cell (p := ⟨b, o + j, none⟩) hlt).trans (hcl j u hj))
      have lX := HN.out.getD (i := m) (by rw [← HE.out]; omega)
      have eT := take_getD ps (k := m) (by rw [← HE.out]; omega)
      obtain ⟨X, hX⟩ : ∃ X, X = ps.getD m [] := ⟨_, rfl⟩
      rw [← hX] at q1 lX eT
      have lt : (ps.take m).length = m := by rw [List.length_take, ← HE.out]; omega
      have HO := Lib.hid ho
      have ET := Lib.hid eT
      have LT := Lib.hid lt
      clear ho eT hX hcl lt
      go_wp2_with (
        at_builtin
        refine wpList_append_node rfl (.tmp 13) (.tmp 15) rfl rfl rfl (own_keep (own_keep HO.out ((Below.refl _ _).alloc (Nat.le_refl _) (.cells (cl .u8 X).toArray 23))) ((Below.refl _ _).alloc (Nat.le_refl _) (.cells (cl .u8 X).toArray 81))) lX (blk_at (wr.alloc (.cells (cl .u8 X).toArray 23)) (cl .u8 X) 81 (b := wr.heap.size + 1) (by simp only [alloc_size])) (by rw [LT.out]; omega) (by have := hb.size; simp only [alloc_size]; omega) ?_
        intro v2 w2 ho2 hg2)
      have hb2 := ((hb.alloc hb.size (.cells (cl .u8 X).toArray 23)).alloc (by have := hb.size; simp only [alloc_size]; omega) (.cells (cl .u8 X).toArray 81)).grown hg2 (by have := hb.size; simp only [alloc_size]; omega) (fun j hj => own_blockN HO.out j (by simpa [Act.eval] using hj))
      rw [ET.out] at ho2
      clear hg2
      go_roundw
      case rel => exact ⟨m + 1, by omega, by go_num, ho2, hb2⟩
      case measure => simp [intOf]; omega
    · obtain rfl : m = n := by omega
      rw [List.take_of_length_le (by rw [← HE.out]; omega)] at ho
      have HO := Lib.hid ho
      clear ho
      go_wp2_with fail
      go_ret
      exact ⟨_, rfl, HO.out, hb⟩
/-- The chains within a signature. -/
theorem ld_chains {W : World} {g : Nat} {l : Int} {ch : List Nat} {p : Value} {t : TypeId} (hc : ch.length = 560) (hB : blk W g (sigV l ch p) t) : (ldA 28 (.pointer (some ⟨g, 1, none⟩))).run Tryz.prog W = .ok (agg .u8 ch) W := by
  have h1 := run_loadAt_part (P := Tryz.prog) (ty := 28) hB 1 560 (d := (Tryz.prog.underlying 28).get (by kernel_rfl)) (by kernel_rfl) (by kernel_rfl) (by kernel_rfl) (by rw [sigV_length, hc]; omega)
  rw [show ((sigV l ch p).drop 1).take 560 = cl .u8 ch by unfold sigV; rw [List.drop_succ_cons, List.drop_zero, List.take_left' (by rw [cl_length, hc])]] at h1
  exact h1
/-- The public value that chains lead to. -/
def valN (ch d : List Nat) (leaf : Nat) : List Nat := cmp leaf (flat (endF ch d leaf) 35)
theorem valN_length (ch d : List Nat) (leaf : Nat) : (valN ch d leaf).length = 16 := cmp_length _ _
set_option maxRecDepth 20000 in
theorem value (w : World) (leaf : Nat) (ch d : List Nat) (A : Option Addr) (n c : Nat) (hc : ch.length = 560) (hd : d.length = 16) (bd : By d) (hleaf : leaf ≤ 65535) :
    Calls Tryz.prog 44 #[.agg (sigV (leaf : Int) ch (.slice A n c)).toArray, agg .u8 d] w fun e w' => e = .returned (agg .u8 (valN ch d leaf)) ∧ Below w.heap.size w w' := by
  obtain ⟨V, hV⟩ : ∃ V, V = valN ch d leaf := ⟨_, rfl⟩
  have lV : V.length = 16 := by rw [hV]; exact valN_length _ _ _
  have c1 : Hid (∀ W, Calls Tryz.prog 77 #[.int .i64 (leaf : Int), agg .u8 d, agg .u8 ch] W fun e w' => e = .returned (.tuple #[agg .u8 V, .int .i64 0]) ∧ Below W.heap.size W w') := Lib.hid fun W => by rw [hV]; exact Recover_in W leaf d ch hc hd bd hleaf
  rw [← hV]
  clear hV
  obtain ⟨W0, hW0⟩ : ∃ W0, W0 = ((w.alloc (.cells (sigV (leaf : Int) ch (.slice A n c)).toArray 31)).alloc (.cells (cl .u8 d).toArray 23)).alloc (.cells (cl .u8 (zs 16)).toArray 23) := ⟨_, rfl⟩
  have b0 : blk W0 w.heap.size (sigV (leaf : Int) ch (.slice A n c)) 31 := by rw [hW0]; exact blk_alloc (blk_alloc (blk_new _ _ _) _) _
  have b1 : blk W0 (w.heap.size + 1) (cl .u8 d) 23 := by rw [hW0]; exact blk_alloc (blk_at _ _ _ (by simp only [alloc_size])) _
  have b2 : blk W0 (w.heap.size + 1 + 1) (cl .u8 (zs 16)) 23 := by rw [hW0]; exact blk_at _ _ _ (by simp only [alloc_size])
  have bl : Below w.heap.size w W0 := by rw [hW0]; exact (((Below.refl w.heap.size w).alloc (Nat.le_refl _) _).alloc (by simp only [alloc_size]; omega) _).alloc (by simp only [alloc_size]; omega) _
  have q0 := sig_leaf b0
  have q1 := ld_chains hc b0
  have k1 := bk_of b1
  rw [hW0] at q0 q1 k1
  have S0 := Lib.hid (And.intro b2 bl)
  have HW := Lib.hid hW0
  clear b0 b1 b2 bl hW0
  go_enter Tryz.func44, Tryz.ntmps44
  go_wp2_with fail
  rw [← HW.out]
  refine (c1.out _).mono ?_
  rintro e w1 ⟨rfl, hb1⟩
  have R1 := Lib.hid (blk_keep S0.out.1 hb1)
  have L1 := Lib.hid (bel_trans S0.out.2 hb1 S0.out.2.size)
  have k2 := bk_of R1.out
  have lt := blk_lt R1.out
  clear hb1 q0 q1 k1
  go_wp2_with fail
  have hb4 := bel_setRow L1.out (by omega : w.heap.size ≤ w.heap.size + 1 + 1) (cl .u8 V).toArray
  refine ret_b16 rfl rfl (blk_alloc (blk_setRow R1.out (cl .u8 V)) _) lV rfl ⟨rfl, hb4.alloc hb4.size _⟩
end Go.Proofs.YtlgpipdeckdmjaaGreat.Sgn
/-
  The reference of layer 8: Check, Value.
-/
set_option linter.unusedVariables false
set_option linter.unusedSimpArgs false
namespace Go.Proofs.YtlgpipdeckdmjaaGreat.Rm
open Go.RowKit Base Reg Types Slice Sha
open Go.Proofs.YtlgpipdeckdmjaaGreat.One
open Go.Proofs.YtlgpipdeckdmjaaGreat.Str
open Go.Proofs.YtlgpipdeckdmjaaGreat.Mer
open Go.Proofs.YtlgpipdeckdmjaaGreat.Sgn
set_option maxRecDepth 20000 in
theorem check8 (w : World) (l : Int) (ch : List Nat) (A : Option Addr) (n c : Nat) (hc : ch.length = 560) (h1 : 1 ≤ n) (h2 : n ≤ 8) (h3 : 0 ≤ l) (h4 : l < 2 ^ n) :
    Calls Tryz.prog 18 #[.agg (sigV l ch (.slice A n c)).toArray] w fun e w' => e = .returned (.int .i64 0) ∧ Below w.heap.size w w' := by
  obtain ⟨ι, F, hF, hin⟩ := class_of (fun W => blk W w.heap.size (sigV l ch (.slice A n c)) 36 ∧ Below w.heap.size w W)
  have h0 := hin (w.alloc (.cells (sigV l ch (.slice A n c)).toArray 36)).drew ⟨blk_drew (blk_new _ _ _), ((Below.refl _ _).alloc (Nat.le_refl _) _).drew⟩
  have hne : Nonempty ι := ⟨h0.choose⟩
  have q0 : ∀ i, (F i).cell? ⟨w.heap.size, 0, none⟩ = some (.int .i64 l) := fun i => sig_leaf (hF i).1
  have q1 : ∀ i, (F i).cell? ⟨w.heap.size, 561, none⟩ = some (.slice A n c) := fun i => sig_path hc (hF i).1
  have q2 : (w.alloc (.cells (sigV l ch (.slice A n c)).toArray 36)).cell? ⟨w.heap.size, 561, none⟩ = some (.slice A n c) := sig_path hc (blk_new _ _ _)
  have HF := Lib.hid hF
  have HI := Lib.hid hin
  have HH := Lib.hid h0
  clear hF hin h0
  have p8' : (2 : Int) ^ n ≤ 256 := by
    have p8 : 2 ^ n ≤ 2 ^ 8 := Nat.pow_le_pow_right (by omega) h2
    exact_mod_cast p8
  have d1 : decide ((n : Int) < 1) = false := by simp; omega
  have d2 : decide ((8 : Int) < n) = false := by simp; omega
  have h5 : decide (l < 0) = false := by simp; omega
  have h6 : decide ((2 : Int) ^ n ≤ l) = false := by simp; omega
  go_enter Tryz.func18, Tryz.ntmps18
  go_wp2_with fail
  refine wp_region_all F (by kernel_rfl) (by kernel_rfl) HH.out ?_
  repeat (go_big_quiet_step (fail))
  refine wpQuiet_nil ?_
  intro i
  go_wp2_with fail
  go_ret
  exact ⟨rfl, (HF.out i).2⟩
set_option maxRecDepth 20000 in
theorem check8_out (w : World) (l : Int) (ch : List Nat) (A : Option Addr) (n c : Nat) (hc : ch.length = 560) (ho : ¬ ((1 ≤ n ∧ n ≤ 8) ∧ 0 ≤ l ∧ l < 2 ^ n)) :
    Calls Tryz.prog 18 #[.agg (sigV l ch (.slice A n c)).toArray] w fun e w' => e = .returned (.int .i64 2) ∧ Below w.heap.size w w' := by
  obtain ⟨ι, F, hF, hin⟩ := class_of (fun W => blk W w.heap.size (sigV l ch (.slice A n c)) 36 ∧ Below w.heap.size w W)
  have h0 := hin (w.alloc (.cells (sigV l ch (.slice A n c)).toArray 36)).drew ⟨blk_drew (blk_new _ _ _), ((Below.refl _ _).alloc (Nat.le_refl _) _).drew⟩
  have hne : Nonempty ι := ⟨h0.choose⟩
  have q0 : ∀ i, (F i).cell? ⟨w.heap.size, 0, none⟩ = some (.int .i64 l) := fun i => sig_leaf (hF i).1
  have q1 : ∀ i, (F i).cell? ⟨w.heap.size, 561, none⟩ = some (.slice A n c) := fun i => sig_path hc (hF i).1
  have q2 : (w.alloc (.cells (sigV l ch (.slice A n c)).toArray 36)).cell? ⟨w.heap.size, 561, none⟩ = some (.slice A n c) := sig_path hc (blk_new _ _ _)
  have HF := Lib.hid hF
  have HI := Lib.hid hin
  have HH := Lib.hid h0
  clear hF hin h0
  have HO := Lib.hid ho
  clear ho
  by_cases n0 : n = 0
  · subst n0
    go_enter Tryz.func18, Tryz.ntmps18
    go_wp2_with fail
    refine wp_region_all F (by kernel_rfl) (by kernel_rfl) HH.out ?_
    repeat (go_big_quiet_step (fail))
    refine wpQuiet_nil ?_
    intro i
    go_wp2_with fail
    go_ret
    exact ⟨rfl, (HF.out i).2⟩
  by_cases n8 : 8 < n
  · have d1 : decide ((n : Int) < 1) = false := by simp; omega
    have d2 : decide ((8 : Int) < n) = true := by simp; omega
    clear n0 n8
    go_enter Tryz.func18, Tryz.ntmps18
    go_wp2_with fail
    refine wp_region_all F (by kernel_rfl) (by kernel_rfl) HH.out ?_
    repeat (go_big_quiet_step (fail))
    refine wpQuiet_nil ?_
    intro i
    go_wp2_with fail
    go_ret
    exact ⟨rfl, (HF.out i).2⟩
  have p8' : (2 : Int) ^ n ≤ 256 := by
    have p8 : 2 ^ n ≤ 2 ^ 8 := Nat.pow_le_pow_right (by omega) (by omega)
    exact_mod_cast p8
  have p9 : (0 : Int) ≤ 2 ^ n := Int.le_of_lt (Int.pow_pos (by decide))
  have d1 : decide ((n : Int) < 1) = false := by simp; omega
  have d2 : decide ((8 : Int) < n) = false := by simp; omega
  by_cases hl : l < 0
  · have h5 : decide (l < 0) = true := by simp; omega
    clear hl n0 n8
    go_enter Tryz.func18, Tryz.ntmps18
    go_wp2_with fail
    refine wp_region_all F (by kernel_rfl) (by kernel_rfl) HH.out ?_
    repeat (go_big_quiet_step (fail))
    refine wpQuiet_nil ?_
    intro i
    go_wp2_with fail
    go_ret
    exact ⟨rfl, (HF.out i).2⟩
  · have h5 : decide (l < 0) = false := by simp; omega
    have h6 : decide ((2 : Int) ^ n ≤ l) = true := by
      have := HO.out
      simp
      omega
    have hl : 0 ≤ l := by omega
    have n8' : n ≤ 8 := by omega
    clear n0 n8
    go_enter Tryz.func18, Tryz.ntmps18
    go_wp2_with fail
    refine wp_region_all F (by kernel_rfl) (by kernel_rfl) HH.out ?_
    repeat (go_big_quiet_step (fail))
    refine wpQuiet_nil ?_
    intro i
    go_wp2_with fail
    go_ret
    exact ⟨rfl, (HF.out i).2⟩
end Go.Proofs.YtlgpipdeckdmjaaGreat.Rm
/-
  The reference of layer 8: Value.
-/
set_option linter.unusedVariables false
set_option linter.unusedSimpArgs false
namespace Go.Proofs.YtlgpipdeckdmjaaGreat.Rm
open Go.RowKit Base Reg Types Slice Sha
open Go.Proofs.YtlgpipdeckdmjaaGreat.One
open Go.Proofs.YtlgpipdeckdmjaaGreat.Str
open Go.Proofs.YtlgpipdeckdmjaaGreat.Mer
open Go.Proofs.YtlgpipdeckdmjaaGreat.Sgn
open Go.Proofs.YtlgpipdeckdmjaaGreat.Ref (flat_elt st_rv_at)
theorem elt_length {s : List Nat} {k : Nat} (hs : s.length = 560) (hk : k < 35) : (elt s k).length = 16 := by unfold elt; simp; omega
theorem ld_chain_at {W : World} {g k : Nat} {l : Int} {ch : List Nat} {p : Value} {t : TypeId} (hc : ch.length = 560) (hk : k < 35) (hB : blk W g (sigV l ch p) t) : (ldA 23 (.pointer (some ⟨g, 1 + k * 16, none⟩))).run Tryz.prog W = .ok (agg .u8 (elt ch k)) W := by
  have h1 := run_loadAt_part (P := Tryz.prog) (ty := 23) hB (1 + k * 16) 16 (d := (Tryz.prog.underlying 23).get (by kernel_rfl)) (by kernel_rfl) (by kernel_rfl) (by kernel_rfl) (by rw [sigV_length, hc]; omega)
  rw [show ((sigV l ch p).drop (1 + k * 16)).take 16 = cl .u8 (elt ch k) by
    unfold sigV elt
    rw [Nat.add_comm, List.drop_succ_cons, List.drop_append_of_le_length (by rw [cl_length, hc]; omega), List.take_append_of_le_length (by rw [List.length_drop, cl_length, hc]; omega), cl_drop, cl_take]] at h1
  exact h1
theorem flat_whole {s : List Nat} (hs : s.length = 560) {F : Nat → List Nat} (hF : ∀ c, c < 35 → F c = elt s c) : Go.Proofs.YtlgpipdeckdmjaaGreat.One.fl F 35 = s := by
  rw [fl_full, show flat F 35 = flat (elt s) 35 from Signed.flat_congr hF, flat_elt s hs 35 (Nat.le_refl _), List.take_of_length_le (by omega)]
set_option maxRecDepth 20000 in
set_option maxHeartbeats 4000000 in
theorem value8 (w : World) (leaf : Nat) (ch d : List Nat) (A : Option Addr) (n c : Nat) (hc : ch.length = 560) (hd : d.length = 16) (bd : By d) (hleaf : leaf ≤ 65535) :
    Calls Tryz.prog 49 #[agg .u8 d, .agg (sigV (leaf : Int) ch (.slice A n c)).toArray] w fun e w' => e = .returned (agg .u8 (valN ch d leaf)) ∧ Below w.heap.size w w' := by
  obtain ⟨F, hF⟩ : ∃ F : Nat → List Nat, F = fun c => if c < 35 then elt ch c else zs 16 := ⟨_, rfl⟩
  have hl : ∀ c, (F c).length = 16 := fun c => by
    rw [hF]
    by_cases h : c < 35
    · simp [h, elt]; omega
    · simp [h]; rfl
  have hf : ∀ c, c < 35 → F c = elt ch c := fun c h => by rw [hF]; simp [h]
  have HL := Lib.hid hl
  have HF := Lib.hid hf
  clear hl hF hf
  have HC := Lib.hid hc
  have c1 : Hid (∀ W, Calls Tryz.prog 81 #[.int .i64 (leaf : Int), agg .u8 d, agg .u8 ch] W fun e w' => e = .returned (agg .u8 (flat (endF ch d leaf) 35)) ∧ Below W.heap.size W w') := Lib.hid fun W => Ref.last W ch d leaf hc hd bd hleaf
  have lE := flat_length (endF_length hc d leaf) 35
  have c2 : Hid (∀ W, Calls Tryz.prog 75 #[.int .i64 (leaf : Int), agg .u8 (flat (endF ch d leaf) 35)] W fun e w' => e = .returned (agg .u8 (valN ch d leaf)) ∧ Below W.heap.size W w') := Lib.hid fun W => Ref.compress W leaf _ lE hleaf
  have lV := valN_length ch d leaf
  obtain ⟨V, hV⟩ : ∃ V, V = valN ch d leaf := ⟨_, rfl⟩
  obtain ⟨E, hE⟩ : ∃ E, E = flat (endF ch d leaf) 35 := ⟨_, rfl⟩
  rw [← hV] at c2 lV ⊢
  rw [← hE] at c1 c2 lE
  clear hV hE
  go_enter Tryz.func49, Tryz.ntmps49
  go_wp2_with fail
  go_loopw [6] (fun i wr => ∃ k : Nat, k ≤ 35 ∧ i = .int .i64 k ∧ blk wr w.heap.size (cl .u8 d) 23 ∧ blk wr (w.heap.size + 1) (sigV (leaf : Int) ch (.slice A n c)) 36 ∧ blk wr (w.heap.size + 1 + 1) (cl .u8 (zs 16)) 23 ∧ blk wr (w.heap.size + 1 + 1 + 1) (cl .u8 (fl F k)) 85 ∧ Below w.heap.size w wr) (fun i _ => 35 - (intOf i).toNat)
  case atStart => exact ⟨0, by omega, rfl, blk_alloc (blk_alloc (blk_alloc (blk_new _ _ _) _) _) _, blk_alloc (blk_alloc (blk_at _ _ _ (by simp only [alloc_size])) _) _, blk_alloc (blk_at _ _ _ (by simp only [alloc_size])) _, by rw [fl_zero]; exact blk_at _ _ _ (by simp only [alloc_size]), ((((Below.refl _ _).alloc (Nat.le_refl _) _).alloc (by simp only [alloc_size]; omega) _).alloc (by simp only [alloc_size]; omega) _).alloc (by simp only [alloc_size]; omega) _⟩
  case round =>
    obtain ⟨k, hk, rfl, hb0, hb1, hb2, hb3, hbel⟩ := hrel
    by_cases hk2 : k < 35
    · have q0 := ld_chain_at HC.out hk2 hb1
      have q1 := st_rv_at HL.out hk2 hb3
      rw [HF.out k hk2] at q1
      have l1 := elt_length HC.out hk2
      have HB := Lib.hid (And.intro hb0 (And.intro hb1 (And.intro hb2 hb3)))
      clear hb0 hb1 hb2 hb3
      go_wp2_with fail
      exact ⟨⟨k + 1, by omega, by go_num, blk_setRow_ne HB.out.1 _ (by omega), blk_setRow_ne HB.out.2.1 _ (by omega), blk_setRow_ne HB.out.2.2.1 _ (by omega), blk_setRow HB.out.2.2.2 (cl .u8 (fl F (k + 1))), bel_setRow hbel (by omega) _⟩, by simp [intOf]; omega⟩
    · obtain rfl : k = 35 := by omega
      rw [flat_whole HC.out HF.out] at hb3
      obtain ⟨ι, G, hG, hin⟩ := class_of (fun W => blk W w.heap.size (cl .u8 d) 23 ∧ blk W (w.heap.size + 1) (sigV (leaf : Int) ch (.slice A n c)) 36 ∧ blk W (w.heap.size + 1 + 1) (cl .u8 (zs 16)) 23 ∧ blk W (w.heap.size + 1 + 1 + 1) (cl .u8 ch) 85 ∧ Below w.heap.size w W)
      have h0 := hin wr.drew ⟨blk_drew hb0, blk_drew hb1, blk_drew hb2, blk_drew hb3, hbel.drew⟩
      have hne : Nonempty ι := ⟨h0.choose⟩
      have q0 : ∀ i, bk (G i) w.heap.size = some (cl .u8 d).toArray := fun i => bk_of (hG i).1
      have q1 : ∀ i, (G i).cell? ⟨w.heap.size + 1, 0, none⟩ = some (.int .i64 (leaf : Int)) := fun i => sig_leaf (hG i).2.1
      have q2 : ∀ i, bk (G i) (w.heap.size + 1 + 1) = some (cl .u8 (zs 16)).toArray := fun i => bk_of (hG i).2.2.1
      have q3 : ∀ i, bk (G i) (w.heap.size + 1 + 1 + 1) = some (cl .u8 ch).toArray := fun i => bk_of (hG i).2.2.2.1
      have HG := Lib.hid hG
      have HI := Lib.hid hin
      have H0 := Lib.hid h0
      clear hG hin h0 hb0 hb1 hb2 hb3 hbel
      go_wp2_with fail
      refine wp_region_tail G 8 (by kernel_rfl) (by kernel_rfl) H0.out ?_
      simp only [List.take_succ_cons, List.take_zero, List.drop_succ_cons, List.drop_zero]
      repeat (go_big_quiet_step (first
        | (go_at_call 81; exact quiet_below HG.out HI.out (fun _ _ h hb => ⟨blk_keep h.1 hb, blk_keep h.2.1 hb, blk_keep h.2.2.1 hb, blk_keep h.2.2.2.1 hb, bel_trans h.2.2.2.2 hb h.2.2.2.2.size⟩) (c1.out _))
        | (go_at_call 75; exact quiet_below HG.out HI.out (fun _ _ h hb => ⟨blk_keep h.1 hb, blk_keep h.2.1 hb, blk_keep h.2.2.1 hb, blk_keep h.2.2.2.1 hb, bel_trans h.2.2.2.2 hb h.2.2.2.2.size⟩) (c2.out _))))
      refine wpQuiet_nil ?_
      intro i
      go_wp2_with fail
      refine ret_b16 rfl rfl (blk_setRow (HG.out i).2.2.1 (cl .u8 V)) lV rfl ⟨rfl, bel_setRow (HG.out i).2.2.2.2 (by omega) _⟩
end Go.Proofs.YtlgpipdeckdmjaaGreat.Rm
