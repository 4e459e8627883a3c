/-
  Several texts laid into one (merge.py): Sso1, Pth1, Tab3, Rsg.
-/
import Derived.Test.YtlgpipdeckdmjaaGreatVf19
import Derived.Test.YtlgpipdeckdmjaaGreatVf15
import Derived.Test.YtlgpipdeckdmjaaGreatVf13
import Derived.Test.YtlgpipdeckdmjaaGreatVf14
import Derived.Test.YtlgpipdeckdmjaaGreatVf12
import Derived.Test.YtlgpipdeckdmjaaGreatVf16
/-
  signer.Sign of a leaf that is out of range.
-/
set_option linter.unusedVariables false
set_option linter.unusedSimpArgs false
namespace Go.Proofs.YtlgpipdeckdmjaaGreat.Rm
open Go.RowKit Base Reg Types Slice Sha
open Go.Proofs.YtlgpipdeckdmjaaGreat.One
open Go.Proofs.YtlgpipdeckdmjaaGreat.Str
open Go.Proofs.YtlgpipdeckdmjaaGreat.Mer
open Go.Proofs.YtlgpipdeckdmjaaGreat.Sgn
theorem sign_out (w : World) (seed d : List Nat) (h : Nat) (leaf : Int) (hs : seed.length = 32) (hd : d.length = 16) (hh : h = 1 ∨ h = 2 ∨ h = 3) (ho : ¬ (0 ≤ leaf ∧ leaf < 2 ^ h)) :
    Calls Tryz.prog 9 #[.agg (secV seed (h : Int)).toArray, .int .i64 leaf, agg .u8 d] w fun e w' => e = .returned (.tuple #[.agg (sigV 0 (zs 560) (.slice none 0 0)).toArray, .int .i64 2]) ∧ Below w.heap.size w w' := by
  have c1 := Lib.hid fun W => secret_check W seed (h : Int) hs (by omega) (by omega)
  have p8 : 2 ^ h ≤ 2 ^ 3 := Nat.pow_le_pow_right (by omega) (by omega)
  have p8' : (2 : Int) ^ h ≤ 8 := by exact_mod_cast p8
  have p0 : (0 : Int) ≤ 2 ^ h := Int.le_of_lt (Int.pow_pos (by decide))
  have h3 : h ≤ 3 := by omega
  obtain ⟨Z, hZ⟩ : ∃ Z, Z = zs 560 := ⟨_, rfl⟩
  have lZ : Z.length = 560 := by rw [hZ, zs_length]
  have b0 := bl0_sg
  have a0 := al_sg
  rw [← hZ] at b0 a0 ⊢
  obtain ⟨W0, hW0⟩ : ∃ W0, W0 = ((w.alloc (.cells (secV seed (h : Int)).toArray 27)).alloc (.cells (cl .u8 d).toArray 23)).alloc (.cells (sigV 0 Z (.slice none 0 0)).toArray 31) := ⟨_, rfl⟩
  have g0 : blk W0 w.heap.size (secV seed (h : Int)) 27 := by rw [hW0]; exact blk_alloc (blk_alloc (blk_new _ _ _) _) _
  have g2 : blk W0 (w.heap.size + 1 + 1) (sigV 0 Z (.slice none 0 0)) 31 := by rw [hW0]; exact blk_at _ _ _ (by simp only [alloc_size])
  have bl : Below w.heap.size w W0 := by rw [hW0]; exact (((Below.refl w.heap.size w).alloc (Nat.le_refl _) _).alloc (by simp only [alloc_size]; omega) _).alloc (by simp only [alloc_size]; omega) _
  have S0 := Lib.hid (And.intro g0 (And.intro g2 bl))
  have HW := Lib.hid hW0
  have hcase : leaf < 0 ∨ (0 ≤ leaf ∧ 2 ^ h ≤ leaf) := by omega
  clear g0 g2 bl hW0 hZ ho hh p8
  rcases hcase with h1 | ⟨h1, h2⟩
  · have d1 : decide (leaf < 0) = true := decide_eq_true h1
    go_enter Tryz.func9, Tryz.ntmps9
    go_wp2_with fail
    rw [← HW.out]
    refine (c1.out _).mono ?_
    rintro e w1 ⟨rfl, hb1⟩
    have S1 := Lib.hid (And.intro (blk_keep S0.out.2.1 hb1) (bel_trans S0.out.2.2 hb1 S0.out.2.2.size))
    have k1 := bk_of S1.out.1
    clear hb1
    go_wp2_with fail
    refine ret2_sg rfl rfl rfl (blk_setRow S1.out.1 (sigV 0 Z (.slice none 0 0))) (by rw [sigV_length, lZ]) rfl ⟨rfl, bel_setRow S1.out.2 (by omega) _⟩
  · have d1 : decide (leaf < 0) = false := decide_eq_false (by omega)
    have d2 : decide ((2 : Int) ^ h ≤ leaf) = true := decide_eq_true h2
    have HH := Lib.hid h2
    clear h2
    go_enter Tryz.func9, Tryz.ntmps9
    go_wp2_with fail
    rw [← HW.out]
    refine (c1.out _).mono ?_
    rintro e w1 ⟨rfl, hb1⟩
    have S1 := Lib.hid (And.intro (blk_keep S0.out.2.1 hb1) (And.intro (blk_keep S0.out.1 hb1) (bel_trans S0.out.2.2 hb1 S0.out.2.2.size)))
    have k1 := bk_of S1.out.1
    have k2 := sec_height hs S1.out.2.1
    clear hb1
    go_wp2_with fail
    refine ret2_sg rfl rfl rfl (blk_setRow S1.out.1 (sigV 0 Z (.slice none 0 0))) (by rw [sigV_length, lZ]) rfl ⟨rfl, bel_setRow S1.out.2.2 (by omega) _⟩
end Go.Proofs.YtlgpipdeckdmjaaGreat.Rm
/-
  The reference of layer 6: Path.
-/
set_option linter.unusedVariables false
set_option linter.unusedSimpArgs false
namespace Go.Proofs.YtlgpipdeckdmjaaGreat.Rm
open Go.RowKit Base Reg Types Slice Sha
open Go.Proofs.YtlgpipdeckdmjaaGreat.One
open Go.Proofs.YtlgpipdeckdmjaaGreat.Str
open Go.Proofs.YtlgpipdeckdmjaaGreat.Mer
attribute [local go_sem ↓ high] run_shr64
set_option maxRecDepth 20000 in
set_option maxHeartbeats 4000000 in
theorem path6 {ns : List (List Nat)} {h : Nat} (hN : N16 ns) (hl : ns.length = 2 ^ h) (hh : h = 1 ∨ h = 2 ∨ h = 3) (w : World) (v : Value) (i : Nat) (hv : SlN w v ns) (hi : i < 2 ^ h) :
    Calls Tryz.prog 42 #[v, .int .i64 (i : Int)] w fun e w' => ∃ x, e = .returned (.tuple #[x, .int .i64 0]) ∧ OwnN 93 w' w.heap.size x (lv0 (pathF ns i) h) ∧ Below w.heap.size w w' := by
  have hh8 : h ≤ 8 := by omega
  have C := Lib.hid (fun (m : Nat) (W : World) (s : Nat) (kI : Int) (hm : m ≤ h) (hs : s < 2 ^ (h - m)) (ek : kI = (s : Int)) (hW : SlN W v ns) => node hN hl hh8 m W v s (m : Int) kI hm hs rfl ek hW)
  have HT := Lib.hid (fun W => height W h hh)
  have h3 : h ≤ 3 := by omega
  have p8 : 2 ^ h ≤ 2 ^ 3 := Nat.pow_le_pow_right (by omega) h3
  have hi8 : i < 8 := by omega
  have hl8 : ns.length ≤ 8 := by omega
  obtain ⟨A, c, rfl, -⟩ := id hv
  obtain ⟨n, hn⟩ : ∃ n, n = ns.length := ⟨_, rfl⟩
  rw [← hl] at HT hi
  have LL := Lib.hid hl
  have HL := Lib.hid (fun m (hm : m < h) => pathF_length (i := i) hN hl hh8 (by rw [← hl]; exact hi) hm)
  have HN := Lib.hid hN
  rw [← hn] at C HT hi ⊢
  have hn8 : n ≤ 8 := by omega
  have HV := Lib.hid (show SlN w (.slice A n c) ns by rw [hn]; exact hv)
  have HE := Lib.hid hn
  clear hv hl hn hh p8 hN
  have g1 : decide ((i : Int) < 0) = false := decide_eq_false (by omega)
  have g2 : decide ((n : Int) ≤ (i : Int)) = false := decide_eq_false (by omega)
  have g3 : decide (n ≤ i) = false := decide_eq_false (by omega)
  go_enter Tryz.func42, Tryz.ntmps42
  go_wp2_with fail
  refine (HT.out _).mono ?_
  rintro e w1 ⟨rfl, rfl⟩
  go_wp2_with fail
  go_loopw [8, 9] (fun x k wr => ∃ m : Nat, m ≤ h ∧ k = .int .i64 (m : Int) ∧ OwnN 93 wr w.heap.size x (lv0 (pathF ns i) m) ∧ Below w.heap.size w wr) (fun _ k _ => h - (intOf k).toNat)
  case atStart => exact ⟨0, by omega, rfl, ownN_nil _ _ _, Below.refl _ _⟩
  case round =>
    obtain ⟨m, hm, rfl, ho, hbel⟩ := hrel
    have HO := Lib.hid ho
    clear ho
    by_cases hm2 : m < h
    · obtain ⟨q, hq⟩ : ∃ q, q = i / 2 ^ m := ⟨_, rfl⟩
      have hq8 : q < 8 := by rw [hq]; exact Nat.lt_of_le_of_lt (Nat.div_le_self _ _) hi8
      have eq1 : (i : Int) / 2 ^ m = (q : Int) := by rw [hq]; norm_cast
      have b0 : (0 : Int) ≤ (i : Int) / 2 ^ m := by omega
      have b1 : (i : Int) / 2 ^ m ≤ 8 := by omega
      have hs := sib_lt (i := i) (h := h) (by rw [← LL.out, ← HE.out]; exact hi) hm2 hh8
      have hx := xor1 q (by omega)
      have lP := HL.out m hm2
      have eP : pathF ns i m = (row ns m).getD (q ^^^ 1) [] := by rw [pathF, hq]
      rw [← hq] at hs
      by_cases hodd : q % 2 = 1
      · rw [if_pos hodd] at hx
        have d1 : (((i : Int) / 2 ^ m).tmod 2 == 0) = false := by rw [eq1, Int.tmod_eq_emod_of_nonneg (by omega)]; simp; omega
        have d2 : ((i : Int) / 2 ^ m % 2 == 0) = false := by rw [eq1]; simp; omega
        have CN := Lib.hid (fun W hW => C.out m W (q - 1) ((i : Int) / 2 ^ m - 1) (by omega) (by rw [← hx]; exact hs) (by rw [eq1]; omega) hW)
        rw [← hx, ← eP] at CN
        obtain ⟨P, hP⟩ : ∃ P, P = pathF ns i m := ⟨_, rfl⟩
        rw [← hP] at CN lP
        have HPP := Lib.hid hP
        have EQ := Lib.hid eq1
        clear hx hP eP hs hq hodd eq1
        go_wp2_with fail
        refine (CN.out wr (HV.out.keep hbel)).mono ?_
        rintro e w2 ⟨rfl, hb2⟩
        have HO2 := Lib.hid (own_keep HO.out hb2)
        have hbel2 := bel_trans hbel hb2 hbel.size
        clear hb2
        go_wp2_with (
          at_builtin
          refine wpList_append_rn rfl (.tmp 43) (.tmp 48) rfl rfl rfl (own_keep HO2.out ((Below.refl _ _).alloc (Nat.le_refl _) _)) lP (blk_new w2 (cl .u8 P) 93) (by rw [lv0_length]; omega) (by have := hbel2.size; simp only [alloc_size]; omega) ?_
          intro v3 w3 ho3 hg3)
        have hb3 := (hbel2.alloc hbel2.size (.cells (cl .u8 P).toArray 93)).grown hg3 (by have := hbel2.size; simp only [alloc_size]; omega) (fun j hj => by have := own_blockN HO2.out j (by simpa [Act.eval] using hj); omega)
        rw [HPP.out, ← lv0_succ] at ho3
        clear hg3
        go_roundw
        case rel => exact ⟨m + 1, by omega, by go_num, ho3, hb3⟩
        case measure => simp [intOf]; omega
      · rw [if_neg hodd] at hx
        have d1 : (((i : Int) / 2 ^ m).tmod 2 == 0) = true := by rw [eq1, Int.tmod_eq_emod_of_nonneg (by omega)]; simp; omega
        have d2 : ((i : Int) / 2 ^ m % 2 == 0) = true := by rw [eq1]; simp; omega
        have CN := Lib.hid (fun W hW => C.out m W (q + 1) ((i : Int) / 2 ^ m + 1) (by omega) (by rw [← hx]; exact hs) (by rw [eq1]; omega) hW)
        rw [← hx, ← eP] at CN
        obtain ⟨P, hP⟩ : ∃ P, P = pathF ns i m := ⟨_, rfl⟩
        rw [← hP] at CN lP
        have HPP := Lib.hid hP
        have EQ := Lib.hid eq1
        clear hx hP eP hs hq hodd eq1
        go_wp2_with fail
        refine (CN.out wr (HV.out.keep hbel)).mono ?_
        rintro e w2 ⟨rfl, hb2⟩
        have HO2 := Lib.hid (own_keep HO.out hb2)
        have hbel2 := bel_trans hbel hb2 hbel.size
        clear hb2
        go_wp2_with (
          at_builtin
          refine wpList_append_rn rfl (.tmp 43) (.tmp 48) rfl rfl rfl (own_keep HO2.out ((Below.refl _ _).alloc (Nat.le_refl _) _)) lP (blk_new w2 (cl .u8 P) 93) (by rw [lv0_length]; omega) (by have := hbel2.size; simp only [alloc_size]; omega) ?_
          intro v3 w3 ho3 hg3)
        have hb3 := (hbel2.alloc hbel2.size (.cells (cl .u8 P).toArray 93)).grown hg3 (by have := hbel2.size; simp only [alloc_size]; omega) (fun j hj => by have := own_blockN HO2.out j (by simpa [Act.eval] using hj); omega)
        rw [HPP.out, ← lv0_succ] at ho3
        clear hg3
        go_roundw
        case rel => exact ⟨m + 1, by omega, by go_num, ho3, hb3⟩
        case measure => simp [intOf]; omega
    · obtain rfl : m = h := by omega
      go_wp2_with fail
      go_ret2
      exact ⟨_, rfl, HO.out, hbel⟩
end Go.Proofs.YtlgpipdeckdmjaaGreat.Rm
/-
  A region that draws its order, by a table: .. with what holds as long as an operation has not been done; each operation says what it keeps. No program.
-/
set_option linter.unusedVariables false
set_option linter.unusedSimpArgs false
namespace Go.Proofs.YtlgpipdeckdmjaaGreat.Ord
open Go.RowKit
section
variable {P : Program}
theorem wp_region_tab3 {id : Nat} {Q : Exit → Act → World → Prop} {w : World} {l : List Oper} (n : Nat) (ds : List Nat) (base : List Value) (S : World → Prop) (Pv : Nat → Value → World → Prop) (Uv : Nat → World → Prop) (hm : P.follows .mixedOrders = true)
    (hk : (Region.sinkB .any l.toArray n && Region.chainB .any l.toArray n && decide (n < l.toArray.size) && topoB .any l.toArray n && Region.seqB .any l.toArray (l.toArray.size - n) n (Array.replicate n true ++ Array.replicate (l.toArray.size - n) false)) = true)
    (hds : (decide (ds.length = n) && decide ds.Nodup && ds.all (fun d => decide (d < base.length))) = true) (hS : S w.drew) (hU : ∀ j, j < n → Uv j w.drew)
    (hop : ∀ i o, i < n → l[i]? = some o → ∀ a w (K : Act → World → Prop), S w → Uv i w → Fix2 ds base a → (∀ e ∈ o.after, Region.binds .any e = true → Pv e.on (a.tmps.getD (ds.getD e.on 0) undef) w) →
      (∀ v w', S w' → Pv i v w' → (∀ j u, j < n → j ≠ i → Pv j u w → Pv j u w') → (∀ j, j < n → j ≠ i → Uv j w → Uv j w') → K (a.put (some (ds.getD i 0)) v) w') → wpList P l.toArray (QK K Q) [o] a w)
    (htail : ∀ a w, S w → Fix2 ds base a → (∀ j, j < n → Pv j (a.tmps.getD (ds.getD j 0) undef) w) → wpList P l.toArray Q (l.drop n) a w) : (Code.region id l.toArray true).wp P Q { tmps := base.toArray, defers := [] } w := by
  simp only [Bool.and_eq_true, decide_eq_true_eq, List.all_eq_true] at hds
  obtain ⟨⟨hl, hnd⟩, hb⟩ := hds
  have hmem : ∀ j, j < n → ds.getD j 0 ∈ ds := fun j hj => by
    rw [List.getD_eq_getElem?_getD, List.getElem?_eq_getElem (by omega)]
    exact List.getElem_mem _
  refine wp_region_inv2 n (fun a w => S w ∧ Fix2 ds base a) (fun j a w => Pv j (a.tmps.getD (ds.getD j 0) undef) w) (fun j _ w => Uv j w) hm hk ⟨hS, Fix2.start _ _⟩ hU ?_ (fun a w hB hG => htail a w hB.1 hB.2 hG)
  intro i o hi ho a w hB hUi hG
  refine hop i o hi ho a w _ hB.1 hUi hB.2 hG ?_
  intro v w' hS' hv hP hUU
  refine ⟨⟨hS', hB.2.put (hmem i hi) v⟩, ?_, ?_⟩
  · show Pv i ((a.tmps.setIfInBounds (ds.getD i 0) v).getD (ds.getD i 0) undef) w'
    rw [getD_set_same _ _ (by rw [hB.2.size]; exact hb _ (hmem i hi))]
    exact hv
  · intro j hj hji
    refine ⟨fun hGj => ?_, fun h => hUU j hj hji h⟩
    show Pv j ((a.tmps.setIfInBounds (ds.getD i 0) v).getD (ds.getD j 0) undef) w'
    have hne : ds.getD j 0 ≠ ds.getD i 0 := fun e => by
      rw [List.getD_eq_getElem?_getD, List.getD_eq_getElem?_getD, List.getElem?_eq_getElem (by omega), List.getElem?_eq_getElem (by omega)] at e
      have e : ds[j]'(by omega) = ds[i]'(by omega) := by simpa using e
      have hp := List.pairwise_iff_getElem.1 hnd
      rcases Nat.lt_or_gt_of_ne hji with h | h
      · exact hp j i (by omega) (by omega) h e
      · exact hp i j (by omega) (by omega) h e.symm
    rw [getD_set_other _ _ hne]
    exact hP j _ hj hji hGj
end
end Go.Proofs.YtlgpipdeckdmjaaGreat.Ord
/-
  The reference of layer 8: Sign. Printed by gen_rsg.py.
-/

set_option linter.unusedVariables false
set_option linter.unusedSimpArgs false
namespace Go.Proofs.YtlgpipdeckdmjaaGreat.Rm
open Go.RowKit Base Reg Types Slice Sha
open Go.Proofs.YtlgpipdeckdmjaaGreat.One
open Go.Proofs.YtlgpipdeckdmjaaGreat.Str
open Go.Proofs.YtlgpipdeckdmjaaGreat.Mer
open Go.Proofs.YtlgpipdeckdmjaaGreat.Sgn
open Go.Proofs.YtlgpipdeckdmjaaGreat.Signed
open Go.Proofs.YtlgpipdeckdmjaaGreat.Ref (ld_rv_at)
theorem bl_rsg_l (l : Int) (w : World) : (blA 36 #[(0, .int .i64 l)]).run Tryz.prog w = .ok (.agg (sigV l (zs 560) (.slice none 0 0)).toArray) w := by kernel_rfl
/-- A value is written into its place among the chains. -/
theorem st_chain_at {w : World} {b k : Nat} {l : Int} {F : Nat → List Nat} {p : Value} {t : TypeId} (h : ∀ c, (F c).length = 16) (hk : k < 35) (hB : blk w b (sigV l (fl F k) p) t) :
    (stA 23 (.pointer (some ⟨b, 1 + k * 16, none⟩)) (agg .u8 (F k))).run Tryz.prog w = .ok () (w.setRow b (sigV l (fl F (k + 1)) p).toArray) := by
  have h1 := run_storeAt_part (P := Tryz.prog) (ty := 23) (vs := cl .u8 (F k)) hB (1 + k * 16) (by rw [cl_length, h]; kernel_rfl) (by rw [sigV_length, cl_length, h, fl_length h (by omega)]; omega) (cl_one _ _)
  have e : Base.splice (sigV l (fl F k) p) (1 + k * 16) (cl .u8 (F k)) = sigV l (fl F (k + 1)) p := by
    have h2 := fl_splice h hk
    unfold Base.splice at h2 ⊢
    have lf : (cl .u8 (fl F k)).length = 560 := by rw [cl_length, fl_length h (by omega)]
    have lc : (cl .u8 (F k)).length = 16 := by rw [cl_length, h]
    rw [lc] at h2 ⊢
    unfold sigV
    rw [Nat.add_comm 1, List.take_succ_cons, List.take_append_of_le_length (by rw [lf]; omega), show k * 16 + 1 + 16 = (16 * k + 16) + 1 by omega, List.drop_succ_cons, List.drop_append_of_le_length (by rw [lf]; omega), Nat.mul_comm k 16]
    simp only [List.cons_append]
    rw [← List.append_assoc, h2]
  rw [e] at h1
  exact h1
def AtG (w w0 : World) (seed d : List Nat) (leaf : Nat) (W : World) : Prop :=
  blk W w.heap.size (cl .u8 seed) 22 ∧ blk W (w.heap.size + 1) (cl .u8 d) 23 ∧ blk W (w.heap.size + 1 + 1) (sigV 0 (zs 560) (.slice none 0 0)) 36 ∧ blk W (w.heap.size + 1 + 1 + 1) (sigV (leaf : Int) (zs 560) (.slice none 0 0)) 36 ∧ Below w.heap.size w W ∧ w0.heap.size ≤ W.heap.size
theorem AtG_keep {w w0 : World} {seed d : List Nat} {leaf : Nat} {W W' : World} (h : AtG w w0 seed d leaf W) (hb : Below W.heap.size W W') : AtG w w0 seed d leaf W' :=
  ⟨blk_keep h.1 hb, blk_keep h.2.1 hb, blk_keep h.2.2.1 hb, blk_keep h.2.2.2.1 hb, bel_trans h.2.2.2.2.1 hb h.2.2.2.2.1.size, Nat.le_trans h.2.2.2.2.2 hb.size⟩
def SgP (w : World) (leaf : Nat) (seed d D S : List Nat) (i : Nat) (v : Value) (W : World) : Prop := match i with
  | 0 => v = agg .u8 seed
  | 1 => v = .int .i64 (leaf : Int)
  | 2 => v = agg .u8 d
  | 3 => v = agg .i64 D
  | 4 => v = agg .u8 S
  | 5 => ∃ q, v = .pointer (some ⟨q, 0, none⟩) ∧ w.heap.size + 1 + 1 + 1 + 1 ≤ q ∧ blk W q (cl .u8 (zs 560)) 85
  | _ => True
theorem SgP_mono (w : World) (leaf : Nat) (seed d D S : List Nat) (i : Nat) (v : Value) (W W' : World) (hb : Below W.heap.size W W') (hQ : SgP w leaf seed d D S i v W) : SgP w leaf seed d D S i v W' := by
  unfold SgP at hQ ⊢
  split at hQ
  · exact hQ
  · exact hQ
  · exact hQ
  · exact hQ
  · exact hQ
  · obtain ⟨q, h1, h2⟩ := hQ
    exact ⟨q, h1, h2.1, blk_keep h2.2 hb⟩
  · exact hQ
def AtS (w w0 : World) (leaf : Nat) (S : List Nat) (p x : Value) (PS : List (List Nat)) (W : World) : Prop :=
  blk W (w.heap.size + 1 + 1) (sigV 0 (zs 560) (.slice none 0 0)) 36 ∧ blk W (w.heap.size + 1 + 1 + 1) (sigV (leaf : Int) S p) 36 ∧ OwnN 93 W w.heap.size x PS ∧ Below w.heap.size w W ∧ w0.heap.size ≤ W.heap.size
theorem AtS_keep {w w0 : World} {leaf : Nat} {S : List Nat} {p x : Value} {PS : List (List Nat)} {W W' : World} (h : AtS w w0 leaf S p x PS W) (hb : Below W.heap.size W W') : AtS w w0 leaf S p x PS W' :=
  ⟨blk_keep h.1 hb, blk_keep h.2.1 hb, own_keep h.2.2.1 hb, bel_trans h.2.2.2.1 hb h.2.2.2.1.size, Nat.le_trans h.2.2.2.2 hb.size⟩
def SrU (w : World) (p : Value) (PS : List (List Nat)) (m j : Nat) (W : World) : Prop := if j = 7 then OwnN 23 W w.heap.size p (PS.take m) else True
theorem SrU_mono {w W W' : World} {p : Value} {PS : List (List Nat)} {m : Nat} (j : Nat) (hb : Below W.heap.size W W') (h : SrU w p PS m j W) : SrU w p PS m j W' := by
  unfold SrU at h ⊢
  by_cases e : j = 7
  · rw [if_pos e] at h ⊢; exact own_keep h hb
  · rw [if_neg e]; trivial
theorem slc_cells {w : World} {size n m c b o : Nat} {xs : List Value} (h : SlC w size (.slice (some ⟨b, o, none⟩) m c) n xs) : ∀ j u, xs[j]? = some u → w.cell? ⟨b, o + j, none⟩ = some u := by
  obtain ⟨A, c', hv, -, -, -, hr⟩ := h
  cases hv
  obtain ⟨b', o', he, -, hcell⟩ := hr _ rfl
  cases he
  exact hcell
theorem own_lt {w : World} {base s n : Nat} {e : TypeId} {v : Value} {xs : List Value} (h : w.ownsRow base e s v n xs) : ∀ k, v.ownBlock = some k → k < w.heap.size := fun k hk => by
  rcases h.2 with ⟨rfl, _⟩ | ⟨g, cap, cur, rfl, _, hh, _⟩
  · cases hk
  · cases hk
    exact (Array.getElem?_eq_some_iff.1 hh).1
def SrP (w w0 : World) (b o m h a5 : Nat) (p : Value) (X : List Nat) (NX : List (List Nat)) (i : Nat) (v : Value) (W : World) : Prop := match i with
  | 0 => v = .pointer (some ⟨w.heap.size + 1 + 1 + 1, 561, none⟩)
  | 1 => v = p
  | 2 => v = .slice (some ⟨b, o, none⟩) h a5
  | 3 => v = .int .i64 (m : Int)
  | 4 => v = .pointer (some ⟨b, o + m * 16, none⟩)
  | 5 => v = agg .u8 X
  | 6 => ∃ b6, v = .slice (some ⟨b6, 0, none⟩) 1 1 ∧ w0.heap.size ≤ b6 ∧ blk W b6 (cl .u8 X) 23
  | 7 => ∃ v7, v = v7 ∧ OwnN 23 W w.heap.size v7 NX
  | 8 => v = .pointer (some ⟨w.heap.size + 1 + 1 + 1, 561, none⟩)
  | _ => True
theorem SrP_mono (w w0 : World) (b o m h a5 : Nat) (p : Value) (X : List Nat) (NX : List (List Nat)) (i : Nat) (v : Value) (W W' : World) (hb : Below W.heap.size W W') (hQ : SrP w w0 b o m h a5 p X NX i v W) : SrP w w0 b o m h a5 p X NX i v W' := by
  unfold SrP at hQ ⊢
  split at hQ
  · exact hQ
  · exact hQ
  · exact hQ
  · exact hQ
  · exact hQ
  · exact hQ
  · obtain ⟨b6, h1, h2⟩ := hQ
    exact ⟨b6, h1, h2.1, blk_keep h2.2 hb⟩
  · obtain ⟨v7, h1, h2⟩ := hQ
    exact ⟨v7, h1, own_keep h2 hb⟩
  · exact hQ
  · exact hQ
attribute [local go_sem] bl_rsg_l
set_option maxRecDepth 20000 in
set_option maxHeartbeats 4000000 in
theorem sign8 (w : World) (seed d : List Nat) (h leaf : Nat) (hs : seed.length = 32) (hd : d.length = 16) (bd : By d) (hh : h = 1 ∨ h = 2 ∨ h = 3) (hleaf : leaf < 2 ^ h) :
    Calls Tryz.prog 13 #[agg .u8 seed, .int .i64 (h : Int), .int .i64 (leaf : Int), agg .u8 d] w fun e w' => ∃ p, e = .returned (.agg (sigV (leaf : Int) (sg seed d leaf) p).toArray) ∧ OwnN 23 w' w.heap.size p (sigPath seed h leaf) ∧ Below w.heap.size w w' := by
  have p8 : 2 ^ h ≤ 2 ^ 3 := Nat.pow_le_pow_right (by omega) (by omega)
  have lsp := sp_length d
  have c1 := Lib.hid fun W => Ref.split W d hd bd
  have c2 := Lib.hid fun W => Ref.values W seed (sp d) leaf hs lsp (fun j => by by_cases hj : j < 35; (rw [sp_getD d j hj]; exact spd_le bd j); (rw [List.getD_eq_getElem?_getD, List.getElem?_eq_none (by rw [lsp]; omega)]; simp)) (by omega)
  rw [show flat (Ref.valF seed (sp d) leaf) 35 = sg seed d leaf from flat_congr fun c hc => by unfold Ref.valF sgnF; rw [sp_getD d c hc]] at c2
  have c3 := Lib.hid fun W => leaves W seed h hs hh
  have c4 : Hid (∀ W x, SlN W x (leavesN seed h) → Calls Tryz.prog 42 #[x, .int .i64 (leaf : Int)] W fun e w' => ∃ y, e = .returned (.tuple #[y, .int .i64 0]) ∧ OwnN 93 w' W.heap.size y (sigPath seed h leaf) ∧ Below W.heap.size W w') := Lib.hid fun W x ho => path6 (leavesN_16 seed h) (leavesN_length seed h) hh W x leaf ho hleaf
  have lS : (sg seed d leaf).length = 560 := sg_length _ _ _
  have lP : (sigPath seed h leaf).length = h := sigPath_length _ _ _
  have nP : N16 (sigPath seed h leaf) := sigPath_16 seed (by omega) hleaf
  obtain ⟨S, hS⟩ : ∃ S, S = sg seed d leaf := ⟨_, rfl⟩
  obtain ⟨PS, hPS⟩ : ∃ PS, PS = sigPath seed h leaf := ⟨_, rfl⟩
  rw [← hS] at c2 lS ⊢
  rw [← hPS] at c4 lP nP ⊢
  obtain ⟨D, hD⟩ : ∃ D, D = sp d := ⟨_, rfl⟩
  rw [← hD] at c1 c2 lsp
  obtain ⟨F, hF⟩ : ∃ F : Nat → List Nat, F = fun c => if c < 35 then elt S c else zs 16 := ⟨_, rfl⟩
  have hl : ∀ c, (F c).length = 16 := fun c => by
    rw [hF]
    by_cases h : c < 35
    · simp [h, elt]; omega
    · simp [h]; rfl
  have hf : ∀ c, c < 35 → F c = elt S c := fun c h => by rw [hF]; simp [h]
  have HL := Lib.hid hl
  have HF := Lib.hid hf
  have HS := Lib.hid lS
  have NP := Lib.hid nP
  have LP := Lib.hid lP
  have h3 : h ≤ 3 := by omega
  have hleaf8 : leaf < 8 := by omega
  clear hS hPS hD hF hl hf nP lP p8 hh hleaf
  obtain ⟨W0, hW0⟩ : ∃ W0, W0 = ((w.alloc (.cells (cl .u8 seed).toArray 22)).alloc (.cells (cl .u8 d).toArray 23)).alloc (.cells (sigV 0 (zs 560) (.slice none 0 0)).toArray 36) := ⟨_, rfl⟩
  have g0 : AtG w (W0.alloc (.cells (sigV (leaf : Int) (zs 560) (.slice none 0 0)).toArray 36)) seed d leaf (W0.alloc (.cells (sigV (leaf : Int) (zs 560) (.slice none 0 0)).toArray 36)) := by
    rw [hW0]
    exact ⟨blk_alloc (blk_alloc (blk_alloc (blk_new _ _ _) _) _) _, blk_alloc (blk_alloc (blk_at _ _ _ (by simp only [alloc_size])) _) _, blk_alloc (blk_at _ _ _ (by simp only [alloc_size])) _, blk_at _ _ _ (by simp only [alloc_size]), ((((Below.refl w.heap.size w).alloc (Nat.le_refl _) _).alloc (by simp only [alloc_size]; omega) _).alloc (by simp only [alloc_size]; omega) _).alloc (by simp only [alloc_size]; omega) _, Nat.le_refl _⟩
  have hz : (W0.alloc (.cells (sigV (leaf : Int) (zs 560) (.slice none 0 0)).toArray 36)).heap.size = w.heap.size + 1 + 1 + 1 + 1 := by rw [hW0]; simp only [alloc_size]
  have G0 := Lib.hid g0
  have HZ := Lib.hid hz
  have HW := Lib.hid hW0
  clear hW0 g0 hz
  go_enter Tryz.func13, Tryz.ntmps13
  go_wp2_with fail
  rw [← HW.out]
  refine Ord.wp_region_tab2 6 [17, 18, 19, 20, 21, 10] [agg IntKind.u8 seed, Value.int IntKind.i64 ↑h, Value.int IntKind.i64 ↑leaf, agg IntKind.u8 d, Value.pointer (some { block := w.heap.size, off := 0 }), undef, undef, Value.pointer (some { block := w.heap.size + 1, off := 0 }), Value.pointer (some { block := w.heap.size + 1 + 1, off := 0 }), Value.pointer (some { block := w.heap.size + 1 + 1 + 1, off := 0 }), undef, undef, undef, undef, undef, Value.int IntKind.i64 ↑leaf, Value.agg (sigV (↑leaf) (zs 560) (Value.slice none 0 0)).toArray, undef, undef, undef, undef, undef, undef, undef, undef, undef, undef, undef, undef, undef, undef, undef, undef, undef, undef, undef, undef, undef, undef, undef, undef, undef, undef, undef, undef, undef, undef, undef, undef, undef, undef, undef, undef, undef, undef, undef] (fun W => AtG w (W0.alloc (.cells (sigV (leaf : Int) (zs 560) (.slice none 0 0)).toArray 36)) seed d leaf W) (SgP w leaf seed d D S) (by kernel_rfl) (by kernel_rfl) (by rfl) (AtG_keep G0.out (Below.refl _ _).drew) (fun i v W W' _ hb hQ => SgP_mono w leaf seed d D S i v W W' hb hQ) ?_ ?_
  · intro i o hi ho a W K hS hF hG hK
    have k0 := bk_of hS.1
    have k1 := bk_of hS.2.1
    match i, hi with
    | 0, _ =>
      cases ho
      have s4 : a.tmps.getD 4 undef = Value.pointer (some { block := w.heap.size, off := 0 }) := hF.slots 4 (by simp) (by decide)
      go_wp2_with fail
      exact hK _ _ hS (Below.refl _ _) (by first | rfl | (show _ = _; simp))
    | 1, _ =>
      cases ho
      have s2 : a.tmps.getD 2 undef = Value.int IntKind.i64 ↑leaf := hF.slots 2 (by simp) (by decide)
      go_wp2_with fail
      exact hK _ _ hS (Below.refl _ _) (by first | rfl | (show _ = _; simp))
    | 2, _ =>
      cases ho
      have s7 : a.tmps.getD 7 undef = Value.pointer (some { block := w.heap.size + 1, off := 0 }) := hF.slots 7 (by simp) (by decide)
      go_wp2_with fail
      exact hK _ _ hS (Below.refl _ _) (by first | rfl | (show _ = _; simp))
    | 3, _ =>
      cases ho
      have s19 : a.tmps.getD 19 undef = agg .u8 d := hG { on := 2, ground := .data } (by simp) rfl
      go_wp2_with fail
      refine (c1.out W).mono ?_
      rintro e W2 ⟨rfl, hb2⟩
      go_wp2_with fail
      exact hK _ _ (AtG_keep hS hb2) hb2 rfl
    | 4, _ =>
      cases ho
      have s17 : a.tmps.getD 17 undef = agg .u8 seed := hG { on := 0, ground := .data } (by simp) rfl
      have s18 : a.tmps.getD 18 undef = .int .i64 (leaf : Int) := hG { on := 1, ground := .data } (by simp) rfl
      have s20 : a.tmps.getD 20 undef = agg .i64 D := hG { on := 3, ground := .data } (by simp) rfl
      go_wp2_with fail
      refine (c2.out W).mono ?_
      rintro e W2 ⟨rfl, hb2⟩
      go_wp2_with fail
      exact hK _ _ (AtG_keep hS hb2) hb2 rfl
    | 5, _ =>
      cases ho
      go_wp2_with fail
      have hb2 := (Below.refl W.heap.size W).alloc (Nat.le_refl _) (.cells (cl .u8 (zs 560)).toArray 85)
      exact hK _ _ (AtG_keep hS hb2) hb2 ⟨_, rfl, by have := hS.2.2.2.2.2; rw [HZ.out] at this; exact this, blk_new _ _ _⟩
    | i + 6, hi => exact absurd hi (by omega)
  · intro a W hS hF hG
    have t17 : a.tmps.getD 17 undef = agg .u8 seed := hG 0 (by omega)
    have t18 : a.tmps.getD 18 undef = .int .i64 (leaf : Int) := hG 1 (by omega)
    have t19 : a.tmps.getD 19 undef = agg .u8 d := hG 2 (by omega)
    have t20 : a.tmps.getD 20 undef = agg .i64 D := hG 3 (by omega)
    have t21 : a.tmps.getD 21 undef = agg .u8 S := hG 4 (by omega)
    obtain ⟨q10, t10, hp10⟩ : SgP w leaf seed d D S 5 (a.tmps.getD 10 undef) W := hG 5 (by omega)
    have fr := Ord.frame_of (L := [agg IntKind.u8 seed, Value.int IntKind.i64 ↑h, Value.int IntKind.i64 ↑leaf, agg IntKind.u8 d, Value.pointer (some { block := w.heap.size, off := 0 }), undef, undef, Value.pointer (some { block := w.heap.size + 1, off := 0 }), Value.pointer (some { block := w.heap.size + 1 + 1, off := 0 }), Value.pointer (some { block := w.heap.size + 1 + 1 + 1, off := 0 }), .pointer (some ⟨q10, 0, none⟩), undef, undef, undef, undef, Value.int IntKind.i64 ↑leaf, Value.agg (sigV (↑leaf) (zs 560) (Value.slice none 0 0)).toArray, agg .u8 seed, .int .i64 (leaf : Int), agg .u8 d, agg .i64 D, agg .u8 S, undef, undef, undef, undef, undef, undef, undef, undef, undef, undef, undef, undef, undef, undef, undef, undef, undef, undef, undef, undef, undef, undef, undef, undef, undef, undef, undef, undef, undef, undef, undef, undef, undef, undef]) hF.defers hF.size (fun k hk => match k, hk with
      | 0, _ => hF.slots 0 (by simp) (by decide)
      | 1, _ => hF.slots 1 (by simp) (by decide)
      | 2, _ => hF.slots 2 (by simp) (by decide)
      | 3, _ => hF.slots 3 (by simp) (by decide)
      | 4, _ => hF.slots 4 (by simp) (by decide)
      | 5, _ => hF.slots 5 (by simp) (by decide)
      | 6, _ => hF.slots 6 (by simp) (by decide)
      | 7, _ => hF.slots 7 (by simp) (by decide)
      | 8, _ => hF.slots 8 (by simp) (by decide)
      | 9, _ => hF.slots 9 (by simp) (by decide)
      | 10, _ => t10
      | 11, _ => hF.slots 11 (by simp) (by decide)
      | 12, _ => hF.slots 12 (by simp) (by decide)
      | 13, _ => hF.slots 13 (by simp) (by decide)
      | 14, _ => hF.slots 14 (by simp) (by decide)
      | 15, _ => hF.slots 15 (by simp) (by decide)
      | 16, _ => hF.slots 16 (by simp) (by decide)
      | 17, _ => t17
      | 18, _ => t18
      | 19, _ => t19
      | 20, _ => t20
      | 21, _ => t21
      | 22, _ => hF.slots 22 (by simp) (by decide)
      | 23, _ => hF.slots 23 (by simp) (by decide)
      | 24, _ => hF.slots 24 (by simp) (by decide)
      | 25, _ => hF.slots 25 (by simp) (by decide)
      | 26, _ => hF.slots 26 (by simp) (by decide)
      | 27, _ => hF.slots 27 (by simp) (by decide)
      | 28, _ => hF.slots 28 (by simp) (by decide)
      | 29, _ => hF.slots 29 (by simp) (by decide)
      | 30, _ => hF.slots 30 (by simp) (by decide)
      | 31, _ => hF.slots 31 (by simp) (by decide)
      | 32, _ => hF.slots 32 (by simp) (by decide)
      | 33, _ => hF.slots 33 (by simp) (by decide)
      | 34, _ => hF.slots 34 (by simp) (by decide)
      | 35, _ => hF.slots 35 (by simp) (by decide)
      | 36, _ => hF.slots 36 (by simp) (by decide)
      | 37, _ => hF.slots 37 (by simp) (by decide)
      | 38, _ => hF.slots 38 (by simp) (by decide)
      | 39, _ => hF.slots 39 (by simp) (by decide)
      | 40, _ => hF.slots 40 (by simp) (by decide)
      | 41, _ => hF.slots 41 (by simp) (by decide)
      | 42, _ => hF.slots 42 (by simp) (by decide)
      | 43, _ => hF.slots 43 (by simp) (by decide)
      | 44, _ => hF.slots 44 (by simp) (by decide)
      | 45, _ => hF.slots 45 (by simp) (by decide)
      | 46, _ => hF.slots 46 (by simp) (by decide)
      | 47, _ => hF.slots 47 (by simp) (by decide)
      | 48, _ => hF.slots 48 (by simp) (by decide)
      | 49, _ => hF.slots 49 (by simp) (by decide)
      | 50, _ => hF.slots 50 (by simp) (by decide)
      | 51, _ => hF.slots 51 (by simp) (by decide)
      | 52, _ => hF.slots 52 (by simp) (by decide)
      | 53, _ => hF.slots 53 (by simp) (by decide)
      | 54, _ => hF.slots 54 (by simp) (by decide)
      | 55, _ => hF.slots 55 (by simp) (by decide)
      | k + 56, hk => absurd hk (by simp))
    subst fr
    clear hF hG t17 t18 t19 t20 t21 t10
    simp only [List.drop_succ_cons, List.drop_zero]
    obtain ⟨hq, hqb⟩ := hp10
    have k10 := bk_of hqb
    have S2 := Lib.hid (show blk (W.setRow q10 (cl .u8 S).toArray) w.heap.size (cl .u8 seed) 22 ∧ blk (W.setRow q10 (cl .u8 S).toArray) (w.heap.size + 1 + 1) (sigV 0 (zs 560) (.slice none 0 0)) 36 ∧ blk (W.setRow q10 (cl .u8 S).toArray) (w.heap.size + 1 + 1 + 1) (sigV (leaf : Int) (zs 560) (.slice none 0 0)) 36 ∧ blk (W.setRow q10 (cl .u8 S).toArray) q10 (cl .u8 S) 85 ∧ Below w.heap.size w (W.setRow q10 (cl .u8 S).toArray) from ⟨blk_setRow_ne hS.1 _ (by omega), blk_setRow_ne hS.2.2.1 _ (by omega), blk_setRow_ne hS.2.2.2.1 _ (by omega), blk_setRow hqb _, bel_setRow hS.2.2.2.2.1 (by omega) _⟩)
    clear hS hqb
    go_wp2_with fail
    go_loopw [11] (fun i wr => ∃ k : Nat, k ≤ 35 ∧ i = .int .i64 (k : Int) ∧ blk wr w.heap.size (cl .u8 seed) 22 ∧ blk wr (w.heap.size + 1 + 1) (sigV 0 (zs 560) (.slice none 0 0)) 36 ∧ blk wr (w.heap.size + 1 + 1 + 1) (sigV (leaf : Int) (fl F k) (.slice none 0 0)) 36 ∧ blk wr q10 (cl .u8 S) 85 ∧ Below w.heap.size w wr) (fun i _ => 35 - (intOf i).toNat)
    case atStart => exact ⟨0, by omega, rfl, S2.out.1, S2.out.2.1, by rw [fl_zero]; exact S2.out.2.2.1, S2.out.2.2.2.1, S2.out.2.2.2.2⟩
    case round =>
      clear S2 k10
      obtain ⟨k, hk, rfl, hb0, hb1, hb2, hb3, hbel⟩ := hrel
      by_cases hk2 : k < 35
      · have r0 := ld_rv_at HS.out hk2 hb3
        have r1 := st_chain_at HL.out hk2 hb2
        rw [HF.out k hk2] at r1
        have r2 : (ldA 84 (.pointer (some ⟨q10, k * 16, none⟩))).run Tryz.prog wr = .ok (agg .u8 (elt S k)) wr := r0
        have l1 := elt_length HS.out hk2
        have HB := Lib.hid (And.intro hb0 (And.intro hb1 (And.intro hb2 hb3)))
        clear hb0 hb1 hb2 hb3 r0
        go_wp2_with fail
        exact ⟨⟨k + 1, by omega, by go_num, blk_setRow_ne HB.out.1 _ (by omega), blk_setRow_ne HB.out.2.1 _ (by omega), blk_setRow HB.out.2.2.1 (sigV (leaf : Int) (fl F (k + 1)) (.slice none 0 0)), blk_setRow_ne HB.out.2.2.2 _ (by omega), bel_setRow hbel (by omega) _⟩, by simp [intOf]; omega⟩
      · obtain rfl : k = 35 := by omega
        rw [show ((35 : Nat) : Int) = 35 from rfl]
        rw [flat_whole HS.out HF.out] at hb2
        have k0 := bk_of hb0
        have T0 := Lib.hid (And.intro hb1 (And.intro hb2 hbel))
        clear hb0 hb1 hb2 hb3 hbel
        obtain ⟨wo, rfl⟩ : ∃ wo : World, wo = wr := ⟨_, rfl⟩
        go_wp2_with fail
        refine (c3.out _).mono ?_
        rintro e w4 ⟨x, rfl, ho4, hb4⟩
        have T4 := Lib.hid (And.intro (blk_keep T0.out.1 hb4) (And.intro (blk_keep T0.out.2.1 hb4) (bel_trans T0.out.2.2 hb4 T0.out.2.2.size)))
        have hx4 := SlC.of_own ho4
        obtain ⟨A4, a4, rfl, -⟩ := id hx4
        have X4 := Lib.hid hx4
        clear hb4 ho4 hx4 k0
        go_wp2_with fail
        refine (c4.out _ _ X4.out).mono ?_
        rintro e w5 ⟨y, rfl, ho5, hb5⟩
        have T5 := Lib.hid (And.intro (blk_keep T4.out.1 hb5) (And.intro (blk_keep T4.out.2.1 hb5) (bel_trans T4.out.2.2 hb5 T4.out.2.2.size)))
        have O5 := Lib.hid (show OwnN 93 w5 w.heap.size y PS from own_mono ho5 T4.out.2.2.size)
        obtain ⟨A5, a5, rfl⟩ := ownN_slice ho5
        rw [LP.out] at O5 ⊢
        clear hb5 ho5
        go_wp2_with fail
        go_loopw [14] (fun i wr => ∃ (m : Nat) (p : Value), m ≤ h ∧ i = .int .i64 (m : Int) ∧ blk wr (w.heap.size + 1 + 1) (sigV 0 (zs 560) (.slice none 0 0)) 36 ∧ blk wr (w.heap.size + 1 + 1 + 1) (sigV (leaf : Int) S p) 36 ∧ OwnN 23 wr w.heap.size p (PS.take m) ∧ OwnN 93 wr w.heap.size (.slice A5 h a5) PS ∧ Below w.heap.size w wr) (fun i _ => h - (intOf i).toNat)
        case atStart => exact ⟨0, _, by omega, rfl, T5.out.1, T5.out.2.1, ownN_nil _ _ _, O5.out, T5.out.2.2⟩
        case round =>
          clear T0 T4 T5 O5 X4
          obtain ⟨m, p, hm, rfl, hb0, hb1, hop, hox, hbel⟩ := hrel
          by_cases hm2 : m < h
          · go_wp2_with fail
            obtain ⟨b, o, c, hbo, hmc, hlt, -⟩ := slc_addr (SlC.of_own hox) (by rw [LP.out]; omega)
            rw [LP.out] at hbo
            cases hbo
            have lX := NP.out.getD (i := m) (by rw [LP.out]; omega)
            obtain ⟨X, hX⟩ : ∃ X, X = PS.getD m [] := ⟨_, rfl⟩
            rw [← hX] at lX
            obtain ⟨NX, hNX⟩ : ∃ NX, NX = PS.take m ++ [X] := ⟨_, rfl⟩
            have HXD := Lib.hid hX
            have HXX := Lib.hid hNX
            have HPB := Lib.hid (own_lt hop)
            obtain ⟨w0, hw0⟩ : ∃ w0, w0 = wr := ⟨_, rfl⟩
            have HW0 := Lib.hid hw0
            rw [← hw0] at HPB
            obtain ⟨x, hx⟩ : ∃ x : Value, x = .slice (some ⟨b, o, none⟩) h a5 := ⟨_, rfl⟩
            rw [← hx] at hox
            clear hX hNX hw0 hlt
            refine Ord.wp_region_tab3 9 [46, 47, 48, 49, 50, 51, 52, 53, 54] [agg IntKind.u8 seed, Value.int IntKind.i64 ↑h, Value.int IntKind.i64 ↑leaf, agg IntKind.u8 d, Value.pointer (some { block := w.heap.size, off := 0 }), undef, undef, Value.pointer (some { block := w.heap.size + 1, off := 0 }), Value.pointer (some { block := w.heap.size + 1 + 1, off := 0 }), Value.pointer (some { block := w.heap.size + 1 + 1 + 1, off := 0 }), Value.pointer (some { block := q10, off := 0 }), Value.int IntKind.i64 35, .slice (some ⟨b, o, none⟩) h a5, Value.int IntKind.i64 0, Value.int IntKind.i64 ↑m, Value.int IntKind.i64 ↑leaf, Value.agg (sigV (↑leaf) (zs 560) (Value.slice none 0 0)).toArray, agg IntKind.u8 seed, Value.int IntKind.i64 ↑leaf, agg IntKind.u8 d, agg IntKind.i64 D, agg IntKind.u8 S, Value.int IntKind.i64 35, Value.bool false, u24, u25, u26, u27, u28, u29, u30, u31, Value.tuple #[.slice (some ⟨b, o, none⟩) h a5, Value.int IntKind.i64 0], Value.agg (cl IntKind.u8 seed).toArray, Value.int IntKind.i64 ↑h, Value.slice A4 (leavesN seed h).length a4, Value.int IntKind.i64 ↑leaf, Value.tuple #[.slice (some ⟨b, o, none⟩) h a5, Value.int IntKind.i64 0], .slice (some ⟨b, o, none⟩) h a5, Value.int IntKind.i64 0, Value.int IntKind.i64 ↑m, .slice (some ⟨b, o, none⟩) h a5, Value.int IntKind.i64 ↑h, Value.bool true, u44, u45, u46, u47, u48, u49, u50, u51, u52, u53, u54, undef] (fun W => AtS w w0 leaf S p x PS W) (SrP w w0 b o m h a5 p X NX) (fun j W => SrU w p PS m j W) (by kernel_rfl) (by kernel_rfl) (by rfl) ⟨blk_drew hb0, blk_drew hb1, own_keep hox (Below.refl _ _).drew, hbel.drew, by rw [HW0.out]; exact Nat.le_refl _⟩ (fun j hj => by unfold SrU; by_cases e : j = 7; (rw [if_pos e]; exact own_keep hop (Below.refl _ _).drew); (rw [if_neg e]; trivial)) ?_ ?_
            · intro i o hi ho a W K hS hU hF hG hK
              have k1 := sig_path HS.out hS.2.1
              have k5 := ld_rn16 (i := m) (W := W) NP.out (by rw [LP.out]; omega) (slc_cells (c := a5) (m := h) (by rw [← hx]; exact SlC.of_own hS.2.2.1))
              rw [← HXD.out] at k5
              match i, hi with
              | 0, _ =>
                cases ho
                have s9 : a.tmps.getD 9 undef = Value.pointer (some { block := w.heap.size + 1 + 1 + 1, off := 0 }) := hF.slots 9 (by simp) (by decide)
                go_wp2_with fail
                exact hK _ _ hS (by first | rfl | (show _ = _; simp)) (fun j u hj _ h => h) (fun j hj _ h => h)
              | 1, _ =>
                cases ho
                have s46 : a.tmps.getD 46 undef = .pointer (some ⟨w.heap.size + 1 + 1 + 1, 561, none⟩) := hG { on := 0, ground := .data } (by simp) rfl
                go_wp2_with fail
                exact hK _ _ hS (by first | rfl | (show _ = _; simp)) (fun j u hj _ h => h) (fun j hj _ h => h)
              | 2, _ =>
                cases ho
                have s12 : a.tmps.getD 12 undef = .slice (some ⟨b, o, none⟩) h a5 := hF.slots 12 (by simp) (by decide)
                go_wp2_with fail
                exact hK _ _ hS (by first | rfl | (show _ = _; simp)) (fun j u hj _ h => h) (fun j hj _ h => h)
              | 3, _ =>
                cases ho
                have s14 : a.tmps.getD 14 undef = Value.int IntKind.i64 ↑m := hF.slots 14 (by simp) (by decide)
                go_wp2_with fail
                exact hK _ _ hS (by first | rfl | (show _ = _; simp)) (fun j u hj _ h => h) (fun j hj _ h => h)
              | 4, _ =>
                cases ho
                have s48 : a.tmps.getD 48 undef = .slice (some ⟨b, o, none⟩) h a5 := hG { on := 2, ground := .data } (by simp) rfl
                have s49 : a.tmps.getD 49 undef = .int .i64 (m : Int) := hG { on := 3, ground := .data } (by simp) rfl
                go_wp2_with fail
                exact hK _ _ hS (by first | rfl | (show _ = _; simp)) (fun j u hj _ h => h) (fun j hj _ h => h)
              | 5, _ =>
                cases ho
                have s50 : a.tmps.getD 50 undef = .pointer (some ⟨b, o + m * 16, none⟩) := hG { on := 4, ground := .data } (by simp) rfl
                go_wp2_with fail
                exact hK _ _ hS (by first | rfl | (show _ = _; simp)) (fun j u hj _ h => h) (fun j hj _ h => h)
              | 6, _ =>
                cases ho
                have s51 : a.tmps.getD 51 undef = agg .u8 X := hG { on := 5, ground := .data } (by simp) rfl
                have g51 := hF.get (by simp) s51
                go_wp2_with fail
                have hb2 := (Below.refl W.heap.size W).alloc (Nat.le_refl _) (.cells (cl .u8 X).toArray 23)
                exact hK _ _ (AtS_keep hS hb2) ⟨_, rfl, hS.2.2.2.2, blk_new _ _ _⟩ (fun j u hj _ hQ => SrP_mono w w0 b o m h a5 p X NX j u W _ hb2 hQ) (fun j hj _ hQ => SrU_mono j hb2 hQ)
              | 7, _ =>
                cases ho
                have s47 : a.tmps.getD 47 undef = p := hG { on := 1, ground := .data } (by simp) rfl
                obtain ⟨b652, s52, hp52⟩ : SrP w w0 b o m h a5 p X NX 6 (a.tmps.getD 52 undef) W := hG { on := 6, ground := .data } (by simp) rfl
                have hU7 : OwnN 23 W w.heap.size p (PS.take m) := hU
                refine wpList_append_val rfl (.tmp 47) (.tmp 52) rfl s47 s52 hU7 lX hp52.2 (by rw [List.length_take]; omega) hS.2.2.2.1.size ?_
                intro v' w' ho' hg'
                have SK := Lib.hid (show AtS w w0 leaf S p x PS w' from ⟨blk_grown hS.1 hg' (own_blk_ne hU7 hS.1 (by decide)), blk_grown hS.2.1 hg' (own_blk_ne hU7 hS.2.1 (by decide)), hS.2.2.1.kept hg' (own_ne hS.2.2.1 hU7 (by decide)), hS.2.2.2.1.grown hg' hS.2.2.2.1.size (fun k hk => own_blockN hU7 k hk), Nat.le_trans hS.2.2.2.2 hg'.size⟩)
                rw [← HXX.out] at ho'
                have HO7 := Lib.hid ho'
                have HG7 := Lib.hid hg'
                clear ho' hg' hU7
                go_wp2_with fail
                refine hK _ _ SK.out ⟨_, rfl, HO7.out⟩ (fun j u hj hji h => ?_) (fun j hj hji h => by show (if j = 7 then _ else True); rw [if_neg hji]; trivial)
                match j, hj with
                | 0, _ => exact h
                | 1, _ => exact h
                | 2, _ => exact h
                | 3, _ => exact h
                | 4, _ => exact h
                | 5, _ => exact h
                | 6, _ =>
                  obtain ⟨b6, e6, h61, h62⟩ := h
                  exact ⟨b6, e6, h61, blk_grown h62 HG7.out (fun e => absurd (HPB.out b6 e.symm) (by omega))⟩
                | 7, _ => exact absurd rfl hji
                | 8, _ => exact h
              | 8, _ =>
                cases ho
                have s9 : a.tmps.getD 9 undef = Value.pointer (some { block := w.heap.size + 1 + 1 + 1, off := 0 }) := hF.slots 9 (by simp) (by decide)
                go_wp2_with fail
                exact hK _ _ hS (by first | rfl | (show _ = _; simp)) (fun j u hj _ h => h) (fun j hj _ h => h)
              | i + 9, hi => exact absurd hi (by omega)
            · intro a W hS hF hG
              have t46 : a.tmps.getD 46 undef = .pointer (some ⟨w.heap.size + 1 + 1 + 1, 561, none⟩) := hG 0 (by omega)
              have t47 : a.tmps.getD 47 undef = p := hG 1 (by omega)
              have t48 : a.tmps.getD 48 undef = .slice (some ⟨b, o, none⟩) h a5 := hG 2 (by omega)
              have t49 : a.tmps.getD 49 undef = .int .i64 (m : Int) := hG 3 (by omega)
              have t50 : a.tmps.getD 50 undef = .pointer (some ⟨b, o + m * 16, none⟩) := hG 4 (by omega)
              have t51 : a.tmps.getD 51 undef = agg .u8 X := hG 5 (by omega)
              obtain ⟨b652, t52, hp52⟩ : SrP w w0 b o m h a5 p X NX 6 (a.tmps.getD 52 undef) W := hG 6 (by omega)
              obtain ⟨v753, t53, hp53⟩ : SrP w w0 b o m h a5 p X NX 7 (a.tmps.getD 53 undef) W := hG 7 (by omega)
              have t54 : a.tmps.getD 54 undef = .pointer (some ⟨w.heap.size + 1 + 1 + 1, 561, none⟩) := hG 8 (by omega)
              have fr := Ord.frame_of (L := [agg IntKind.u8 seed, Value.int IntKind.i64 ↑h, Value.int IntKind.i64 ↑leaf, agg IntKind.u8 d, Value.pointer (some { block := w.heap.size, off := 0 }), undef, undef, Value.pointer (some { block := w.heap.size + 1, off := 0 }), Value.pointer (some { block := w.heap.size + 1 + 1, off := 0 }), Value.pointer (some { block := w.heap.size + 1 + 1 + 1, off := 0 }), Value.pointer (some { block := q10, off := 0 }), Value.int IntKind.i64 35, .slice (some ⟨b, o, none⟩) h a5, Value.int IntKind.i64 0, Value.int IntKind.i64 ↑m, Value.int IntKind.i64 ↑leaf, Value.agg (sigV (↑leaf) (zs 560) (Value.slice none 0 0)).toArray, agg IntKind.u8 seed, Value.int IntKind.i64 ↑leaf, agg IntKind.u8 d, agg IntKind.i64 D, agg IntKind.u8 S, Value.int IntKind.i64 35, Value.bool false, u24, u25, u26, u27, u28, u29, u30, u31, Value.tuple #[.slice (some ⟨b, o, none⟩) h a5, Value.int IntKind.i64 0], Value.agg (cl IntKind.u8 seed).toArray, Value.int IntKind.i64 ↑h, Value.slice A4 (leavesN seed h).length a4, Value.int IntKind.i64 ↑leaf, Value.tuple #[.slice (some ⟨b, o, none⟩) h a5, Value.int IntKind.i64 0], .slice (some ⟨b, o, none⟩) h a5, Value.int IntKind.i64 0, Value.int IntKind.i64 ↑m, .slice (some ⟨b, o, none⟩) h a5, Value.int IntKind.i64 ↑h, Value.bool true, u44, u45, .pointer (some ⟨w.heap.size + 1 + 1 + 1, 561, none⟩), p, .slice (some ⟨b, o, none⟩) h a5, .int .i64 (m : Int), .pointer (some ⟨b, o + m * 16, none⟩), agg .u8 X, .slice (some ⟨b652, 0, none⟩) 1 1, v753, .pointer (some ⟨w.heap.size + 1 + 1 + 1, 561, none⟩), undef]) hF.defers hF.size (fun k hk => match k, hk with
                | 0, _ => hF.slots 0 (by simp) (by decide)
                | 1, _ => hF.slots 1 (by simp) (by decide)
                | 2, _ => hF.slots 2 (by simp) (by decide)
                | 3, _ => hF.slots 3 (by simp) (by decide)
                | 4, _ => hF.slots 4 (by simp) (by decide)
                | 5, _ => hF.slots 5 (by simp) (by decide)
                | 6, _ => hF.slots 6 (by simp) (by decide)
                | 7, _ => hF.slots 7 (by simp) (by decide)
                | 8, _ => hF.slots 8 (by simp) (by decide)
                | 9, _ => hF.slots 9 (by simp) (by decide)
                | 10, _ => hF.slots 10 (by simp) (by decide)
                | 11, _ => hF.slots 11 (by simp) (by decide)
                | 12, _ => hF.slots 12 (by simp) (by decide)
                | 13, _ => hF.slots 13 (by simp) (by decide)
                | 14, _ => hF.slots 14 (by simp) (by decide)
                | 15, _ => hF.slots 15 (by simp) (by decide)
                | 16, _ => hF.slots 16 (by simp) (by decide)
                | 17, _ => hF.slots 17 (by simp) (by decide)
                | 18, _ => hF.slots 18 (by simp) (by decide)
                | 19, _ => hF.slots 19 (by simp) (by decide)
                | 20, _ => hF.slots 20 (by simp) (by decide)
                | 21, _ => hF.slots 21 (by simp) (by decide)
                | 22, _ => hF.slots 22 (by simp) (by decide)
                | 23, _ => hF.slots 23 (by simp) (by decide)
                | 24, _ => hF.slots 24 (by simp) (by decide)
                | 25, _ => hF.slots 25 (by simp) (by decide)
                | 26, _ => hF.slots 26 (by simp) (by decide)
                | 27, _ => hF.slots 27 (by simp) (by decide)
                | 28, _ => hF.slots 28 (by simp) (by decide)
                | 29, _ => hF.slots 29 (by simp) (by decide)
                | 30, _ => hF.slots 30 (by simp) (by decide)
                | 31, _ => hF.slots 31 (by simp) (by decide)
                | 32, _ => hF.slots 32 (by simp) (by decide)
                | 33, _ => hF.slots 33 (by simp) (by decide)
                | 34, _ => hF.slots 34 (by simp) (by decide)
                | 35, _ => hF.slots 35 (by simp) (by decide)
                | 36, _ => hF.slots 36 (by simp) (by decide)
                | 37, _ => hF.slots 37 (by simp) (by decide)
                | 38, _ => hF.slots 38 (by simp) (by decide)
                | 39, _ => hF.slots 39 (by simp) (by decide)
                | 40, _ => hF.slots 40 (by simp) (by decide)
                | 41, _ => hF.slots 41 (by simp) (by decide)
                | 42, _ => hF.slots 42 (by simp) (by decide)
                | 43, _ => hF.slots 43 (by simp) (by decide)
                | 44, _ => hF.slots 44 (by simp) (by decide)
                | 45, _ => hF.slots 45 (by simp) (by decide)
                | 46, _ => t46
                | 47, _ => t47
                | 48, _ => t48
                | 49, _ => t49
                | 50, _ => t50
                | 51, _ => t51
                | 52, _ => t52
                | 53, _ => t53
                | 54, _ => t54
                | 55, _ => hF.slots 55 (by simp) (by decide)
                | k + 56, hk => absurd hk (by simp))
              subst fr
              clear hF hG t46 t47 t48 t49 t50 t51 t52 t53 t54
              simp only [List.drop_succ_cons, List.drop_zero]
              obtain ⟨A7, a7, rfl⟩ := ownN_slice hp53
              have k7 := sig_path HS.out hS.2.1
              have f7 := blk_free hS.2.1 561
              have hn1 := own_blk_ne hp53 hS.1 (by decide)
              have hn2 := own_blk_ne hp53 hS.2.1 (by decide)
              have e7 : PS.take (m + 1) = NX := by rw [HXX.out, HXD.out]; exact (take_getD PS (by rw [LP.out]; omega)).symm
              have S7 := Lib.hid (show blk (W.setCell ⟨w.heap.size + 1 + 1 + 1, 561, none⟩ (.slice A7 NX.length a7)) (w.heap.size + 1 + 1) (sigV 0 (zs 560) (.slice none 0 0)) 36 ∧ blk (W.setCell ⟨w.heap.size + 1 + 1 + 1, 561, none⟩ (.slice A7 NX.length a7)) (w.heap.size + 1 + 1 + 1) (sigV (leaf : Int) S (.slice A7 NX.length a7)) 36 ∧ OwnN 23 (W.setCell ⟨w.heap.size + 1 + 1 + 1, 561, none⟩ (.slice A7 NX.length a7)) w.heap.size (.slice A7 NX.length a7) (PS.take (m + 1)) ∧ OwnN 93 (W.setCell ⟨w.heap.size + 1 + 1 + 1, 561, none⟩ (.slice A7 NX.length a7)) w.heap.size x PS ∧ Below w.heap.size w (W.setCell ⟨w.heap.size + 1 + 1 + 1, 561, none⟩ (.slice A7 NX.length a7)) from ⟨blk_setCell_ne hS.1 _ (by simp), by
                  have h := blk_setCell hS.2.1 561 (.slice A7 NX.length a7)
                  rw [sigV_set _ _ _ _ HS.out] at h
                  exact h, by rw [e7]; exact own_setCell hp53 hn2, own_setCell hS.2.2.1 (own_blk_ne hS.2.2.1 hS.2.1 (by decide)), bel_setCell hS.2.2.2.1 (by simp; omega) _⟩)
              have HX2 := Lib.hid hx
              clear hS hp52 hp53 hn1 hn2 e7 hx
              go_wp2_with fail
              go_roundw
              case rel => exact ⟨m + 1, _, by omega, by go_num, S7.out.1, S7.out.2.1, S7.out.2.2.1, by rw [← HX2.out]; exact S7.out.2.2.2.1, S7.out.2.2.2.2⟩
              case measure => simp [intOf]; omega
          · obtain rfl : m = h := by omega
            rw [List.take_of_length_le (by rw [LP.out]; omega)] at hop
            obtain ⟨Ap, ap, rfl⟩ := ownN_slice hop
            have k0 := bk_of hb0
            have k1 := bk_of hb1
            have B0 := Lib.hid (And.intro hb0 (And.intro hb1 hbel))
            have OP := Lib.hid hop
            have OX := Lib.hid hox
            clear hb0 hb1 hop hox hbel
            go_wp2_with fail
            have hne := own_blk_ne OP.out B0.out.1 (by decide)
            refine ret_rsg rfl rfl (blk_setRow B0.out.1 (sigV (leaf : Int) S (.slice Ap PS.length ap))) (by rw [sigV_length, HS.out]) rfl ⟨_, rfl, own_setRow OP.out hne, bel_setRow B0.out.2.2 (by omega) _⟩
end Go.Proofs.YtlgpipdeckdmjaaGreat.Rm
