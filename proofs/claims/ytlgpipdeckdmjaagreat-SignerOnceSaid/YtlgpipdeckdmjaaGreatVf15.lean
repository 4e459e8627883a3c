/-
  Several texts laid into one (merge.py): Sgn3, Rm4, Rm5.
-/
import Derived.Test.YtlgpipdeckdmjaaGreatVf14
import Derived.Test.YtlgpipdeckdmjaaGreatVf09
import Derived.Laws.CopyOwn
/-
  signer.Sign.
-/
set_option linter.unusedVariables false
set_option linter.unusedSimpArgs false
namespace Go.Proofs.YtlgpipdeckdmjaaGreat.Sgn
open Go.RowKit Base Reg Types Slice Sha
open Go.Proofs.YtlgpipdeckdmjaaGreat.One
open Go.Proofs.YtlgpipdeckdmjaaGreat.Str
open Go.Proofs.YtlgpipdeckdmjaaGreat.Mer
open Go.Proofs.YtlgpipdeckdmjaaGreat.Signed
theorem own_blk_ne {w : World} {base s n b : Nat} {e t : TypeId} {v : Value} {xs cs : List Value} (h1 : w.ownsRow base e s v n xs) (h2 : blk w b cs t) (he : e ≠ t) : some b ≠ v.ownBlock := by
  rcases h1.2 with ⟨rfl, _⟩ | ⟨g, cap, cur, rfl, _, hh, _⟩
  · intro h; cases h
  · intro h
    have : b = g := Option.some.inj h
    subst this
    unfold blk at h2
    rw [hh] at h2
    injection h2 with h3
    injection h3 with h4 h5
    exact he h5
theorem grown_setCell (w : World) (g j : Nat) (u : Value) : w.grownBy (w.setCell ⟨g, j, none⟩ u) (some g) := ⟨rfl, rfl, rfl, by simp, fun k _ hk => heap_setCell_other w ⟨g, j, none⟩ k u (fun e => hk (by rw [e]))⟩
theorem own_setCell {w : World} {base s n g j : Nat} {e : TypeId} {v u : Value} {xs : List Value} (h : w.ownsRow base e s v n xs) (hne : some g ≠ v.ownBlock) : (w.setCell ⟨g, j, none⟩ u).ownsRow base e s v n xs := h.kept (grown_setCell w g j u) (.inr (fun e => hne e.symm))
theorem own_setRow {w : World} {base s n g : Nat} {e : TypeId} {v : Value} {xs : List Value} {cs : Array Value} (h : w.ownsRow base e s v n xs) (hne : some g ≠ v.ownBlock) : (w.setRow g cs).ownsRow base e s v n xs :=
  h.kept (row := some g) ⟨rfl, rfl, rfl, by simp, fun k _ hk => setRow_other w g k cs (fun e => hk (by rw [e]))⟩ (.inr (fun e => hne e.symm))
theorem sigV_set (l : Int) (c : List Nat) (p q : Value) (hc : c.length = 560) : (sigV l c p).set 561 q = sigV l c q := by
  unfold sigV
  rw [List.set_cons_succ, List.set_append_right _ _ (by rw [cl_length]; omega), cl_length, hc]
  rfl
def sigPath (seed : List Nat) (h leaf : Nat) : List (List Nat) := lv0 (pathF (leavesN seed h) leaf) h
theorem sigPath_length (seed : List Nat) (h leaf : Nat) : (sigPath seed h leaf).length = h := lv0_length _ _
theorem sigPath_16 (seed : List Nat) {h leaf : Nat} (hh : h ≤ 8) (hl : leaf < 2 ^ h) : N16 (sigPath seed h leaf) := path_16 (leavesN_16 seed h) (leavesN_length seed h) hh hl
theorem take_getD (ps : List (List Nat)) {k : Nat} (hk : k < ps.length) : ps.take k ++ [ps.getD k []] = ps.take (k + 1) := by
  rw [List.take_succ_eq_append_getElem hk, List.getD_eq_getElem?_getD, List.getElem?_eq_getElem hk]
  rfl
set_option maxRecDepth 20000 in
set_option maxHeartbeats 8000000 in
theorem sign (w : World) (seed d : List Nat) (h leaf : Nat) (hs : seed.length = 32) (hd : d.length = 16) (bd : By d) (hh : h = 1 ∨ h = 2 ∨ h = 3) (hleaf : leaf < 2 ^ h) :
    Calls Tryz.prog 9 #[.agg (secV seed (h : Int)).toArray, .int .i64 (leaf : Int), agg .u8 d] w fun e w' => ∃ p, e = .returned (.tuple #[.agg (sigV (leaf : Int) (sg seed d leaf) p).toArray, .int .i64 0]) ∧ OwnN 23 w' w.heap.size p (sigPath seed h leaf) ∧ Below w.heap.size w w' := by
  have p8 : 2 ^ h ≤ 2 ^ 3 := Nat.pow_le_pow_right (by omega) (by omega)
  obtain ⟨S, hS⟩ : ∃ S, S = sg seed d leaf := ⟨_, rfl⟩
  obtain ⟨PS, hPS⟩ : ∃ PS, PS = sigPath seed h leaf := ⟨_, rfl⟩
  have lS : S.length = 560 := by rw [hS]; exact sg_length _ _ _
  have lP : PS.length = h := by rw [hPS]; exact sigPath_length _ _ _
  have nP : N16 PS := by rw [hPS]; exact sigPath_16 seed (by omega) hleaf
  have c1 := Lib.hid fun W => secret_check W seed (h : Int) hs (by omega) (by omega)
  have c2 := Lib.hid fun W => Sign_sg W seed d leaf hs hd bd (by omega)
  have c3 := Lib.hid fun W => tree W seed h hs hh
  have c4 : Hid (∀ W x base, OwnN 81 W base x (leavesN seed h) → Calls Tryz.prog 37 #[x, .int .i64 (leaf : Int)] W fun e w' => ∃ y, e = .returned (.tuple #[y, .int .i64 0]) ∧ OwnN 81 w' W.heap.size y PS ∧ Below W.heap.size W w') := Lib.hid fun W x base ho => by
    rw [hPS]
    exact mpath W x (leavesN seed h) h leaf (SlC.of_own ho) (leavesN_16 seed h) (leavesN_length seed h) (by omega) hleaf
  rw [← hS] at c2 ⊢
  rw [← hPS]
  have NP := Lib.hid nP
  have hi' : (leaf : Int) < 2 ^ h := by exact_mod_cast hleaf
  have hd1 : decide ((leaf : Int) < 0) = false := decide_eq_false (by omega)
  have hd2 : decide ((2 : Int) ^ h ≤ (leaf : Int)) = false := decide_eq_false (by omega)
  have p8' : (2 : Int) ^ h ≤ 8 := by exact_mod_cast p8
  have hleaf8 : leaf < 8 := by omega
  clear hS hPS nP hleaf p8
  obtain ⟨W0, hW0⟩ : ∃ W0, W0 = ((w.alloc (.cells (secV seed (h : Int)).toArray 27)).alloc (.cells (cl .u8 d).toArray 23)).alloc (.cells (sigV 0 (zs 560) (.slice none 0 0)).toArray 31) := ⟨_, rfl⟩
  have b0 : blk W0 w.heap.size (secV seed (h : Int)) 27 := by rw [hW0]; exact blk_alloc (blk_alloc (blk_new _ _ _) _) _
  have b1 : blk W0 (w.heap.size + 1) (cl .u8 d) 23 := by rw [hW0]; exact blk_alloc (blk_at _ _ _ (by simp only [alloc_size])) _
  have b2 : blk W0 (w.heap.size + 1 + 1) (sigV 0 (zs 560) (.slice none 0 0)) 31 := by rw [hW0]; exact blk_at _ _ _ (by simp only [alloc_size])
  have bl : Below w.heap.size w W0 := by rw [hW0]; exact (((Below.refl w.heap.size w).alloc (Nat.le_refl _) _).alloc (by simp only [alloc_size]; omega) _).alloc (by simp only [alloc_size]; omega) _
  have S0 := Lib.hid (And.intro b0 (And.intro b1 (And.intro b2 bl)))
  have k0 := bk_of b0
  have HW := Lib.hid hW0
  clear b0 b1 b2 bl k0 hW0
  go_enter Tryz.func9, Tryz.ntmps9
  go_wp2_with fail
  rw [← HW.out]
  refine (c1.out _).mono ?_
  rintro e w1 ⟨rfl, hb1⟩
  have S1 := Lib.hid (And.intro (blk_keep S0.out.1 hb1) (And.intro (blk_keep S0.out.2.1 hb1) (And.intro (blk_keep S0.out.2.2.1 hb1) (bel_trans S0.out.2.2.2 hb1 S0.out.2.2.2.size))))
  have q1 := sec_height hs S1.out.1
  have q2 := ld_seed hs S1.out.1
  have k2 := bk_of S1.out.2.1
  clear hb1
  go_wp2_with fail
  refine (c2.out w1).mono ?_
  rintro e w2 ⟨rfl, hb2⟩
  have S2 := Lib.hid (And.intro (blk_keep S1.out.1 hb2) (And.intro (blk_keep S1.out.2.1 hb2) (And.intro (blk_keep S1.out.2.2.1 hb2) (bel_trans S1.out.2.2.2 hb2 S1.out.2.2.2.size))))
  have k3 := bk_of S2.out.1
  have lt3 := blk_lt S2.out.1
  clear hb2 q1 q2 k2
  go_wp2_with fail
  refine (c3.out _).mono ?_
  rintro e w3 ⟨x, rfl, ho3, hb3⟩
  have HO3 := Lib.hid ho3
  have A3 := Lib.hid (blk_keep (blk_new w2 (cl .u8 S) 74) hb3)
  have S3 := Lib.hid (And.intro (blk_keep (blk_alloc S2.out.1 (.cells (cl .u8 S).toArray 74)) hb3) (And.intro (blk_keep (blk_alloc S2.out.2.2.1 (.cells (cl .u8 S).toArray 74)) hb3) (bel_trans (S2.out.2.2.2.alloc S2.out.2.2.2.size (.cells (cl .u8 S).toArray 74)) hb3 (by have := S2.out.2.2.2.size; simp only [alloc_size]; omega))))
  clear hb3 k3 lt3 ho3
  go_wp2_with fail
  refine (c4.out w3 x _ HO3.out).mono ?_
  rintro e w4 ⟨y, rfl, ho4, hb4⟩
  obtain ⟨Ay, cy, rfl⟩ := ownN_slice ho4
  have HO4 := Lib.hid (own_keep ho4 ((Below.refl _ _).alloc (Nat.le_refl _) (.cells (sigV (leaf : Int) S (.slice none 0 0)).toArray 31)))
  have A4 := blk_keep A3.out hb4
  have k4 := bk_of A4
  have S4 := Lib.hid (And.intro (blk_alloc (blk_keep S3.out.2.1 hb4) (.cells (sigV (leaf : Int) S (.slice none 0 0)).toArray 31)) (And.intro (blk_new w4 (sigV (leaf : Int) S (.slice none 0 0)) 31) ((bel_trans S3.out.2.2 hb4 S3.out.2.2.size).alloc (by have := bel_trans S3.out.2.2 hb4 S3.out.2.2.size; exact this.size) (.cells (sigV (leaf : Int) S (.slice none 0 0)).toArray 31))))
  have lw : w.heap.size + 1 + 1 < w4.heap.size := blk_lt (blk_keep S3.out.2.1 hb4)
  clear hb4 ho4 A4
  rw [lP]
  go_wp2_with fail
  clear hd1 hd2
  go_loopw [59] (fun k wr => ∃ (m : Nat) (p : Value), m ≤ h ∧ k = .int .i64 (m : Int) ∧ OwnN 23 wr w.heap.size p (PS.take m) ∧ OwnN 81 wr w.heap.size (.slice Ay h cy) PS ∧ blk wr w4.heap.size (sigV (leaf : Int) S p) 31 ∧ blk wr (w.heap.size + 1 + 1) (sigV 0 (zs 560) (.slice none 0 0)) 31 ∧ Below w.heap.size w wr) (fun k _ => h - (intOf k).toNat)
  case atStart => exact ⟨0, .slice none 0 0, by omega, rfl, ownN_nil _ _ _, by have h5 := own_mono HO4.out S3.out.2.2.size; rw [lP] at h5; unfold OwnN; rw [lP]; exact h5, S4.out.2.1, S4.out.1, S4.out.2.2⟩
  case round =>
    clear S4 HO4 k4
    obtain ⟨m, p, hm, rfl, ho, hy, hg, hr, hb⟩ := hrel
    obtain ⟨Ap, cp, rfl⟩ := ownN_slice ho
    have lt : (PS.take m).length = m := by rw [List.length_take]; omega
    by_cases hmh : m < h
    · obtain ⟨b, o, c', hbo, hmc, hlt, hcl⟩ := slc_addr (SlC.of_own hy) (by omega)
      cases hbo
      have q1 := ld_node (i := m) NP.out (by omega) hcl
      have lX := NP.out.getD (i := m) (by omega)
      have eT := take_getD PS (k := m) (by omega)
      obtain ⟨X, hX⟩ : ∃ X, X = PS.getD m [] := ⟨_, rfl⟩
      rw [← hX] at q1 lX eT
      have q2 : (wr.alloc (.cells (cl .u8 X).toArray 81)).cell? ⟨w4.heap.size, 561, none⟩ = some (.slice Ap m cp) := by
        rw [← lt]
        exact sig_path lS (blk_alloc hg _)
      rw [lt] at ho hg
      have ho' := own_keep (own_keep ho ((Below.refl _ _).alloc (Nat.le_refl _) (.cells (cl .u8 X).toArray 81))) ((Below.refl _ _).alloc (Nat.le_refl _) (.cells (cl .u8 X).toArray 23))
      have HO := Lib.hid ho'
      have HO0 := Lib.hid ho
      have HY := Lib.hid hy
      have HG := Lib.hid hg
      have HR := Lib.hid hr
      have ET := Lib.hid eT
      have l2 : (PS.take (m + 1)).length = m + 1 := by rw [List.length_take]; omega
      have L2 := Lib.hid l2
      have lg := blk_lt hg
      have hbs := hb.size
      clear l2
      clear ho ho' hy hg hr eT hX hcl
      go_wp2_with (
        at_builtin
        refine wpList_append_val (ns := PS.take m) rfl (.tmp 64) (.tmp 66) rfl rfl rfl HO.out lX (blk_at (wr.alloc (.cells (cl .u8 X).toArray 81)) (cl .u8 X) 23 (b := wr.heap.size + 1) (by simp only [alloc_size])) (by omega) (by simp only [alloc_size]; omega) ?_
        intro v2 w2 ho2 hg2
        have hG2 := blk_grown (blk_alloc (blk_alloc HG.out (.cells (cl .u8 X).toArray 81)) (.cells (cl .u8 X).toArray 23)) hg2 (own_blk_ne HO.out (blk_alloc (blk_alloc HG.out (.cells (cl .u8 X).toArray 81)) (.cells (cl .u8 X).toArray 23)) (by decide))
        have hR2 := blk_grown (blk_alloc (blk_alloc HR.out (.cells (cl .u8 X).toArray 81)) (.cells (cl .u8 X).toArray 23)) hg2 (own_blk_ne HO.out (blk_alloc (blk_alloc HR.out (.cells (cl .u8 X).toArray 81)) (.cells (cl .u8 X).toArray 23)) (by decide))
        have hy1 := own_keep (own_keep HY.out ((Below.refl _ _).alloc (Nat.le_refl _) (.cells (cl .u8 X).toArray 81))) ((Below.refl _ _).alloc (Nat.le_refl _) (.cells (cl .u8 X).toArray 23))
        have hy2 := hy1.kept hg2 (own_ne hy1 HO.out (by decide))
        have hb2 := ((hb.alloc hb.size (.cells (cl .u8 X).toArray 81)).alloc (by simp only [alloc_size]; omega) (.cells (cl .u8 X).toArray 23)).grown hg2 (by simp only [alloc_size]; omega) (fun j hj => own_blockN HO0.out j (by simpa [Act.eval] using hj))
        rw [ET.out] at ho2
        obtain ⟨A2, c2', hv2⟩ := ownN_slice ho2
        rw [L2.out] at hv2
        subst hv2
        have cg := sig_path lS hG2
        have fg := blk_free hG2 561
        have T2 := Lib.hid (And.intro ho2 (And.intro hy2 (And.intro hG2 (And.intro hR2 hb2))))
        clear ho2 hg2 hG2 hR2 hy1 hy2 hb2)
      go_roundw
      case rel =>
        have hG3 := blk_setCell T2.out.2.2.1 561 (.slice A2 (m + 1) c2')
        rw [sigV_set _ _ _ _ lS] at hG3
        exact ⟨m + 1, _, by omega, by go_num, own_setCell T2.out.1 (own_blk_ne T2.out.1 T2.out.2.2.1 (by decide)), own_setCell T2.out.2.1 (own_blk_ne T2.out.2.1 T2.out.2.2.1 (by decide)), hG3, blk_setCell_ne T2.out.2.2.2.1 _ (by simp; omega), bel_setCell T2.out.2.2.2.2 (by simp; omega) _⟩
      case measure => simp [intOf]; omega
    · obtain rfl : m = h := by omega
      rw [List.take_of_length_le (by omega)] at ho hg
      rw [lP] at hg
      have kg := bk_of hg
      have kr := bk_of hr
      have HO := Lib.hid ho
      have HR := Lib.hid hr
      clear ho hy hg hr lt
      go_wp2_with fail
      refine ret2_sg rfl rfl rfl (blk_setRow HR.out (sigV (leaf : Int) S (.slice Ap m cp))) (by rw [sigV_length, lS]) rfl ⟨_, rfl, ?_, bel_setRow hb (by omega) _⟩
      have h9 := own_setRow HO.out (cs := (sigV (leaf : Int) S (.slice Ap m cp)).toArray) (own_blk_ne HO.out HR.out (by decide))
      unfold OwnN
      rw [lP] at h9 ⊢
      exact h9
end Go.Proofs.YtlgpipdeckdmjaaGreat.Sgn
/-
  The reference of layer 8: Leaves. Printed by gen_leaves.py.
-/
set_option linter.unusedVariables false
set_option linter.unusedSimpArgs false
namespace Go.Proofs.YtlgpipdeckdmjaaGreat.Rm
open Go.RowKit Base Reg Types Slice Sha
open Go.Proofs.YtlgpipdeckdmjaaGreat.One
open Go.Proofs.YtlgpipdeckdmjaaGreat.Str
open Go.Proofs.YtlgpipdeckdmjaaGreat.Mer
open Go.Proofs.YtlgpipdeckdmjaaGreat.Sgn
open Go.Proofs.YtlgpipdeckdmjaaGreat.Signed
theorem wpList_append_rn {w : World} {ops : Array Oper} {rest : List Oper} {o : Oper} {a : Act} {Q : Exit → Act → World → Prop} {base b : Nat} {v : Value} {ns : List (List Nat)} {x : List Nat} {te : TypeId} (hgd : o.guard = none) (s y : Operand)
    (ho : o.op = .call { callee := .builtin .append, args := #[s, y], argTypes := #[89, 89] }) (hs : a.eval s = v) (hy : a.eval y = .slice (some ⟨b, 0, none⟩) 1 1)
    (hown : OwnN 93 w base v ns) (hx : x.length = 16) (hb : blk w b (cl .u8 x) te) (h63 : ns.length ≤ 1000000) (hbase : base ≤ w.heap.size)
    (h : ∀ v' w', OwnN 93 w' base v' (ns ++ [x]) → w.grownBy w' v.ownBlock → wpList Tryz.prog ops Q rest (a.put o.dst v') w') : wpList Tryz.prog ops Q (o :: rest) a w :=
  wpList_append_one hgd s y ho ((Tryz.prog.info? 93).get (by kernel_rfl)) (((Tryz.prog.info? 93).get (by kernel_rfl)).zero.get (by kernel_rfl)) Tryz.underlying89 (by kernel_rfl) (by kernel_rfl) (by kernel_rfl) (by kernel_rfl) (by kernel_rfl) hs hy hown hx hb h63 hbase h
theorem rd_bs_rn (n : Nat) (ps : Array (Nat × Value)) : Instr.buildSlice 89 n ps = bsA 89 n ps := rfl
theorem bs_rn (x : List Nat) (w : World) (hx : x.length = 16) : (bsA 89 1 #[(0, .agg (cl .u8 x).toArray)]).run Tryz.prog w = .ok (.slice (some ⟨w.heap.size, 0, none⟩) 1 1) (w.alloc (.cells (cl .u8 x).toArray 93)) :=
  run_bs_one ((Tryz.prog.info? 93).get (by kernel_rfl)) (((Tryz.prog.info? 93).get (by kernel_rfl)).zero.get (by kernel_rfl)) Tryz.underlying89 (by kernel_rfl) (by kernel_rfl) (by kernel_rfl) hx w
attribute [go_sem ↓ high] rd_bs_rn
attribute [go_sem] bs_rn
def AtL (w w0 : World) (seed : List Nat) (v : Value) (N : List (List Nat)) (W : World) : Prop :=
  blk W w.heap.size (cl .u8 seed) 22 ∧ OwnN 93 W (w.heap.size + 1) v N ∧ Below w.heap.size w W ∧ w0.heap.size ≤ W.heap.size
theorem AtL_keep {w w0 : World} {seed : List Nat} {v : Value} {N : List (List Nat)} {W W' : World} (h : AtL w w0 seed v N W) (hb : Below W.heap.size W W') : AtL w w0 seed v N W' := ⟨blk_keep h.1 hb, own_keep h.2.1 hb, bel_trans h.2.2.1 hb h.2.2.1.size, Nat.le_trans h.2.2.2 hb.size⟩
def LvP (w0 : World) (k : Nat) (seed D F C : List Nat) (i : Nat) (v : Value) (W : World) : Prop := match i with
  | 0 => v = .int .i64 (k : Int)
  | 1 => v = agg .u8 seed
  | 2 => v = .int .i64 (k : Int)
  | 3 => v = agg .i64 D
  | 4 => v = agg .u8 F
  | 5 => v = agg .u8 C
  | 6 => ∃ q, v = .pointer (some ⟨q, 0, none⟩) ∧ w0.heap.size ≤ q ∧ blk W q (cl .u8 (zs 16)) 84
  | _ => True
theorem LvP_mono (w0 : World) (k : Nat) (seed D F C : List Nat) (i : Nat) (v : Value) (W W' : World) (hb : Below W.heap.size W W') (h : LvP w0 k seed D F C i v W) : LvP w0 k seed D F C i v W' := by
  unfold LvP at h ⊢
  split at h
  · exact h
  · exact h
  · exact h
  · exact h
  · exact h
  · exact h
  · obtain ⟨q, h1, h2⟩ := h
    exact ⟨q, h1, h2.1, blk_keep h2.2 hb⟩
  · exact h
theorem g15 (c : Nat) (hc : c < 35) : ((List.range 35).map fun _ => 15).getD c 0 = 15 := by
  rw [List.getD_eq_getElem?_getD, List.getElem?_map, List.getElem?_range hc]
  rfl
theorem pub_val (seed : List Nat) (k : Nat) : cmp k (flat (Ref.valF seed ((List.range 35).map fun _ => 15) k) 35) = pb seed k := by
  unfold pb
  rw [show flat (Ref.valF seed ((List.range 35).map fun _ => 15) k) 35 = flat (pubF seed k) 35 from flat_congr fun c hc => by unfold Ref.valF pubF; rw [g15 c hc]]
set_option maxRecDepth 20000 in
set_option maxHeartbeats 4000000 in
theorem leaves (w : World) (seed : List Nat) (h : Nat) (hs : seed.length = 32) (hh : h = 1 ∨ h = 2 ∨ h = 3) :
    Calls Tryz.prog 43 #[agg .u8 seed, .int .i64 (h : Int)] w fun e w' => ∃ v, e = .returned v ∧ OwnN 93 w' w.heap.size v (leavesN seed h) ∧ Below w.heap.size w w' := by
  have hn8 : 2 ^ h ≤ 8 := by rcases hh with rfl | rfl | rfl <;> decide
  have h3 : h ≤ 3 := by omega
  have p8 : (2 : Int) ^ h ≤ 8 := by exact_mod_cast hn8
  have p0 : (0 : Int) ≤ 2 ^ h := Int.le_of_lt (Int.pow_pos (by decide))
  obtain ⟨n, hn⟩ : ∃ n, n = 2 ^ h := ⟨_, rfl⟩
  have en : (2 : Int) ^ h = (n : Int) := by rw [hn]; norm_cast
  rw [← hn] at hn8
  have HE := Lib.hid en
  have HS := Lib.hid hs
  have HN := Lib.hid hn
  clear hn en hh hs
  go_enter Tryz.func43, Tryz.ntmps43
  go_wp2_with fail
  go_loopw [5, 6] (fun v i wr => ∃ k : Nat, k ≤ n ∧ i = .int .i64 k ∧ OwnN 93 wr (w.heap.size + 1) v (lv0 (nodeF seed) k) ∧ blk wr w.heap.size (cl .u8 seed) 22 ∧ Below w.heap.size w wr) (fun _ i _ => n - (intOf i).toNat)
  case atStart => exact ⟨0, by omega, rfl, ownN_nil _ _ _, blk_new _ _ _, (Below.refl _ _).alloc (Nat.le_refl _) _⟩
  case round =>
    obtain ⟨k, hk, rfl, ho, hB, hbel⟩ := hrel
    by_cases hk2 : k < n
    · have d : decide ((k : Int) < 2 ^ h) = true := by rw [HE.out]; simp; omega
      go_wp2_with fail
      have l15 : ((List.range 35).map fun _ => 15).length = 35 := by simp
      have AL := Lib.hid (fun W => Ref.all_calls W 15)
      have VL := Lib.hid (fun W => Ref.values W seed ((List.range 35).map fun _ => 15) k HS.out l15 (fun j => by by_cases hj : j < 35; (rw [g15 j hj]; omega); (rw [List.getD_eq_getElem?_getD, List.getElem?_eq_none (by rw [l15]; omega)]; simp)) (by omega))
      have CL := Lib.hid (fun W => Ref.compress W k (flat (Ref.valF seed ((List.range 35).map fun _ => 15) k) 35) (flat_length (fun c => Ref.valF_length _ _ _ _) 35) (by omega))
      have lp := pb_length seed k
      rw [pub_val] at CL
      obtain ⟨C, hC⟩ : ∃ C, C = pb seed k := ⟨_, rfl⟩
      obtain ⟨F, hF⟩ : ∃ F, F = flat (Ref.valF seed ((List.range 35).map fun _ => 15) k) 35 := ⟨_, rfl⟩
      obtain ⟨D, hD⟩ : ∃ D : List Nat, D = (List.range 35).map fun _ => 15 := ⟨_, rfl⟩
      rw [← hF] at VL CL
      rw [← hD] at AL VL l15
      rw [← hC] at CL lp
      have lF : F.length = 560 := by rw [hF]; exact flat_length (fun c => Ref.valF_length _ _ _ _) 35
      have HC := Lib.hid hC
      obtain ⟨N, hN⟩ : ∃ N, N = lv0 (nodeF seed) k := ⟨_, rfl⟩
      rw [← hN] at ho
      have HNN := Lib.hid hN
      have ls := HS.out
      clear hC hF hD hN
      obtain ⟨w0, hw0⟩ : ∃ w0, w0 = wr := ⟨_, rfl⟩
      have HW0 := Lib.hid hw0
      clear hw0
      refine Ord.wp_region_tab2 7 [14, 15, 16, 17, 18, 19, 7] [agg .u8 seed, .int .i64 (h : Int), .pointer (some ⟨w.heap.size, 0, none⟩), undef, .slice none 0 0, u5, .int .i64 (k : Int), u7, .int .i64 (k : Int), .int .i64 (h : Int), .int .i64 ((2 : Int) ^ h), .bool true, u12, u13, u14, u15, u16, u17, u18, u19, u20, u21, u22, u23, u24, u25, undef] (fun W => AtL w w0 seed u5 N W) (LvP w0 k seed D F C) (by kernel_rfl) (by kernel_rfl) (by rfl) ⟨blk_drew hB, own_keep ho ((Below.refl _ _).drew), hbel.drew, by rw [HW0.out]; exact Nat.le_refl _⟩ (fun i v W W' _ hb h => LvP_mono w0 k seed D F C i v W W' hb h) ?_ ?_
      · intro i o hi ho a W K hS hF hG hK
        have q1 := bk_of hS.1
        match i, hi with
        | 0, _ =>
          cases ho
          have s6 : a.tmps.getD 6 undef = .int .i64 (k : Int) := hF.slots 6 (by simp) (by decide)
          go_wp2_with fail
          exact hK _ _ hS (Below.refl _ _) (by first | rfl | (show _ = _; simp))
        | 1, _ =>
          cases ho
          have s2 : a.tmps.getD 2 undef = .pointer (some ⟨w.heap.size, 0, none⟩) := hF.slots 2 (by simp) (by decide)
          go_wp2_with fail
          exact hK _ _ hS (Below.refl _ _) (by first | rfl | (show _ = _; simp))
        | 2, _ =>
          cases ho
          have s6 : a.tmps.getD 6 undef = .int .i64 (k : Int) := hF.slots 6 (by simp) (by decide)
          go_wp2_with fail
          exact hK _ _ hS (Below.refl _ _) (by first | rfl | (show _ = _; simp))
        | 3, _ =>
          cases ho
          go_wp2_with fail
          refine (AL.out W).mono ?_
          rintro e W2 ⟨rfl, hb2⟩
          go_wp2_with fail
          exact hK _ _ (AtL_keep hS hb2) hb2 rfl
        | 4, _ =>
          cases ho
          have s15 : a.tmps.getD 15 undef = agg .u8 seed := hG { on := 1, ground := .data } (by simp) rfl
          have s16 : a.tmps.getD 16 undef = .int .i64 (k : Int) := hG { on := 2, ground := .data } (by simp) rfl
          have s17 : a.tmps.getD 17 undef = agg .i64 D := hG { on := 3, ground := .data } (by simp) rfl
          go_wp2_with fail
          refine (VL.out W).mono ?_
          rintro e W2 ⟨rfl, hb2⟩
          go_wp2_with fail
          exact hK _ _ (AtL_keep hS hb2) hb2 rfl
        | 5, _ =>
          cases ho
          have s14 : a.tmps.getD 14 undef = .int .i64 (k : Int) := hG { on := 0, ground := .data } (by simp) rfl
          have s18 : a.tmps.getD 18 undef = agg .u8 F := hG { on := 4, ground := .data } (by simp) rfl
          go_wp2_with fail
          refine (CL.out W).mono ?_
          rintro e W2 ⟨rfl, hb2⟩
          go_wp2_with fail
          exact hK _ _ (AtL_keep hS hb2) hb2 rfl
        | 6, _ =>
          cases ho
          go_wp2_with fail
          have hb2 := (Below.refl W.heap.size W).alloc (Nat.le_refl _) (.cells (cl .u8 (zs 16)).toArray 84)
          exact hK _ _ (AtL_keep hS hb2) hb2 ⟨_, rfl, hS.2.2.2, blk_new _ _ _⟩
        | i + 7, hi => exact absurd hi (by omega)
      · intro a W hS hF hG
        have t14 : a.tmps.getD 14 undef = .int .i64 (k : Int) := hG 0 (by omega)
        have t15 : a.tmps.getD 15 undef = agg .u8 seed := hG 1 (by omega)
        have t16 : a.tmps.getD 16 undef = .int .i64 (k : Int) := hG 2 (by omega)
        have t17 : a.tmps.getD 17 undef = agg .i64 D := hG 3 (by omega)
        have t18 : a.tmps.getD 18 undef = agg .u8 F := hG 4 (by omega)
        have t19 : a.tmps.getD 19 undef = agg .u8 C := hG 5 (by omega)
        obtain ⟨q7, t7, hp7⟩ : LvP w0 k seed D F C 6 (a.tmps.getD 7 undef) W := hG 6 (by omega)
        have fr := Ord.frame_of (L := [agg .u8 seed, .int .i64 (h : Int), .pointer (some ⟨w.heap.size, 0, none⟩), undef, .slice none 0 0, u5, .int .i64 (k : Int), .pointer (some ⟨q7, 0, none⟩), .int .i64 (k : Int), .int .i64 (h : Int), .int .i64 ((2 : Int) ^ h), .bool true, u12, u13, .int .i64 (k : Int), agg .u8 seed, .int .i64 (k : Int), agg .i64 D, agg .u8 F, agg .u8 C, u20, u21, u22, u23, u24, u25, undef]) hF.defers hF.size (fun k hk => match k, hk with
          | 0, _ => hF.slots 0 (by simp) (by decide)
          | 1, _ => hF.slots 1 (by simp) (by decide)
          | 2, _ => hF.slots 2 (by simp) (by decide)
          | 3, _ => hF.slots 3 (by simp) (by decide)
          | 4, _ => hF.slots 4 (by simp) (by decide)
          | 5, _ => hF.slots 5 (by simp) (by decide)
          | 6, _ => hF.slots 6 (by simp) (by decide)
          | 7, _ => t7
          | 8, _ => hF.slots 8 (by simp) (by decide)
          | 9, _ => hF.slots 9 (by simp) (by decide)
          | 10, _ => hF.slots 10 (by simp) (by decide)
          | 11, _ => hF.slots 11 (by simp) (by decide)
          | 12, _ => hF.slots 12 (by simp) (by decide)
          | 13, _ => hF.slots 13 (by simp) (by decide)
          | 14, _ => t14
          | 15, _ => t15
          | 16, _ => t16
          | 17, _ => t17
          | 18, _ => t18
          | 19, _ => t19
          | 20, _ => hF.slots 20 (by simp) (by decide)
          | 21, _ => hF.slots 21 (by simp) (by decide)
          | 22, _ => hF.slots 22 (by simp) (by decide)
          | 23, _ => hF.slots 23 (by simp) (by decide)
          | 24, _ => hF.slots 24 (by simp) (by decide)
          | 25, _ => hF.slots 25 (by simp) (by decide)
          | 26, _ => hF.slots 26 (by simp) (by decide)
          | k + 27, hk => absurd hk (by simp))
        subst fr
        clear hF hG t14 t15 t16 t17 t18 t19 t7
        simp only [List.drop_succ_cons, List.drop_zero]
        obtain ⟨hq, hqb⟩ := hp7
        have k7 := bk_of hqb
        have hne := own_blk_ne hS.2.1 hqb (by decide)
        have hlt0 := blk_lt hB
        have hw0 : w0.heap.size = wr.heap.size := by rw [HW0.out]
        have HS2 := Lib.hid (show blk (W.setRow q7 (cl .u8 C).toArray) w.heap.size (cl .u8 seed) 22 ∧ OwnN 93 (W.setRow q7 (cl .u8 C).toArray) (w.heap.size + 1) u5 N ∧ Below w.heap.size w (W.setRow q7 (cl .u8 C).toArray) ∧ blk (W.setRow q7 (cl .u8 C).toArray) q7 (cl .u8 C) 84 from ⟨blk_setRow_ne hS.1 _ (by omega), own_setRow hS.2.1 hne, bel_setRow hS.2.2.1 (by omega) _, blk_setRow hqb _⟩)
        have hw2 := HS2.out.2.2.1.size
        have HO0 := Lib.hid ho
        clear hS hqb hq hlt0 hw0 hne
        go_wp2_with fail
        refine (leaf _ k C _ (sl_whole HS2.out.2.2.2 lp.symm (Nat.le_refl _)) (by omega) (by omega)).mono ?_
        rintro e w1 ⟨rfl, hb1⟩
        have D1 := Lib.hid (show blk w1 w.heap.size (cl .u8 seed) 22 ∧ OwnN 93 w1 (w.heap.size + 1) u5 N ∧ Below w.heap.size w w1 ∧ w.heap.size + 1 ≤ w1.heap.size from ⟨blk_keep HS2.out.1 hb1, own_keep HS2.out.2.1 hb1, bel_trans HS2.out.2.2.1 hb1 HS2.out.2.2.1.size, by have := blk_lt HS2.out.1; have := hb1.size; omega⟩)
        have lx := leafN_length k C
        obtain ⟨x, hx⟩ : ∃ x, x = leafN k C := ⟨_, rfl⟩
        have HX := Lib.hid hx
        rw [← hx] at lx ⊢
        clear hb1 HS2 hx k7
        go_wp2_with (
          at_builtin
          refine wpList_append_rn rfl (.tmp 20) (.tmp 24) rfl rfl rfl (own_keep D1.out.2.1 ((Below.refl _ _).alloc (Nat.le_refl _) _)) lx (blk_new w1 (cl .u8 x) 93) (by rw [HNN.out, lv0_length]; omega) (by have := D1.out.2.2.2; simp only [alloc_size]; omega) ?_
          intro v2 w2 ho2 hg2)
        have hb2 := (D1.out.2.2.1.alloc D1.out.2.2.1.size (.cells (cl .u8 x).toArray 93)).grown hg2 (by have := D1.out.2.2.1.size; simp only [alloc_size]; omega) (fun j hj => by have := own_blockN D1.out.2.1 j (by simpa [Act.eval] using hj); omega)
        have hB2 := blk_grown (blk_alloc D1.out.1 (.cells (cl .u8 x).toArray 93)) hg2 (by intro e; have := own_blockN D1.out.2.1 w.heap.size (by simpa [Act.eval] using e.symm); omega)
        have ex : x = nodeF seed k := by rw [HX.out, HC.out]; rfl
        rw [HNN.out, ex, ← lv0_succ] at ho2
        clear hg2 ex
        go_roundw
        case rel => exact ⟨k + 1, by omega, by go_num, ho2, hB2, hb2⟩
        case measure => simp [intOf]; omega
    · obtain rfl : k = n := by omega
      have d : decide ((k : Int) < 2 ^ h) = false := by rw [HE.out]; simp
      have HO := Lib.hid ho
      have HB := Lib.hid hB
      clear ho hB
      go_wp2_with fail
      go_ret
      refine ⟨_, rfl, ?_, hbel⟩
      unfold leavesN
      rw [← HN.out]
      exact own_mono HO.out (by omega)
end Go.Proofs.YtlgpipdeckdmjaaGreat.Rm
/-
  The reference of layer 8: Root, Bytes, Author; of layer 5: Half.
-/
set_option linter.unusedVariables false
set_option linter.unusedSimpArgs false
namespace Go.Proofs.YtlgpipdeckdmjaaGreat.Rm
open Go.RowKit Base Reg Types Slice Sha
open Go.Proofs.YtlgpipdeckdmjaaGreat.One
open Go.Proofs.YtlgpipdeckdmjaaGreat.Str
open Go.Proofs.YtlgpipdeckdmjaaGreat.Mer
open Go.Proofs.YtlgpipdeckdmjaaGreat.Sgn
theorem root8 (w : World) (seed : List Nat) (h : Nat) (hs : seed.length = 32) (hh : h = 1 ∨ h = 2 ∨ h = 3) :
    Calls Tryz.prog 23 #[agg .u8 seed, .int .i64 (h : Int)] w fun e w' => e = .returned (agg .u8 (keyRoot seed h)) ∧ Below w.heap.size w w' := by
  have C := Lib.hid (fun W v hv => root (leavesN_16 seed h) (leavesN_length seed h) hh W v hv)
  have CL := Lib.hid (fun W => leaves W seed h hs hh)
  have lr := keyRoot_length seed h
  obtain ⟨r, hr⟩ : ∃ r, r = keyRoot seed h := ⟨_, rfl⟩
  have er : rootN (leavesN seed h) h = r := hr.symm
  rw [er] at C
  rw [← hr] at lr ⊢
  have HB := Lib.hid (And.intro (blk_alloc (blk_new w (cl .u8 seed) 22) (.cells (cl .u8 (zs 16)).toArray 23)) (And.intro (blk_at (b := w.heap.size + 1) (w.alloc (.cells (cl .u8 seed).toArray 22)) (cl .u8 (zs 16)) 23 (by simp only [alloc_size])) (((Below.refl w.heap.size w).alloc (Nat.le_refl _) (.cells (cl .u8 seed).toArray 22)).alloc (by simp only [alloc_size]; omega) (.cells (cl .u8 (zs 16)).toArray 23))))
  clear hr er hh
  go_enter Tryz.func23, Tryz.ntmps23
  go_wp2_with fail
  refine (CL.out _).mono ?_
  rintro e w1 ⟨v, rfl, ho, hb1⟩
  have D1 := Lib.hid (And.intro (blk_keep HB.out.2.1 hb1) (bel_trans HB.out.2.2 hb1 HB.out.2.2.size))
  have HO := Lib.hid (SlC.of_own ho)
  obtain ⟨A, c, rfl⟩ := ownN_slice ho
  clear hb1 ho
  go_wp2_with fail
  refine (C.out w1 _ HO.out).mono ?_
  rintro e w2 ⟨rfl, hb2⟩
  have hB2 := blk_keep D1.out.1 hb2
  have hbel := bel_trans D1.out.2 hb2 D1.out.2.size
  have k2 := bk_of hB2
  have lt2 := blk_lt hB2
  clear hb2
  go_wp2_with fail
  have hb4 := bel_setRow hbel (by omega : w.heap.size ≤ w.heap.size + 1) (cl .u8 r).toArray
  refine ret_b16 rfl rfl (blk_alloc (blk_setRow hB2 (cl .u8 r)) _) lr rfl ⟨rfl, hb4.alloc hb4.size _⟩
theorem bytes (w : World) (r : List Nat) (h : Nat) (hr : r.length = 16) (hh : h ≤ 255) :
    Calls Tryz.prog 56 #[.int .i64 (h : Int), agg .u8 r] w fun e w' => ∃ v, e = .returned v ∧ Own w' w.heap.size v (pubB h r) ∧ Below w.heap.size w w' := by
  have hB := blk_new w (cl .u8 r) 23
  have eh : (#[.int .u8 (h : Int)] : Array Value) = (cl .u8 [h % 256]).toArray := by rw [Nat.mod_eq_of_lt (show h < 256 by omega)]; rfl
  have ho : Own ((w.alloc (.cells (cl .u8 r).toArray 23)).alloc (.cells #[.int .u8 (h : Int)] 5)) w.heap.size (.slice (some ⟨w.heap.size + 1, 0, none⟩) 1 1) [h % 256] := by
    rw [eh]
    have h1 := own_bytes (w.alloc (.cells (cl .u8 r).toArray 23)) [h % 256] (by simp)
    rw [alloc_size] at h1
    exact own_mono h1 (by omega)
  have hs : Sl ((w.alloc (.cells (cl .u8 r).toArray 23)).alloc (.cells #[.int .u8 (h : Int)] 5)) (.slice (some ⟨w.heap.size, 0, none⟩) 16 16) r := sl_whole (blk_alloc hB _) hr.symm (Nat.le_refl _)
  have HO := Lib.hid ho
  have HS := Lib.hid hs
  have HLE : Hid (([h % 256] : List Nat).length + r.length ≤ 1099511627776) := Lib.hid (by rw [hr, List.length_singleton]; omega)
  have hb : Below w.heap.size w ((w.alloc (.cells (cl .u8 r).toArray 23)).alloc (.cells #[.int .u8 (h : Int)] 5)) := (((Below.refl w.heap.size w).alloc (Nat.le_refl _) _).alloc (by simp only [alloc_size]; omega) _)
  have HB := Lib.hid hb
  clear hB eh ho hs hb
  go_enter Tryz.func56, Tryz.ntmps56
  go_wp2_with (
    at_builtin
    refine wpList_append_bytes rfl (.tmp 7) (.tmp 8) rfl rfl rfl HO.out HS.out HLE.out HB.out.size ?_
    intro v2 w2 ho2 hg2)
  have hb2 := HB.out.grown hg2 HB.out.size (fun k hk => own_block HO.out k hk)
  have HO2 := Lib.hid ho2
  have HB2 := Lib.hid hb2
  clear ho2 hg2 hb2
  go_wp2_with fail
  go_ret
  exact ⟨_, rfl, HO2.out, HB2.out⟩
theorem half5 (w : World) (M : List Nat) (x : Value) (hx : Sl w x M) (hM : M.length ≤ 1000000) :
    Calls Tryz.prog 55 #[x] w fun e w' => e = .returned (agg .u8 (hf M)) ∧ Below w.heap.size w w' := by
  have H := Lib.hid hx
  clear hx
  have hl := sha_length M
  go_enter Tryz.func55, Tryz.ntmps55
  go_wp2_with fail
  refine (Ref.sum_calls _ M x (H.out.keep ((Below.refl _ _).alloc (Nat.le_refl _) _)) hM).mono ?_
  rintro e w1 ⟨rfl, hb1⟩
  have hB1 := blk_keep (blk_new w (cl .u8 (zs 16)) 23) hb1
  have hbel1 := bel_trans ((Below.refl _ w).alloc (Nat.le_refl _) _) hb1 (by simp only [alloc_size]; omega)
  have hs1 := hb1.size
  rw [alloc_size] at hs1
  obtain ⟨ι, F, hF, hin⟩ := class_of (fun W => blk W w.heap.size (cl .u8 (zs 16)) 23 ∧ blk W w1.heap.size (cl .u8 (sha M)) 22 ∧ blk W (w1.heap.size + 1) (cl .u8 (zs 16)) 23 ∧ Below w.heap.size w W)
  have h0 := hin ((w1.alloc (.cells (cl .u8 (sha M)).toArray 22)).alloc (.cells (cl .u8 (zs 16)).toArray 23)).drew ⟨blk_drew (blk_alloc (blk_alloc hB1 _) _), blk_drew (blk_alloc (blk_new _ _ _) _), blk_drew (blk_at _ _ _ (by simp only [alloc_size])), ((hbel1.alloc hbel1.size _).alloc (by have := hbel1.size; simp only [alloc_size]; omega) _).drew⟩
  have HF := Lib.hid hF
  have HH := Lib.hid h0
  have hne : Nonempty ι := ⟨h0.choose⟩
  clear hF hin h0 hb1 hB1 hbel1
  go_wp2_with fail
  refine wp_region_tail F 2 (by kernel_rfl) (by kernel_rfl) HH.out ?_
  simp only [List.take_succ_cons, List.take_zero, List.drop_succ_cons, List.drop_zero]
  repeat (go_big_quiet_step (fail))
  refine wpQuiet_nil ?_
  intro i
  have hg : (F i).heap[w1.heap.size + 1]? = some (.cells (cl .u8 (zs 16)).toArray 23 (0, 0)) := (HF.out i).2.2.1
  have lh := hf_length M
  have hsrc : ∀ j v, (cl .u8 (hf M))[j]? = some v → (F i).cell? ((⟨w1.heap.size, 0, none⟩ : Addr).add j) = some v := fun j v hj => by
    have hj16 : j < 16 := by
      have := (List.getElem?_eq_some_iff.1 hj).1
      rw [cl_length, lh] at this
      exact this
    have e : (⟨w1.heap.size, 0, none⟩ : Addr).add j = ⟨w1.heap.size, j, none⟩ := by rw [Addr.add_mid, Nat.zero_add]
    rw [e, blk_cell (HF.out i).2.1, ← hj]
    unfold hf cl
    rw [List.getElem?_map, List.getElem?_map, List.getElem?_take, if_pos hj16]
  refine wpList_copy_splice rfl (.tmp 7) (.tmp 8) 97 97 rfl 5 Tryz.underlying97 (by kernel_rfl) (some ⟨w1.heap.size + 1, 0, none⟩) (some ⟨w1.heap.size, 0, none⟩) 16 16 16 32 rfl rfl (w1.heap.size + 1) 0 (cl .u8 (zs 16)) 23 hg (cl .u8 (hf M)) (by rw [cl_length, lh]; rfl) (fun _ => ⟨rfl, _, rfl, hsrc⟩) (by rw [cl_length, cl_length, lh, zs_length]; omega) (cl_one _ _) (w1.heap.size + 1) (F i) (Below.refl _ _) (Nat.le_refl _) ?_
  intro w2 hc hb2
  have hc2 : blk w2 (w1.heap.size + 1) (cl .u8 (hf M)) 23 := by
    have e := Base.splice_whole (cl .u8 (zs 16)) (cl .u8 (hf M)) (by rw [cl_length, cl_length, lh, zs_length])
    have h := hc.out
    unfold blk
    rw [h]
    congr 2
  have hA := blk_below (HF.out i).1 hb2 (by omega)
  have hbel := (HF.out i).2.2.2.trans (hb2.mono (by omega))
  have k1 := bk_of hA
  have k2 := bk_of hc2
  clear hg hsrc hc hb2
  go_wp2_with fail
  refine ret_b16 rfl rfl (blk_setRow hA (cl .u8 (hf M))) lh rfl ⟨rfl, bel_setRow hbel (Nat.le_refl _) _⟩
theorem author8 (w : World) (r : List Nat) (h : Nat) (hr : r.length = 16) (hh : h ≤ 255) :
    Calls Tryz.prog 24 #[.int .i64 (h : Int), agg .u8 r] w fun e w' => e = .returned (agg .u8 (hf (pubB h r))) ∧ Below w.heap.size w w' := by
  have HB := Lib.hid (And.intro (blk_at (b := w.heap.size + 1) (w.alloc (.cells (cl .u8 r).toArray 23)) (cl .u8 (zs 16)) 23 (by simp only [alloc_size])) (((Below.refl w.heap.size w).alloc (Nat.le_refl _) (.cells (cl .u8 r).toArray 23)).alloc (by simp only [alloc_size]; omega) (.cells (cl .u8 (zs 16)).toArray 23)))
  have CB := Lib.hid (fun W => bytes W r h hr hh)
  have lp : (pubB h r).length = 17 := by simp [pubB, hr]
  obtain ⟨P, hP⟩ : ∃ P, P = pubB h r := ⟨_, rfl⟩
  rw [← hP] at CB lp ⊢
  clear hP
  go_enter Tryz.func24, Tryz.ntmps24
  go_wp2_with fail
  refine (CB.out _).mono ?_
  rintro e w1 ⟨v, rfl, ho, hb1⟩
  have D1 := Lib.hid (And.intro (blk_keep HB.out.1 hb1) (bel_trans HB.out.2 hb1 HB.out.2.size))
  have HO := Lib.hid (SlC.of_own ho)
  clear hb1 ho
  go_wp2_with fail
  refine (half5 w1 P _ HO.out (by omega)).mono ?_
  rintro e w2 ⟨rfl, hb2⟩
  have hB2 := blk_keep D1.out.1 hb2
  have hbel := bel_trans D1.out.2 hb2 D1.out.2.size
  have k2 := bk_of hB2
  have lh := hf_length P
  clear hb2
  go_wp2_with fail
  refine ret_b16 rfl rfl (blk_setRow hB2 (cl .u8 (hf P))) lh rfl ⟨rfl, bel_setRow hbel (by omega) _⟩
end Go.Proofs.YtlgpipdeckdmjaaGreat.Rm
