/-
  Several texts laid into one (merge.py): Mer9, Mer10, Rm1, Rm2.
-/
import Derived.Test.YtlgpipdeckdmjaaGreatVf12
/-
  merkle.From.
-/
set_option linter.unusedVariables false
set_option linter.unusedSimpArgs false
namespace Go.Proofs.YtlgpipdeckdmjaaGreat.Mer
open Go.RowKit Base Reg Types Slice Sha
open Go.Proofs.YtlgpipdeckdmjaaGreat.One
open Go.Proofs.YtlgpipdeckdmjaaGreat.Str
theorem run_shr64 (P : Program) (w : World) (a k : Nat) (hk : k ≤ 62) : (Op.shift .shr .i64 (a : Int) .i64 (k : Int)).run P w = .ok (.int .i64 ((a / 2 ^ k : Nat) : Int)) w := by
  have h0 : ¬ ((k : Int) < 0) := by omega
  unfold Op.shift
  rw [if_neg h0]
  show Result.ok (Value.int .i64 (Int.fdiv (a : Int) (2 ^ min (Int.toNat (k : Int)) 64))) w = _
  rw [Int.toNat_natCast, Nat.min_eq_left (by omega)]
  congr 2
  rw [Int.fdiv_eq_ediv_of_nonneg _ (Int.le_of_lt (Int.pow_pos (by decide)))]
  norm_cast
theorem bits_and1 (n : Nat) (hn : n ≤ 1000000) : bits .and .i64 (n : Int) 1 = ((n % 2 : Nat) : Int) := by
  show IntKind.i64.wrap ((BitVec.ofInt 64 (n : Int) &&& BitVec.ofInt 64 1).toNat : Int) = _
  rw [BitVec.toNat_and, BitVec.ofInt_natCast, BitVec.toNat_ofNat, show (BitVec.ofInt 64 1).toNat = 1 from by decide, Nat.mod_eq_of_lt (by omega), Nat.and_one_is_mod, IntKind.wrap_i64]
  omega
theorem visit (w : World) (l : Int) (a b : List Nat) : Calls Tryz.prog 79 #[.int .i64 l, agg .u8 a, agg .u8 b] w fun e w' => e = .returned (.tuple #[]) ∧ Below w.heap.size w w' := by
  go_enter Tryz.func79, Tryz.ntmps79
  go_wp2_with fail
  go_end0
  exact ⟨rfl, ((Below.refl w.heap.size w).alloc (Nat.le_refl _) _).alloc (by simp only [alloc_size]; omega) _⟩
theorem joinI (w : World) (m : Nat) (a b : List Nat) (ha : a.length = 16) (hb : b.length = 16) (hm : m ≤ 100) :
    Calls Tryz.prog 92 #[.int .i64 ((m : Int) + 1), agg .u8 a, agg .u8 b] w fun e w' => e = .returned (agg .u8 (joinN (m + 1) a b)) ∧ Below w.heap.size w w' := join w (m + 1) a b ha hb (by omega)
/-- The node that a leaf and the first m nodes of a path lead to. -/
def climbF (leaf : List Nat) (i : Nat) (ps : List (List Nat)) : Nat → List Nat
  | 0 => leaf
  | m + 1 => if i / 2 ^ m % 2 = 1 then joinN (m + 1) (ps.getD m []) (climbF leaf i ps m) else joinN (m + 1) (climbF leaf i ps m) (ps.getD m [])
theorem climbF_length {leaf : List Nat} (hl : leaf.length = 16) (i : Nat) (ps : List (List Nat)) : ∀ m, (climbF leaf i ps m).length = 16
  | 0 => hl
  | m + 1 => by unfold climbF; split <;> exact joinN_length _ _ _
/-- The frame while both children are laid down. -/
def FrC (w wr : World) (leaf S : List Nat) (i m n b o c : Nat) (u22 u23 u24 u25 u26 u27 u28 u29 u30 u31 u32 u33 u34 u35 u36 u37 u38 u39 u40 v11 v12 v20 v21 : Value) : Act :=
  { tmps := #[agg .u8 leaf, .int .i64 (i : Int), .slice (some ⟨b, o, none⟩) n c, .func (.func 79) #[] #[], .pointer (some ⟨w.heap.size, 0, none⟩), undef, undef, undef, .pointer (some ⟨w.heap.size + 1, 0, none⟩), .int .i64 (m : Int), .pointer (some ⟨wr.heap.size, 0, none⟩), v11, v12, .slice (some ⟨b, o, none⟩) n c, .int .i64 (n : Int), .int .i64 (m : Int), .bool true, .int .i64 (m : Int), .pointer (some ⟨b, o + m * 16, none⟩), agg .u8 S, v20, v21, u22, u23, u24, u25, u26, u27, u28, u29, u30, u31, u32, u33, u34, u35, u36, u37, u38, u39, u40, undef], defers := [] }
def AtC (w wr : World) (C S : List Nat) (W : World) : Prop := blk W w.heap.size (cl .u8 C) 81 ∧ blk W (w.heap.size + 1) (cl .u8 (zs 16)) 81 ∧ blk W wr.heap.size (cl .u8 S) 81 ∧ Below w.heap.size w W
theorem AtC.keep {w wr : World} {C S : List Nat} {W W' : World} (h : AtC w wr C S W) (hb : Below W.heap.size W W') : AtC w wr C S W' := ⟨blk_keep h.1 hb, blk_keep h.2.1 hb, blk_keep h.2.2.1 hb, bel_trans h.2.2.2 hb h.2.2.2.size⟩
theorem AtC.set {w wr : World} {C S : List Nat} {W : World} (h : AtC w wr C S W) {p : Nat} (h1 : wr.heap.size < p) (h2 : w.heap.size + 1 < wr.heap.size) (cs : Array Value) : AtC w wr C S (W.setRow p cs) := ⟨blk_setRow_ne h.1 _ (by omega), blk_setRow_ne h.2.1 _ (by omega), blk_setRow_ne h.2.2.1 _ (by omega), bel_setRow h.2.2.2 (by omega) _⟩
def BC (w wr : World) (leaf C S : List Nat) (i m n b o c : Nat) (u22 u23 u24 u25 u26 u27 u28 u29 u30 u31 u32 u33 u34 u35 u36 u37 u38 u39 u40 : Value) (x : Act) (W : World) : Prop :=
  ∃ v11 v12 v20 v21, x = FrC w wr leaf S i m n b o c u22 u23 u24 u25 u26 u27 u28 u29 u30 u31 u32 u33 u34 u35 u36 u37 u38 u39 u40 v11 v12 v20 v21 ∧ AtC w wr C S W ∧ (∀ p, v11 = .pointer (some ⟨p, 0, none⟩) → wr.heap.size < p → ∃ cs : List Nat, cs.length = 16 ∧ blk W p (cl .u8 cs) 81) ∧ (∀ p, v12 = .pointer (some ⟨p, 0, none⟩) → wr.heap.size < p → blk W p (cl .u8 (zs 16)) 81) ∧ (∀ p, v11 = .pointer (some ⟨p, 0, none⟩) → v12 = .pointer (some ⟨p, 0, none⟩) → wr.heap.size < p → False)
def GC (wr : World) (C S : List Nat) (j : Nat) (x : Act) (W : World) : Prop := match j with
  | 0 => x.tmps.getD 20 undef = agg .u8 C
  | 1 => x.tmps.getD 21 undef = agg .u8 S
  | 2 => ∃ p, x.tmps.getD 11 undef = .pointer (some ⟨p, 0, none⟩) ∧ wr.heap.size < p
  | 3 => ∃ p, x.tmps.getD 12 undef = .pointer (some ⟨p, 0, none⟩) ∧ wr.heap.size < p
  | 4 => ∃ p, x.tmps.getD 11 undef = .pointer (some ⟨p, 0, none⟩) ∧ wr.heap.size < p ∧ blk W p (cl .u8 C) 81
  | _ => True
def UC (wr : World) (j : Nat) (x : Act) (W : World) : Prop := match j with
  | 2 => ∀ p, x.tmps.getD 11 undef = .pointer (some ⟨p, 0, none⟩) → p < wr.heap.size
  | _ => True

set_option maxRecDepth 20000 in
set_option maxHeartbeats 8000000 in
theorem climb (w : World) (leaf : List Nat) (i : Nat) (v : Value) (ps : List (List Nat)) (hleaf : leaf.length = 16) (hv : SlN w v ps) (hN : N16 ps) (hn : ps.length ≤ 20) (hi : i ≤ 65535) :
    Calls Tryz.prog 78 #[agg .u8 leaf, .int .i64 (i : Int), v, .func (.func 79) #[] #[]] w fun e w' => e = .returned (agg .u8 (climbF leaf i ps ps.length)) ∧ Below w.heap.size w w' := by
  have HV := Lib.hid hv
  have HN := Lib.hid hN
  obtain ⟨A, c, rfl, -⟩ := id hv
  have lF := climbF_length hleaf i ps
  have LF := Lib.hid lF
  obtain ⟨n, hne⟩ : ∃ n, n = ps.length := ⟨_, rfl⟩
  have HE := Lib.hid hne
  rw [← hne] at hn ⊢
  clear hv hN lF hne
  go_enter Tryz.func78, Tryz.ntmps78
  go_wp2_with fail
  go_loopw [11, 12, 15] (fun x11 x12 k wr => ∃ m : Nat, m ≤ n ∧ k = .int .i64 (m : Int) ∧ blk wr w.heap.size (cl .u8 (climbF leaf i ps m)) 81 ∧ blk wr (w.heap.size + 1) (cl .u8 (zs 16)) 81 ∧ Below w.heap.size w wr ∧ (∀ p, x11 = .pointer (some ⟨p, 0, none⟩) → p < wr.heap.size) ∧ (∀ p, x12 = .pointer (some ⟨p, 0, none⟩) → p < wr.heap.size)) (fun _ _ k _ => n - (intOf k).toNat)
  case atStart => exact ⟨0, by omega, rfl, blk_alloc (blk_new _ _ _) _, blk_at _ _ _ (by simp only [alloc_size]), ((Below.refl w.heap.size w).alloc (Nat.le_refl _) _).alloc (by simp only [alloc_size]; omega) _, fun p h => (by cases h), fun p h => (by cases h)⟩
  case round =>
    obtain ⟨m, hm, rfl, hb0, hb1, hb, hu11, hu12⟩ := hrel
    have U11 := Lib.hid hu11
    have U12 := Lib.hid hu12
    clear hu11 hu12
    by_cases hmn : m < n
    · obtain ⟨b, o, c', hbo, hmc, hlt, hcl⟩ := slc_addr HV.out (by rw [← HE.out]; omega)
      cases hbo
      have q1 := ld_node (i := m) HN.out (by rw [← HE.out]; omega) (fun j u hj => (hb.cell (p := ⟨b, o + j, none⟩) hlt).trans (hcl j u hj))
      have lS := HN.out.getD (i := m) (by rw [← HE.out]; omega)
      have lC := LF.out m
      obtain ⟨q, hq⟩ : ∃ q, q = i / 2 ^ m := ⟨_, rfl⟩
      have hq2 : q ≤ 65535 := by rw [hq]; exact Nat.le_trans (Nat.div_le_self _ _) hi
      have r2 : bits .and .i64 ((i : Int) / 2 ^ m) 1 = ((q % 2 : Nat) : Int) := by
        have e : (i : Int) / 2 ^ m = (q : Int) := by rw [hq]; norm_cast
        rw [e]
        exact bits_and1 q (by omega)
      obtain ⟨S, hS⟩ : ∃ S, S = ps.getD m [] := ⟨_, rfl⟩
      obtain ⟨C, hC⟩ : ∃ C, C = climbF leaf i ps m := ⟨_, rfl⟩
      rw [← hS] at q1 lS
      rw [← hC] at lC hb0
      have B0 := Lib.hid hb0
      have B1 := Lib.hid hb1
      have X0 := Lib.hid hq
      have X1 := Lib.hid hS
      have X2 := Lib.hid hC
      have k0 := bk_of hb0
      have l0 := blk_lt hb0
      clear hb0 hb1 hq hS hC hcl
      have hsw : w.heap.size + 1 < wr.heap.size := blk_lt B1.out
      have hbs := hb.size
      go_wp2_with fail
      refine Ord.wp_region_inv2 5 (BC w wr leaf C S i m n b o c u22 u23 u24 u25 u26 u27 u28 u29 u30 u31 u32 u33 u34 u35 u36 u37 u38 u39 u40) (GC wr C S) (UC wr) (by kernel_rfl) (by kernel_rfl) ⟨_, _, _, _, rfl, ⟨blk_drew (blk_alloc B0.out (.cells (cl .u8 S).toArray 81)), blk_drew (blk_alloc B1.out _), blk_drew (blk_new _ _ _), (hb.alloc hb.size _).drew⟩, fun p h hp => absurd (U11.out p h) (by omega), fun p h hp => absurd (U12.out p h) (by omega), fun p h _ hp => absurd (U11.out p h) (by omega)⟩ (fun j hj => by match j, hj with | 0, _ => trivial | 1, _ => trivial | 2, _ => exact U11.out | 3, _ => trivial | 4, _ => trivial) ?_ ?_
      · intro j op hj ho x W hB hU hG
        obtain ⟨v11, v12, v20, v21, rfl, hA, h7, h8, hne⟩ := hB
        have z0 := bk_of hA.1
        have z1 := bk_of hA.2.2.1
        have HA := Lib.hid hA
        have H7 := Lib.hid h7
        have H8 := Lib.hid h8
        have HN' := Lib.hid hne
        clear hA h7 h8 hne
        match j, hj with

        | 0, _ =>
          cases ho
          clear hG hU
          unfold FrC
          go_wp2_with fail
          refine ⟨⟨v11, v12, _, v21, rfl, HA.out, H7.out, H8.out, HN'.out⟩, rfl, ?_⟩
          intro j hj hji
          match j, hj with
          | 0, _ => exact absurd rfl hji
          | 1, _ => exact ⟨fun h => h, fun h => h⟩
          | 2, _ => exact ⟨fun h => h, fun h => h⟩
          | 3, _ => exact ⟨fun h => h, fun h => h⟩
          | 4, _ => exact ⟨fun h => h, fun h => h⟩
        | 1, _ =>
          cases ho
          clear hG hU
          unfold FrC
          go_wp2_with fail
          refine ⟨⟨v11, v12, v20, _, rfl, HA.out, H7.out, H8.out, HN'.out⟩, rfl, ?_⟩
          intro j hj hji
          match j, hj with
          | 0, _ => exact ⟨fun h => h, fun h => h⟩
          | 1, _ => exact absurd rfl hji
          | 2, _ => exact ⟨fun h => h, fun h => h⟩
          | 3, _ => exact ⟨fun h => h, fun h => h⟩
          | 4, _ => exact ⟨fun h => h, fun h => h⟩
        | 2, _ =>
          cases ho
          have hU2 : ∀ p, v11 = .pointer (some ⟨p, 0, none⟩) → p < wr.heap.size := hU
          clear hG hU
          have U2 := Lib.hid hU2
          clear hU2
          unfold FrC
          go_wp2_with fail
          have hk : Below W.heap.size W (W.alloc (.cells (cl .u8 (zs 16)).toArray 81)) := (Below.refl _ _).alloc (Nat.le_refl _) _
          have hsz := blk_lt HA.out.2.2.1
          refine ⟨⟨_, v12, v20, v21, rfl, HA.out.keep hk, (fun p h hp => by cases h; exact ⟨zs 16, rfl, blk_new _ _ _⟩), (fun p h hp => blk_keep (H8.out p h hp) hk), (fun p h h' hp => by cases h; have := blk_lt (H8.out _ h' hp); omega)⟩, ⟨_, rfl, by omega⟩, ?_⟩
          intro j hj hji
          match j, hj with
          | 0, _ => exact ⟨fun h => h, fun h => h⟩
          | 1, _ => exact ⟨fun h => h, fun h => h⟩
          | 2, _ => exact absurd rfl hji
          | 3, _ => exact ⟨fun h => h, fun h => h⟩
          | 4, _ => exact ⟨fun ⟨p, hp, hq, _⟩ => absurd (U2.out p hp) (by omega), fun h => h⟩
        | 3, _ =>
          cases ho
          clear hG hU
          unfold FrC
          go_wp2_with fail
          have hk : Below W.heap.size W (W.alloc (.cells (cl .u8 (zs 16)).toArray 81)) := (Below.refl _ _).alloc (Nat.le_refl _) _
          have hsz := blk_lt HA.out.2.2.1
          refine ⟨⟨v11, _, v20, v21, rfl, HA.out.keep hk, (fun p h hp => by obtain ⟨cs, hcs, hb⟩ := H7.out p h hp; exact ⟨cs, hcs, blk_keep hb hk⟩), (fun p h hp => by cases h; exact blk_new _ _ _), (fun p h' h hp => by cases h; obtain ⟨cs, hcs, hb⟩ := H7.out _ h' hp; have := blk_lt hb; omega)⟩, ⟨_, rfl, by omega⟩, ?_⟩
          intro j hj hji
          match j, hj with
          | 0, _ => exact ⟨fun h => h, fun h => h⟩
          | 1, _ => exact ⟨fun h => h, fun h => h⟩
          | 2, _ => exact ⟨fun h => h, fun h => h⟩
          | 3, _ => exact absurd rfl hji
          | 4, _ => exact ⟨fun ⟨p, hp, hq, hb⟩ => ⟨p, hp, hq, blk_keep hb hk⟩, fun h => h⟩
        | 4, _ =>
          cases ho
          have g : v20 = agg .u8 C := hG ⟨0, .data⟩ (by simp) rfl
          obtain ⟨p7, g7, hp7⟩ : ∃ p, v11 = .pointer (some ⟨p, 0, none⟩) ∧ wr.heap.size < p := hG ⟨2, .data⟩ (by simp) rfl
          subst g g7
          obtain ⟨cs, hcs, hB7⟩ := H7.out p7 rfl hp7
          have k7 := bk_of hB7
          have K7 := Lib.hid hB7
          clear hG hU hB7
          unfold FrC
          go_wp2_with fail
          refine ⟨⟨_, v12, _, v21, rfl, HA.out.set hp7 hsw _, (fun p h hp => by cases h; exact ⟨C, lC, blk_setRow K7.out (cl .u8 C)⟩), (fun p h hp => blk_setRow_ne (H8.out p h hp) _ (fun e => HN'.out p7 rfl (by rw [h, e]) hp7)), HN'.out⟩, ⟨p7, rfl, hp7, blk_setRow K7.out (cl .u8 C)⟩, ?_⟩
          intro j hj hji
          match j, hj with
          | 0, _ => exact ⟨fun h => h, fun h => h⟩
          | 1, _ => exact ⟨fun h => h, fun h => h⟩
          | 2, _ => exact ⟨fun h => h, fun h => h⟩
          | 3, _ => exact ⟨fun h => h, fun h => h⟩
          | 4, _ => exact absurd rfl hji
      · intro x W hB hG
        obtain ⟨v11, v12, v20, v21, rfl, hA, h7, h8, hne⟩ := hB
        have g0 : v20 = agg .u8 C := hG 0 (by omega)
        have g1 : v21 = agg .u8 S := hG 1 (by omega)
        obtain ⟨p7, g2, hp7⟩ : ∃ p, v11 = .pointer (some ⟨p, 0, none⟩) ∧ wr.heap.size < p := hG 2 (by omega)
        obtain ⟨p8, g3, hp8⟩ : ∃ p, v12 = .pointer (some ⟨p, 0, none⟩) ∧ wr.heap.size < p := hG 3 (by omega)
        have hB7 : blk W p7 (cl .u8 C) 81 := by
          obtain ⟨p, e1, _, e2⟩ := hG 4 (by omega)
          have e3 : v11 = .pointer (some ⟨p, 0, none⟩) := e1
          rw [g2] at e3
          cases e3
          exact e2
        have hB8 := h8 p8 g3 hp8
        have hn78 : p7 ≠ p8 := fun e => hne p7 g2 (by rw [g3, e]) hp7
        subst g0 g1 g2 g3
        have hn87 : p8 ≠ p7 := fun e => hn78 e.symm
        have k8 := bk_of hB8
        have T0 := Lib.hid (And.intro (hA.set hp8 hsw (cl .u8 S).toArray) (And.intro (blk_setRow_ne hB7 (cl .u8 S).toArray hn78) (blk_setRow hB8 (cl .u8 S))))
        clear hG hA h7 h8 hne hB7 hB8
        unfold FrC
        obtain ⟨d, hd⟩ : ∃ d, d = q % 2 := ⟨_, rfl⟩
        rw [← hd] at r2
        have hd2 : d = 0 ∨ d = 1 := by omega
        have HD := Lib.hid hd
        clear hd
        rcases hd2 with rfl | rfl
        · rw [show ((0 : Nat) : Int) = 0 from rfl] at r2
          have k7w := bk_of T0.out.2.1
          have k8w := bk_of T0.out.2.2
          go_wp2_with fail
          clear k7w k8w
          obtain ⟨W1, hW1⟩ : ∃ W1, W1 = W.setRow p8 (cl .u8 S).toArray := ⟨_, rfl⟩
          rw [← hW1] at T0 ⊢
          clear hW1 k8
          have k7 := bk_of T0.out.2.1
          have k8 := bk_of T0.out.2.2
          refine (visit W1 _ C S).mono ?_
          rintro e w2 ⟨rfl, hw2⟩
          have T1 := Lib.hid (And.intro (T0.out.1.keep hw2) (And.intro (blk_keep T0.out.2.1 hw2) (blk_keep T0.out.2.2 hw2)))
          have k7 := bk_of T1.out.2.1
          have k8 := bk_of T1.out.2.2
          clear hw2
          have cJ := joinI w2 m C S lC lS (by omega)
          have CJ := Lib.hid cJ
          clear cJ
          go_wp2_with fail
          refine CJ.out.mono ?_
          rintro e w3 ⟨rfl, hw3⟩
          have T2 := Lib.hid (And.intro (T1.out.1.keep hw3) (And.intro (blk_keep T1.out.2.1 hw3) (blk_keep T1.out.2.2 hw3)))
          have k0 := bk_of T2.out.1.1
          have lZ := joinN_length (m + 1) C S
          have eZ : joinN (m + 1) C S = climbF leaf i ps (m + 1) := by
            rw [climbF, ← X0.out, ← HD.out, ← X1.out, ← X2.out]; rfl
          clear hw3
          rw [eZ] at lZ ⊢
          have EZ := Lib.hid eZ
          clear eZ
          go_wp2_with fail
          have i7 := blk_lt T2.out.2.1
          have i8 := blk_lt T2.out.2.2
          exact ⟨⟨m + 1, by omega, by go_num, blk_setRow T2.out.1.1 (cl .u8 (climbF leaf i ps (m + 1))), blk_setRow_ne T2.out.1.2.1 _ (by omega), bel_setRow T2.out.1.2.2.2 (Nat.le_refl _) _, fun p h => (by cases h; simpa using i7), fun p h => (by cases h; simpa using i8)⟩, by simp [intOf]; omega⟩
        · rw [show ((1 : Nat) : Int) = 1 from rfl] at r2
          go_wp2_with fail
          obtain ⟨W1, hW1⟩ : ∃ W1, W1 = W.setRow p8 (cl .u8 S).toArray := ⟨_, rfl⟩
          rw [← hW1] at T0 ⊢
          clear hW1 k8
          have k7 := bk_of T0.out.2.1
          have k8 := bk_of T0.out.2.2
          have z0 := bk_of T0.out.1.1
          have z1 := bk_of T0.out.1.2.2.1
          have z2 : bk (W1.drew.setRow p7 (cl .u8 S).toArray) w.heap.size = some (cl .u8 C).toArray := (bk_setRow_other _ (by omega)).trans z0
          have z3 : bk (W1.drew.setRow p7 (cl .u8 S).toArray) p8 = some (cl .u8 S).toArray := (bk_setRow_other _ hn87).trans k8
          go_region
          obtain ⟨W2, hW2⟩ : ∃ W2, W2 = (W1.drew.setRow p7 (cl .u8 S).toArray).setRow p8 (cl .u8 C).toArray := ⟨_, rfl⟩
          have T5 := Lib.hid (And.intro (((T0.out.1.keep (Below.refl _ _).drew).set hp7 hsw (cl .u8 S).toArray).set hp8 hsw (cl .u8 C).toArray) (And.intro (blk_setRow_ne (blk_setRow (blk_drew T0.out.2.1) (cl .u8 S)) (cl .u8 C).toArray hn78) (blk_setRow (blk_setRow_ne (blk_drew T0.out.2.2) (cl .u8 S).toArray hn87) (cl .u8 C))))
          rw [← hW2] at T5 ⊢
          clear hW2 k7 k8 z0 z1 z2 z3
          have k7 := bk_of T5.out.2.1
          have k8 := bk_of T5.out.2.2
          go_wp2_with fail
          refine (visit W2 _ S C).mono ?_
          rintro e w2 ⟨rfl, hw2⟩
          have T1 := Lib.hid (And.intro (T5.out.1.keep hw2) (And.intro (blk_keep T5.out.2.1 hw2) (blk_keep T5.out.2.2 hw2)))
          have k7 := bk_of T1.out.2.1
          have k8 := bk_of T1.out.2.2
          clear hw2
          have cJ := joinI w2 m S C lS lC (by omega)
          have CJ := Lib.hid cJ
          clear cJ
          go_wp2_with fail
          refine CJ.out.mono ?_
          rintro e w3 ⟨rfl, hw3⟩
          have T2 := Lib.hid (And.intro (T1.out.1.keep hw3) (And.intro (blk_keep T1.out.2.1 hw3) (blk_keep T1.out.2.2 hw3)))
          have k0 := bk_of T2.out.1.1
          have lZ := joinN_length (m + 1) S C
          have eZ : joinN (m + 1) S C = climbF leaf i ps (m + 1) := by
            rw [climbF, ← X0.out, ← HD.out, ← X1.out, ← X2.out]; rfl
          clear hw3
          rw [eZ] at lZ ⊢
          have EZ := Lib.hid eZ
          clear eZ
          go_wp2_with fail
          have i7 := blk_lt T2.out.2.1
          have i8 := blk_lt T2.out.2.2
          exact ⟨⟨m + 1, by omega, by go_num, blk_setRow T2.out.1.1 (cl .u8 (climbF leaf i ps (m + 1))), blk_setRow_ne T2.out.1.2.1 _ (by omega), bel_setRow T2.out.1.2.2.2 (Nat.le_refl _) _, fun p h => (by cases h; simpa using i7), fun p h => (by cases h; simpa using i8)⟩, by simp [intOf]; omega⟩
    · obtain rfl : m = n := by omega
      have k0 := bk_of hb0
      have k1 := bk_of hb1
      have lZ := LF.out m
      have HB1 := Lib.hid hb1
      clear hb0 hb1
      go_wp2_with fail
      refine ret_node rfl rfl (blk_setRow HB1.out (cl .u8 (climbF leaf i ps m))) lZ rfl ⟨rfl, bel_setRow hb (by omega) _⟩
end Go.Proofs.YtlgpipdeckdmjaaGreat.Mer
/-
  merkle.From; the path of a leaf leads to the root.
-/
set_option linter.unusedVariables false
set_option linter.unusedSimpArgs false
namespace Go.Proofs.YtlgpipdeckdmjaaGreat.Mer
open Go.RowKit Base Reg Types Slice Sha
open Go.Proofs.YtlgpipdeckdmjaaGreat.One
open Go.Proofs.YtlgpipdeckdmjaaGreat.Str
theorem lv0_getD (N : Nat → List Nat) {k j : Nat} (h : j < k) : (lv0 N k).getD j [] = N j := by simp [lv0, List.getD, h]
theorem climbF_congr {leaf : List Nat} {i : Nat} {ps qs : List (List Nat)} : ∀ {m : Nat}, (∀ j, j < m → ps.getD j [] = qs.getD j []) → climbF leaf i ps m = climbF leaf i qs m
  | 0, _ => rfl
  | m + 1, h => by unfold climbF; rw [climbF_congr (fun j hj => h j (by omega)), h m (by omega)]
/-- The path of a leaf leads to the root. -/
theorem climb_path {ns : List (List Nat)} {h i : Nat} (hl : ns.length = 2 ^ h) (hh : h ≤ 8) (hi : i < 2 ^ h) : ∀ m, m ≤ h → climbF (ns.getD i []) i (lv0 (pathF ns i) h) m = (row ns m).getD (i / 2 ^ m) []
  | 0, _ => by rw [climbF, row, Nat.pow_zero, Nat.div_one]
  | m + 1, hm => by
    have ih := climb_path hl hh hi m (by omega)
    have lr := row_length hl m (by omega)
    have h1 := idx_lt hi (show m < h by omega)
    have h2 : 2 ^ (h - m) ≤ 2 ^ 8 := Nat.pow_le_pow_right (by omega) (by omega)
    obtain ⟨q, hq⟩ : ∃ q, h - m = q + 1 := ⟨h - m - 1, by omega⟩
    obtain ⟨n, hn⟩ : ∃ n, n = i / 2 ^ m := ⟨_, rfl⟩
    rw [climbF, ih, lv0_getD _ (by omega), pathF, Nat.pow_succ, ← Nat.div_div_eq_div_mul, ← hn]
    rw [← hn, hq, Nat.pow_succ] at h1
    rw [hq, Nat.pow_succ] at lr h2
    have hx := xor1 n (by omega)
    rw [row, lv0_getD _ (by rw [lr]; omega), pairUp, hx]
    by_cases hodd : n % 2 = 1
    · rw [if_pos hodd, if_pos hodd, show 2 * (n / 2) = n - 1 by omega, show n - 1 + 1 = n by omega]
    · rw [if_neg hodd, if_neg hodd, show 2 * (n / 2) = n by omega]
theorem climb_root {ns : List (List Nat)} {h i : Nat} (hl : ns.length = 2 ^ h) (hh : h ≤ 8) (hi : i < 2 ^ h) : climbF (ns.getD i []) i (lv0 (pathF ns i) h) h = rootN ns h := by
  rw [climb_path hl hh hi h (Nat.le_refl _), Nat.div_eq_of_lt hi]
  rfl
theorem pathF_length {ns : List (List Nat)} {h i k : Nat} (hN : N16 ns) (hl : ns.length = 2 ^ h) (hh : h ≤ 8) (hi : i < 2 ^ h) (hk : k < h) : (pathF ns i k).length = 16 := (row_16 hN k).getD (by rw [row_length hl k (by omega)]; exact sib_lt hi hk hh)
theorem path_16 {ns : List (List Nat)} {h i : Nat} (hN : N16 ns) (hl : ns.length = 2 ^ h) (hh : h ≤ 8) (hi : i < 2 ^ h) : N16 (lv0 (pathF ns i) h) := fun x hx => by
  obtain ⟨k, hk, rfl⟩ := List.mem_map.1 hx
  exact pathF_length hN hl hh hi (List.mem_range.1 hk)
set_option maxRecDepth 20000 in
theorem from_in (w : World) (leaf : List Nat) (i : Nat) (v : Value) (ps : List (List Nat)) (hleaf : leaf.length = 16) (hv : SlN w v ps) (hN : N16 ps) (hn : ps.length ≤ 8) (hi : i < 2 ^ ps.length) :
    Calls Tryz.prog 45 #[agg .u8 leaf, .int .i64 (i : Int), v] w fun e w' => e = .returned (.tuple #[agg .u8 (climbF leaf i ps ps.length), .int .i64 0]) ∧ Below w.heap.size w w' := by
  have p8 : 2 ^ ps.length ≤ 2 ^ 8 := Nat.pow_le_pow_right (by omega) hn
  have HV := Lib.hid fun W hW => climb W leaf i v ps hleaf (hv.keep hW) hN (by omega) (by omega)
  have lF := climbF_length hleaf i ps ps.length
  obtain ⟨A, c, rfl, -⟩ := hv
  obtain ⟨n, hne⟩ : ∃ n, n = ps.length := ⟨_, rfl⟩
  obtain ⟨Z, hZ⟩ : ∃ Z, Z = climbF leaf i ps ps.length := ⟨_, rfl⟩
  rw [← hZ] at HV lF ⊢
  rw [← hne] at HV hn hi p8 ⊢
  have hi' : (i : Int) < 2 ^ n := by exact_mod_cast hi
  have p8' : (2 : Int) ^ n ≤ 256 := by exact_mod_cast p8
  clear hN hne hZ
  go_enter Tryz.func45, Tryz.ntmps45
  go_wp2_with fail
  refine (HV.out _ (((Below.refl w.heap.size w).alloc (Nat.le_refl _) _).alloc (by simp only [alloc_size]; omega) _)).mono ?_
  rintro e w1 ⟨rfl, hb1⟩
  have hR1 := blk_keep (blk_at (w.alloc (.cells (cl .u8 leaf).toArray 81)) (cl .u8 (zs 16)) 81 (b := w.heap.size + 1) (by simp only [alloc_size])) hb1
  have hB1 := bel_trans (((Below.refl w.heap.size w).alloc (Nat.le_refl _) (.cells (cl .u8 leaf).toArray 81)).alloc (by simp only [alloc_size]; omega) (.cells (cl .u8 (zs 16)).toArray 81)) hb1 (by simp only [alloc_size]; omega)
  have k1 := bk_of hR1
  clear hb1
  go_wp2_with fail
  refine ret2_node rfl rfl rfl (blk_setRow hR1 (cl .u8 Z)) lF rfl ⟨rfl, bel_setRow hB1 (by omega) _⟩
end Go.Proofs.YtlgpipdeckdmjaaGreat.Mer
/-
  The reference of layer 6: half, Leaf, Join, Height.
-/
set_option linter.unusedVariables false
set_option linter.unusedSimpArgs false
namespace Go.Proofs.YtlgpipdeckdmjaaGreat.Rm
open Go.RowKit Base Reg Types Slice Sha
open Go.Proofs.YtlgpipdeckdmjaaGreat.One
open Go.Proofs.YtlgpipdeckdmjaaGreat.Str
open Go.Proofs.YtlgpipdeckdmjaaGreat.Mer
open Go.Proofs.YtlgpipdeckdmjaaGreat.Ref (hf_map sl_lit')
theorem half (w : World) (M : List Nat) (x : Value) (hx : Sl w x M) (hM : M.length ≤ 1000000) :
    Calls Tryz.prog 82 #[x] w fun e w' => e = .returned (agg .u8 (hf M)) ∧ Below w.heap.size w w' := by
  have H := Lib.hid hx
  clear hx
  have hl := sha_length M
  go_enter Tryz.func82, Tryz.ntmps82
  go_wp2_with fail
  refine (Ref.sum_calls _ M x (H.out.keep ((Below.refl _ _).alloc (Nat.le_refl _) _)) hM).mono ?_
  rintro e w1 ⟨rfl, hb1⟩
  have hB1 := Lib.hid (blk_keep (blk_new w (cl .u8 (zs 16)) 93) hb1)
  have hbel1 := Lib.hid (bel_trans ((Below.refl _ w).alloc (Nat.le_refl _) _) hb1 (by simp only [alloc_size]; omega))
  clear hb1
  go_wp2_with fail
  go_loopw [5] (fun i wr => ∃ k : Nat, k ≤ 16 ∧ i = .int .i64 k ∧ blk wr w.heap.size (cl .u8 (zs 16)) 93 ∧ blk wr w1.heap.size (cl .u8 (sha M)) 22 ∧ blk wr (w1.heap.size + 1) (cl .u8 (upto 16 k fun j => (sha M).getD j 0)) 93 ∧ Below w.heap.size w wr) (fun i _ => 16 - (intOf i).toNat)
  case atStart =>
    exact ⟨0, by omega, rfl, blk_alloc (blk_alloc hB1.out _) _, blk_alloc (blk_new _ _ _) _, by rw [upto_zero]; exact blk_at _ _ _ (by simp only [alloc_size]), (hbel1.out.alloc hbel1.out.size _).alloc (by have := hbel1.out.size; simp only [alloc_size]; omega) _⟩
  case round =>
    obtain ⟨k, hk, rfl, hb1, hb2, hb3, hbel⟩ := hrel
    have hl2 : (upto 16 k fun j => (sha M).getD j 0).length = 16 := upto_length _ _ _
    have hw1 := hbel1.out.size
    have hlt := blk_lt hB1.out
    by_cases hk2 : k < 16
    · have c1 : wr.cell? ⟨w1.heap.size, k, none⟩ = some (.int .u8 (((sha M).getD k 0 : Nat) : Int)) := (blk_cell hb2 k).trans (cl_get _ _ _ (by omega))
      have c2 : wr.cell? ⟨w1.heap.size + 1, k, none⟩ = some (.int .u8 (((upto 16 k fun j => (sha M).getD j 0).getD k 0 : Nat) : Int)) := (blk_cell hb3 k).trans (cl_get _ _ _ (by omega))
      have f2 := blk_free hb3 k
      obtain ⟨u, hu⟩ : ∃ u, u = (sha M).getD k 0 := ⟨_, rfl⟩
      rw [← hu] at c1
      have HU := Lib.hid hu
      have H1 := Lib.hid hb1
      have H2 := Lib.hid hb2
      have H3 := Lib.hid hb3
      clear hb1 hb2 hb3 hu
      go_wp2_with fail
      refine ⟨⟨k + 1, by omega, by go_num, blk_setCell_ne H1.out _ (by simp; omega), blk_setCell_ne H2.out _ (by simp), ?_, bel_setCell hbel (by simp; omega) _⟩, by simp [intOf]; omega⟩
      have h := blk_setCell H3.out k (.int .u8 ((u : Nat) : Int))
      rw [HU.out, cl_set, upto_set 16 k (fun j => (sha M).getD j 0) hk2, ← HU.out] at h
      exact h
    · obtain rfl : k = 16 := by omega
      rw [upto_full, hf_map] at hb3
      have hl3 := hf_length M
      have q1 := bk_of hb1
      have q3 := bk_of hb3
      have H1 := Lib.hid hb1
      clear hb1 hb2 hb3 hl2
      go_wp2_with fail
      refine ret_rn rfl rfl (blk_setRow H1.out (cl .u8 (hf M))) hl3 rfl ⟨rfl, bel_setRow hbel (Nat.le_refl _) _⟩
set_option maxRecDepth 20000 in
theorem leaf (w : World) (i : Nat) (b : List Nat) (x : Value) (hx : Sl w x b) (hb : b.length ≤ 999000) (hi : i ≤ 65535) :
    Calls Tryz.prog 50 #[.int .i64 (i : Int), x] w fun e w' => e = .returned (agg .u8 (leafN i b)) ∧ Below w.heap.size w w' := by
  have H := Lib.hid hx
  clear hx
  go_enter Tryz.func50, Tryz.ntmps50
  have eh : ∀ W : World, W.alloc (.cells #[.int .u8 0, .int .u8 ((i : Int) / 16777216), .int .u8 ((i : Int) / 65536), .int .u8 ((i : Int) / 256), .int .u8 ((i : Int) % 256)] 5) = W.alloc (.cells (cl .u8 (hd 0 i)).toArray 5) := by
    intro W
    have h1 : (i : Int) / 16777216 = ((i / 16777216 % 256 : Nat) : Int) := by omega
    have h2 : (i : Int) / 65536 = ((i / 65536 % 256 : Nat) : Int) := by omega
    have h3 : (i : Int) / 256 = ((i / 256 % 256 : Nat) : Int) := by omega
    have h4 : (i : Int) % 256 = ((i % 256 : Nat) : Int) := by omega
    rw [h1, h2, h3, h4]
    rfl
  have EH := Lib.hid eh
  clear eh
  go_wp2_with (
    at_builtin
    rw [EH.out]
    refine wpList_append_bytes rfl (.tmp 19) (.tmp 20) rfl rfl rfl (base := w.heap.size + 1) (l := hd 0 i) ?_ ((H.out.keep ((Below.refl _ _).alloc (Nat.le_refl _) (.cells (cl .u8 (zs 16)).toArray 93))).keep ((Below.refl _ _).alloc (Nat.le_refl _) _)) (by simp [hd]; omega) (by simp only [alloc_size]; omega) ?_
    · have h := own_bytes (w.alloc (.cells (cl .u8 (zs 16)).toArray 93)) (hd 0 i) (by simp [hd])
      rw [alloc_size] at h
      exact h
    intro v1 w1 ho1 hg1)
  have hB0 := blk_alloc (blk_new w (cl .u8 (zs 16)) 93) (.cells (cl .u8 (hd 0 i)).toArray 5)
  have hb0 := (((Below.refl w.heap.size w).alloc (Nat.le_refl _) (.cells (cl .u8 (zs 16)).toArray 93)).alloc (by simp only [alloc_size]; omega) (.cells (cl .u8 (hd 0 i)).toArray 5))
  have hb1 := hb0.grown hg1 hb0.size (fun k hk => by simp [Act.eval, Value.ownBlock] at hk; omega)
  have hB1 := blk_grown hB0 hg1 (by simp [Act.eval, Value.ownBlock])
  have hsl := SlC.of_own ho1
  have HB1 := Lib.hid hB1
  clear hb0 hB0 hg1 ho1 hB1
  go_wp2_with fail
  refine (half _ (hd 0 i ++ b) _ hsl (by simp [hd]; omega)).mono ?_
  rintro e w2 ⟨rfl, hb2⟩
  have hB2 := blk_keep HB1.out hb2
  have k2 := bk_of hB2
  have hbel := bel_trans hb1 hb2 hb1.size
  have hl := leafN_length i b
  rw [show hf (hd 0 i ++ b) = leafN i b from rfl]
  clear hb2 hsl
  go_wp2_with fail
  refine ret_rn rfl rfl (blk_setRow hB2 (cl .u8 (leafN i b))) hl rfl ⟨rfl, bel_setRow hbel (Nat.le_refl _) _⟩
theorem height (w : World) (h : Nat) (hh : h = 1 ∨ h = 2 ∨ h = 3) :
    Calls Tryz.prog 73 #[.int .i64 ((2 ^ h : Nat) : Int)] w fun e w' => e = .returned (.tuple #[.int .i64 (h : Int), .int .i64 0]) ∧ w = w' := by
  have e2 : ((2 ^ h : Nat) : Int) = (2 : Int) ^ h := by norm_cast
  rw [e2]
  clear e2
  rcases hh with rfl | rfl | rfl
  all_goals
    go_enter Tryz.func73, Tryz.ntmps73
    go_wp2
    refine wp_loop_rounds 4 ?_
    iterate 4
      try (rw [rounds_succ]; go_wp2)
    go_ret2
    exact ⟨rfl, rfl⟩
end Go.Proofs.YtlgpipdeckdmjaaGreat.Rm
/-
  The reference of layer 6: Join, Node, Root.
-/
set_option linter.unusedVariables false
set_option linter.unusedSimpArgs false
namespace Go.Proofs.YtlgpipdeckdmjaaGreat.Rm
open Go.RowKit Base Reg Types Slice Sha
open Go.Proofs.YtlgpipdeckdmjaaGreat.One
open Go.Proofs.YtlgpipdeckdmjaaGreat.Str
open Go.Proofs.YtlgpipdeckdmjaaGreat.Mer
open Go.Proofs.YtlgpipdeckdmjaaGreat.Ref (hf_map sl_lit')
theorem take_one (a : List Nat) {k : Nat} (hk : k < a.length) : a.take k ++ [a.getD k 0] = a.take (k + 1) := by
  rw [List.take_succ_eq_append_getElem hk, List.getD_eq_getElem?_getD, List.getElem?_eq_getElem hk]
  rfl
set_option maxRecDepth 20000 in
set_option maxHeartbeats 4000000 in
theorem join (w : World) (lv : Nat) (a b : List Nat) (ha : a.length = 16) (hb : b.length = 16) (hlv : lv ≤ 200) :
    Calls Tryz.prog 51 #[.int .i64 (lv : Int), agg .u8 a, agg .u8 b] w fun e w' => e = .returned (agg .u8 (joinN lv a b)) ∧ Below w.heap.size w w' := by
  have HA := Lib.hid ha
  have HB := Lib.hid hb
  clear ha hb
  go_enter Tryz.func51, Tryz.ntmps51
  have elv : ((lv : Int) % 256) = (lv : Int) := by omega
  go_wp2_with fail
  have elv2 : lv % 256 = lv := by omega
  have EL := Lib.hid elv2
  clear elv2
  go_loopw [7, 8] (fun v i wr => ∃ k : Nat, k ≤ 16 ∧ i = .int .i64 k ∧ Own wr (w.heap.size + 1 + 1 + 1) v ([1, lv] ++ a.take k) ∧ blk wr w.heap.size (cl .u8 a) 93 ∧ blk wr (w.heap.size + 1) (cl .u8 b) 93 ∧ blk wr (w.heap.size + 1 + 1) (cl .u8 (zs 16)) 93 ∧ Below w.heap.size w wr ∧ w.heap.size + 1 + 1 + 1 ≤ wr.heap.size) (fun _ i _ => 16 - (intOf i).toNat)
  case atStart =>
    have h := own_bytes (((w.alloc (.cells (cl .u8 a).toArray 93)).alloc (.cells (cl .u8 b).toArray 93)).alloc (.cells (cl .u8 (zs 16)).toArray 93)) [1, lv] (by simp)
    simp only [alloc_size] at h
    refine ⟨0, by omega, rfl, h, blk_alloc (blk_alloc (blk_alloc (blk_new _ _ _) _) _) _, blk_alloc (blk_alloc (blk_at _ _ _ (by simp only [alloc_size])) _) _, blk_alloc (blk_at _ _ _ (by simp only [alloc_size])) _, ((((Below.refl _ _).alloc (Nat.le_refl _) _).alloc (by simp only [alloc_size]; omega) _).alloc (by simp only [alloc_size]; omega) _).alloc (by simp only [alloc_size]; omega) _, by simp only [alloc_size]; omega⟩
  case round =>
    obtain ⟨k, hk, rfl, ho, h1, h2, h3, hbel, hsz⟩ := hrel
    by_cases hk2 : k < 16
    · have c1 := (blk_cell h1 k).trans (cl_get .u8 a k (by rw [HA.out]; exact hk2))
      obtain ⟨x, hx⟩ : ∃ x, x = a.getD k 0 := ⟨_, rfl⟩
      rw [← hx] at c1
      have HX := Lib.hid hx
      have HO := Lib.hid ho
      have H1 := Lib.hid h1
      have H2 := Lib.hid h2
      have H3 := Lib.hid h3
      clear ho h1 h2 h3 hx
      go_wp2_with (
        at_builtin
        refine wpList_append_bytes rfl (.tmp 17) (.tmp 21) rfl rfl rfl (own_keep HO.out ((Below.refl _ _).alloc (Nat.le_refl _) _)) (sl_lit' wr _ [x] 1 rfl rfl (by simp) rfl) (by simp [HA.out]; omega) (by simp only [alloc_size]; omega) ?_
        intro v1 w2 ho1 hg1)
      have hb1 := hbel.alloc hbel.size (.cells #[.int .u8 (x : Int)] 5)
      have hb2 := hb1.grown hg1 hb1.size (fun j hj => by have := own_block HO.out j (by simpa [Act.eval] using hj); omega)
      have q1 := blk_grown (blk_alloc H1.out (.cells #[.int .u8 (x : Int)] 5)) hg1 (by intro e; have := own_block HO.out w.heap.size (by simpa [Act.eval] using e.symm); omega)
      have q2 := blk_grown (blk_alloc H2.out (.cells #[.int .u8 (x : Int)] 5)) hg1 (by intro e; have := own_block HO.out (w.heap.size + 1) (by simpa [Act.eval] using e.symm); omega)
      have q3 := blk_grown (blk_alloc H3.out (.cells #[.int .u8 (x : Int)] 5)) hg1 (by intro e; have := own_block HO.out (w.heap.size + 1 + 1) (by simpa [Act.eval] using e.symm); omega)
      have hs2 := hg1.size
      rw [alloc_size] at hs2
      rw [List.append_assoc, HX.out, take_one _ (by rw [HA.out]; exact hk2)] at ho1
      clear hg1 c1 hb1
      go_roundw
      case rel => exact ⟨k + 1, by omega, by go_num, ho1, q1, q2, q3, hb2, by omega⟩
      case measure => simp [intOf]; omega
    · obtain rfl : k = 16 := by omega
      rw [List.take_of_length_le (by rw [HA.out]; omega)] at ho
      have HO := Lib.hid ho
      have H1 := Lib.hid h1
      have H2 := Lib.hid h2
      have H3 := Lib.hid h3
      clear ho h1 h2 h3
      obtain ⟨wo, rfl⟩ : ∃ wo : World, wo = wr := ⟨_, rfl⟩
      rw [show ((16 : Nat) : Int) = 16 from rfl]
      go_wp2_with fail
      go_loopw [7, 9] (fun v i wr => ∃ k : Nat, k ≤ 16 ∧ i = .int .i64 k ∧ Own wr (w.heap.size + 1 + 1 + 1) v ([1, lv] ++ a ++ b.take k) ∧ blk wr w.heap.size (cl .u8 a) 93 ∧ blk wr (w.heap.size + 1) (cl .u8 b) 93 ∧ blk wr (w.heap.size + 1 + 1) (cl .u8 (zs 16)) 93 ∧ Below w.heap.size w wr ∧ w.heap.size + 1 + 1 + 1 ≤ wr.heap.size) (fun _ i _ => 16 - (intOf i).toNat)
      case atStart => exact ⟨0, by omega, rfl, by simpa using HO.out, H1.out, H2.out, H3.out, hbel, hsz⟩
      case round =>
        clear HO H1 H2 H3 hbel hsz
        obtain ⟨k, hk, rfl, ho, h1, h2, h3, hbel, hsz⟩ := hrel
        by_cases hk2 : k < 16
        · have c1 := (blk_cell h2 k).trans (cl_get .u8 b k (by rw [HB.out]; exact hk2))
          obtain ⟨x, hx⟩ : ∃ x, x = b.getD k 0 := ⟨_, rfl⟩
          rw [← hx] at c1
          have HX := Lib.hid hx
          have HO := Lib.hid ho
          have H1 := Lib.hid h1
          have H2 := Lib.hid h2
          have H3 := Lib.hid h3
          clear ho h1 h2 h3 hx
          go_wp2_with (
            at_builtin
            refine wpList_append_bytes rfl (.tmp 27) (.tmp 31) rfl rfl rfl (own_keep HO.out ((Below.refl _ _).alloc (Nat.le_refl _) _)) (sl_lit' wr _ [x] 1 rfl rfl (by simp) rfl) (by simp [HA.out]; omega) (by simp only [alloc_size]; omega) ?_
            intro v1 w2 ho1 hg1)
          have hb1 := hbel.alloc hbel.size (.cells #[.int .u8 (x : Int)] 5)
          have hb2 := hb1.grown hg1 hb1.size (fun j hj => by have := own_block HO.out j (by simpa [Act.eval] using hj); omega)
          have q1 := blk_grown (blk_alloc H1.out (.cells #[.int .u8 (x : Int)] 5)) hg1 (by intro e; have := own_block HO.out w.heap.size (by simpa [Act.eval] using e.symm); omega)
          have q2 := blk_grown (blk_alloc H2.out (.cells #[.int .u8 (x : Int)] 5)) hg1 (by intro e; have := own_block HO.out (w.heap.size + 1) (by simpa [Act.eval] using e.symm); omega)
          have q3 := blk_grown (blk_alloc H3.out (.cells #[.int .u8 (x : Int)] 5)) hg1 (by intro e; have := own_block HO.out (w.heap.size + 1 + 1) (by simpa [Act.eval] using e.symm); omega)
          have hs2 := hg1.size
          rw [alloc_size] at hs2
          rw [List.append_assoc, HX.out, take_one _ (by rw [HB.out]; exact hk2)] at ho1
          clear hg1 c1 hb1
          go_roundw
          case rel => exact ⟨k + 1, by omega, by go_num, ho1, q1, q2, q3, hb2, by omega⟩
          case measure => simp [intOf]; omega
        · obtain rfl : k = 16 := by omega
          rw [List.take_of_length_le (by rw [HB.out]; omega)] at ho
          have HO := Lib.hid (SlC.of_own ho)
          have H3 := Lib.hid h3
          have HL := Lib.hid (show ([1, lv] ++ a ++ b).length ≤ 1000 by simp [HA.out, HB.out])
          clear ho h1 h2 h3
          go_wp2_with fail
          refine (half wr _ _ HO.out (by have := HL.out; omega)).mono ?_
          rintro e w3 ⟨rfl, hb3⟩
          have hB3 := blk_keep H3.out hb3
          have k3 := bk_of hB3
          have lc := joinN_length lv a b
          have hbel3 := bel_trans hbel hb3 hbel.size
          rw [show hf ([1, lv] ++ a ++ b) = joinN lv a b from by rw [joinN, EL.out]]
          clear hb3
          go_wp2_with fail
          refine ret_rn rfl rfl (blk_setRow hB3 (cl .u8 (joinN lv a b))) lc rfl ⟨rfl, bel_setRow hbel3 (by omega) _⟩

end Go.Proofs.YtlgpipdeckdmjaaGreat.Rm
