/-
  Several texts laid into one (merge.py): Mer9, Mer10, Sgn1, Sgn2.
-/
import Derived.Test.YtlgpipdeckdmjaaNl14
import Derived.Test.YtlgpipdeckdmjaaNl08
/-
  merkle.From.
-/
set_option linter.unusedVariables false
set_option linter.unusedSimpArgs false
namespace Go.Proofs.Ytlgpipdeckdmjaa.Mer
open Go.RowKit Base Reg Types Slice Sha
open Go.Proofs.Ytlgpipdeckdmjaa.One
open Go.Proofs.Ytlgpipdeckdmjaa.Str
theorem run_shr64 (P : Program) (w : World) (a k : Nat) (hk : k ≤ 62) : (Op.shift .shr .i64 (a : Int) .i64 (k : Int)).run P w = .ok (.int .i64 ((a / 2 ^ k : Nat) : Int)) w := by
  have h0 : ¬ ((k : Int) < 0) := by omega
  unfold Op.shift
  rw [if_neg h0]
  show Result.ok (Value.int .i64 (Int.fdiv (a : Int) (2 ^ min (Int.toNat (k : Int)) 64))) w = _
  rw [Int.toNat_natCast, Nat.min_eq_left (by omega)]
  congr 2
  rw [Int.fdiv_eq_ediv_of_nonneg _ (Int.le_of_lt (Int.pow_pos (by decide)))]
  norm_cast
theorem bits_and1 (n : Nat) (hn : n ≤ 1000000) : bits .and .i64 (n : Int) 1 = ((n % 2 : Nat) : Int) := by
  show IntKind.i64.wrap ((BitVec.ofInt 64 (n : Int) &&& BitVec.ofInt 64 1).toNat : Int) = _
  rw [BitVec.toNat_and, BitVec.ofInt_natCast, BitVec.toNat_ofNat, show (BitVec.ofInt 64 1).toNat = 1 from by decide, Nat.mod_eq_of_lt (by omega), Nat.and_one_is_mod, IntKind.wrap_i64]
  omega
theorem visit (w : World) (l : Int) (a b : List Nat) : Calls Try.prog 125 #[.int .i64 l, agg .u8 a, agg .u8 b] w fun e w' => e = .returned (.tuple #[]) ∧ Below w.heap.size w w' := by
  go_enter Try.func125, Try.ntmps125
  go_wp2_with fail
  go_end0
  exact ⟨rfl, ((Below.refl w.heap.size w).alloc (Nat.le_refl _) _).alloc (by simp only [alloc_size]; omega) _⟩
theorem joinI (w : World) (m : Nat) (a b : List Nat) (ha : a.length = 16) (hb : b.length = 16) (hm : m ≤ 100) :
    Calls Try.prog 128 #[.int .i64 ((m : Int) + 1), agg .u8 a, agg .u8 b] w fun e w' => e = .returned (agg .u8 (joinN (m + 1) a b)) ∧ Below w.heap.size w w' := join w (m + 1) a b ha hb (by omega)
/-- The node that a leaf and the first m nodes of a path lead to. -/
def climbF (leaf : List Nat) (i : Nat) (ps : List (List Nat)) : Nat → List Nat
  | 0 => leaf
  | m + 1 => if i / 2 ^ m % 2 = 1 then joinN (m + 1) (ps.getD m []) (climbF leaf i ps m) else joinN (m + 1) (climbF leaf i ps m) (ps.getD m [])
theorem climbF_length {leaf : List Nat} (hl : leaf.length = 16) (i : Nat) (ps : List (List Nat)) : ∀ m, (climbF leaf i ps m).length = 16
  | 0 => hl
  | m + 1 => by unfold climbF; split <;> exact joinN_length _ _ _
/-- The frame while both children are laid down. -/
def FrC (w wr : World) (leaf S : List Nat) (i m n b o c : Nat) (u22 u23 u24 u25 u26 u27 u28 u29 u30 u31 u32 u33 u34 u35 u36 u37 u38 u39 u40 v11 v12 v20 v21 : Value) : Act :=
  { tmps := #[agg .u8 leaf, .int .i64 (i : Int), .slice (some ⟨b, o, none⟩) n c, .func (.func 125) #[] #[], .pointer (some ⟨w.heap.size, 0, none⟩), undef, undef, undef, .pointer (some ⟨w.heap.size + 1, 0, none⟩), .int .i64 (m : Int), .pointer (some ⟨wr.heap.size, 0, none⟩), v11, v12, .slice (some ⟨b, o, none⟩) n c, .int .i64 (n : Int), .int .i64 (m : Int), .bool true, .int .i64 (m : Int), .pointer (some ⟨b, o + m * 16, none⟩), agg .u8 S, v20, v21, u22, u23, u24, u25, u26, u27, u28, u29, u30, u31, u32, u33, u34, u35, u36, u37, u38, u39, u40, undef], defers := [] }
def AtC (w wr : World) (C S : List Nat) (W : World) : Prop := blk W w.heap.size (cl .u8 C) 146 ∧ blk W (w.heap.size + 1) (cl .u8 (zs 16)) 146 ∧ blk W wr.heap.size (cl .u8 S) 146 ∧ Below w.heap.size w W
theorem AtC.keep {w wr : World} {C S : List Nat} {W W' : World} (h : AtC w wr C S W) (hb : Below W.heap.size W W') : AtC w wr C S W' := ⟨blk_keep h.1 hb, blk_keep h.2.1 hb, blk_keep h.2.2.1 hb, bel_trans h.2.2.2 hb h.2.2.2.size⟩
theorem AtC.set {w wr : World} {C S : List Nat} {W : World} (h : AtC w wr C S W) {p : Nat} (h1 : wr.heap.size < p) (h2 : w.heap.size + 1 < wr.heap.size) (cs : Array Value) : AtC w wr C S (W.setRow p cs) := ⟨blk_setRow_ne h.1 _ (by omega), blk_setRow_ne h.2.1 _ (by omega), blk_setRow_ne h.2.2.1 _ (by omega), bel_setRow h.2.2.2 (by omega) _⟩
def BC (w wr : World) (leaf C S : List Nat) (i m n b o c : Nat) (u22 u23 u24 u25 u26 u27 u28 u29 u30 u31 u32 u33 u34 u35 u36 u37 u38 u39 u40 : Value) (x : Act) (W : World) : Prop :=
  ∃ v11 v12 v20 v21, x = FrC w wr leaf S i m n b o c u22 u23 u24 u25 u26 u27 u28 u29 u30 u31 u32 u33 u34 u35 u36 u37 u38 u39 u40 v11 v12 v20 v21 ∧ AtC w wr C S W ∧ (∀ p, v11 = .pointer (some ⟨p, 0, none⟩) → wr.heap.size < p → ∃ cs : List Nat, cs.length = 16 ∧ blk W p (cl .u8 cs) 146) ∧ (∀ p, v12 = .pointer (some ⟨p, 0, none⟩) → wr.heap.size < p → blk W p (cl .u8 (zs 16)) 146) ∧ (∀ p, v11 = .pointer (some ⟨p, 0, none⟩) → v12 = .pointer (some ⟨p, 0, none⟩) → wr.heap.size < p → False)
def GC (wr : World) (C S : List Nat) (j : Nat) (x : Act) (W : World) : Prop := match j with
  | 0 => x.tmps.getD 20 undef = agg .u8 C
  | 1 => x.tmps.getD 21 undef = agg .u8 S
  | 2 => ∃ p, x.tmps.getD 11 undef = .pointer (some ⟨p, 0, none⟩) ∧ wr.heap.size < p
  | 3 => ∃ p, x.tmps.getD 12 undef = .pointer (some ⟨p, 0, none⟩) ∧ wr.heap.size < p
  | 4 => ∃ p, x.tmps.getD 11 undef = .pointer (some ⟨p, 0, none⟩) ∧ wr.heap.size < p ∧ blk W p (cl .u8 C) 146
  | _ => True
def UC (wr : World) (j : Nat) (x : Act) (W : World) : Prop := match j with
  | 2 => ∀ p, x.tmps.getD 11 undef = .pointer (some ⟨p, 0, none⟩) → p < wr.heap.size
  | _ => True

set_option maxRecDepth 20000 in
set_option maxHeartbeats 8000000 in
theorem climb (w : World) (leaf : List Nat) (i : Nat) (v : Value) (ps : List (List Nat)) (hleaf : leaf.length = 16) (hv : SlN w v ps) (hN : N16 ps) (hn : ps.length ≤ 20) (hi : i ≤ 65535) :
    Calls Try.prog 124 #[agg .u8 leaf, .int .i64 (i : Int), v, .func (.func 125) #[] #[]] w fun e w' => e = .returned (agg .u8 (climbF leaf i ps ps.length)) ∧ Below w.heap.size w w' := by
  have HV := Lib.hid hv
  have HN := Lib.hid hN
  obtain ⟨A, c, rfl, -⟩ := id hv
  have lF := climbF_length hleaf i ps
  have LF := Lib.hid lF
  obtain ⟨n, hne⟩ : ∃ n, n = ps.length := ⟨_, rfl⟩
  have HE := Lib.hid hne
  rw [← hne] at hn ⊢
  clear hv hN lF hne
  go_enter Try.func124, Try.ntmps124
  go_wp2_with fail
  go_loopw [11, 12, 15] (fun x11 x12 k wr => ∃ m : Nat, m ≤ n ∧ k = .int .i64 (m : Int) ∧ blk wr w.heap.size (cl .u8 (climbF leaf i ps m)) 146 ∧ blk wr (w.heap.size + 1) (cl .u8 (zs 16)) 146 ∧ Below w.heap.size w wr ∧ (∀ p, x11 = .pointer (some ⟨p, 0, none⟩) → p < wr.heap.size) ∧ (∀ p, x12 = .pointer (some ⟨p, 0, none⟩) → p < wr.heap.size)) (fun _ _ k _ => n - (intOf k).toNat)
  case atStart => exact ⟨0, by omega, rfl, blk_alloc (blk_new _ _ _) _, blk_at _ _ _ (by simp only [alloc_size]), ((Below.refl w.heap.size w).alloc (Nat.le_refl _) _).alloc (by simp only [alloc_size]; omega) _, fun p h => (by cases h), fun p h => (by cases h)⟩
  case round =>
    obtain ⟨m, hm, rfl, hb0, hb1, hb, hu11, hu12⟩ := hrel
    have U11 := Lib.hid hu11
    have U12 := Lib.hid hu12
    clear hu11 hu12
    by_cases hmn : m < n
    · obtain ⟨b, o, c', hbo, hmc, hlt, hcl⟩ := slc_addr HV.out (by rw [← HE.out]; omega)
      cases hbo
      have q1 := ld_node (i := m) HN.out (by rw [← HE.out]; omega) (fun j u hj => (hb.cell (p := ⟨b, o + j, none⟩) hlt).trans (hcl j u hj))
      have lS := HN.out.getD (i := m) (by rw [← HE.out]; omega)
      have lC := LF.out m
      obtain ⟨q, hq⟩ : ∃ q, q = i / 2 ^ m := ⟨_, rfl⟩
      have hq2 : q ≤ 65535 := by rw [hq]; exact Nat.le_trans (Nat.div_le_self _ _) hi
      have r2 : bits .and .i64 ((i : Int) / 2 ^ m) 1 = ((q % 2 : Nat) : Int) := by
        have e : (i : Int) / 2 ^ m = (q : Int) := by rw [hq]; norm_cast
        rw [e]
        exact bits_and1 q (by omega)
      obtain ⟨S, hS⟩ : ∃ S, S = ps.getD m [] := ⟨_, rfl⟩
      obtain ⟨C, hC⟩ : ∃ C, C = climbF leaf i ps m := ⟨_, rfl⟩
      rw [← hS] at q1 lS
      rw [← hC] at lC hb0
      have B0 := Lib.hid hb0
      have B1 := Lib.hid hb1
      have X0 := Lib.hid hq
      have X1 := Lib.hid hS
      have X2 := Lib.hid hC
      have k0 := bk_of hb0
      have l0 := blk_lt hb0
      clear hb0 hb1 hq hS hC hcl
      have hsw : w.heap.size + 1 < wr.heap.size := blk_lt B1.out
      have hbs := hb.size
      go_wp2_with fail
      refine Ord.wp_region_inv2 5 (BC w wr leaf C S i m n b o c u22 u23 u24 u25 u26 u27 u28 u29 u30 u31 u32 u33 u34 u35 u36 u37 u38 u39 u40) (GC wr C S) (UC wr) (by kernel_rfl) (by kernel_rfl) ⟨_, _, _, _, rfl, ⟨blk_drew (blk_alloc B0.out (.cells (cl .u8 S).toArray 146)), blk_drew (blk_alloc B1.out _), blk_drew (blk_new _ _ _), (hb.alloc hb.size _).drew⟩, fun p h hp => absurd (U11.out p h) (by omega), fun p h hp => absurd (U12.out p h) (by omega), fun p h _ hp => absurd (U11.out p h) (by omega)⟩ (fun j hj => by match j, hj with | 0, _ => trivial | 1, _ => trivial | 2, _ => exact U11.out | 3, _ => trivial | 4, _ => trivial) ?_ ?_
      · intro j op hj ho x W hB hU hG
        obtain ⟨v11, v12, v20, v21, rfl, hA, h7, h8, hne⟩ := hB
        have z0 := bk_of hA.1
        have z1 := bk_of hA.2.2.1
        have HA := Lib.hid hA
        have H7 := Lib.hid h7
        have H8 := Lib.hid h8
        have HN' := Lib.hid hne
        clear hA h7 h8 hne
        match j, hj with

        | 0, _ =>
          cases ho
          clear hG hU
          unfold FrC
          go_wp2_with fail
          refine ⟨⟨v11, v12, _, v21, rfl, HA.out, H7.out, H8.out, HN'.out⟩, rfl, ?_⟩
          intro j hj hji
          match j, hj with
          | 0, _ => exact absurd rfl hji
          | 1, _ => exact ⟨fun h => h, fun h => h⟩
          | 2, _ => exact ⟨fun h => h, fun h => h⟩
          | 3, _ => exact ⟨fun h => h, fun h => h⟩
          | 4, _ => exact ⟨fun h => h, fun h => h⟩
        | 1, _ =>
          cases ho
          clear hG hU
          unfold FrC
          go_wp2_with fail
          refine ⟨⟨v11, v12, v20, _, rfl, HA.out, H7.out, H8.out, HN'.out⟩, rfl, ?_⟩
          intro j hj hji
          match j, hj with
          | 0, _ => exact ⟨fun h => h, fun h => h⟩
          | 1, _ => exact absurd rfl hji
          | 2, _ => exact ⟨fun h => h, fun h => h⟩
          | 3, _ => exact ⟨fun h => h, fun h => h⟩
          | 4, _ => exact ⟨fun h => h, fun h => h⟩
        | 2, _ =>
          cases ho
          have hU2 : ∀ p, v11 = .pointer (some ⟨p, 0, none⟩) → p < wr.heap.size := hU
          clear hG hU
          have U2 := Lib.hid hU2
          clear hU2
          unfold FrC
          go_wp2_with fail
          have hk : Below W.heap.size W (W.alloc (.cells (cl .u8 (zs 16)).toArray 146)) := (Below.refl _ _).alloc (Nat.le_refl _) _
          have hsz := blk_lt HA.out.2.2.1
          refine ⟨⟨_, v12, v20, v21, rfl, HA.out.keep hk, (fun p h hp => by cases h; exact ⟨zs 16, rfl, blk_new _ _ _⟩), (fun p h hp => blk_keep (H8.out p h hp) hk), (fun p h h' hp => by cases h; have := blk_lt (H8.out _ h' hp); omega)⟩, ⟨_, rfl, by omega⟩, ?_⟩
          intro j hj hji
          match j, hj with
          | 0, _ => exact ⟨fun h => h, fun h => h⟩
          | 1, _ => exact ⟨fun h => h, fun h => h⟩
          | 2, _ => exact absurd rfl hji
          | 3, _ => exact ⟨fun h => h, fun h => h⟩
          | 4, _ => exact ⟨fun ⟨p, hp, hq, _⟩ => absurd (U2.out p hp) (by omega), fun h => h⟩
        | 3, _ =>
          cases ho
          clear hG hU
          unfold FrC
          go_wp2_with fail
          have hk : Below W.heap.size W (W.alloc (.cells (cl .u8 (zs 16)).toArray 146)) := (Below.refl _ _).alloc (Nat.le_refl _) _
          have hsz := blk_lt HA.out.2.2.1
          refine ⟨⟨v11, _, v20, v21, rfl, HA.out.keep hk, (fun p h hp => by obtain ⟨cs, hcs, hb⟩ := H7.out p h hp; exact ⟨cs, hcs, blk_keep hb hk⟩), (fun p h hp => by cases h; exact blk_new _ _ _), (fun p h' h hp => by cases h; obtain ⟨cs, hcs, hb⟩ := H7.out _ h' hp; have := blk_lt hb; omega)⟩, ⟨_, rfl, by omega⟩, ?_⟩
          intro j hj hji
          match j, hj with
          | 0, _ => exact ⟨fun h => h, fun h => h⟩
          | 1, _ => exact ⟨fun h => h, fun h => h⟩
          | 2, _ => exact ⟨fun h => h, fun h => h⟩
          | 3, _ => exact absurd rfl hji
          | 4, _ => exact ⟨fun ⟨p, hp, hq, hb⟩ => ⟨p, hp, hq, blk_keep hb hk⟩, fun h => h⟩
        | 4, _ =>
          cases ho
          have g : v20 = agg .u8 C := hG ⟨0, .data⟩ (by simp) rfl
          obtain ⟨p7, g7, hp7⟩ : ∃ p, v11 = .pointer (some ⟨p, 0, none⟩) ∧ wr.heap.size < p := hG ⟨2, .data⟩ (by simp) rfl
          subst g g7
          obtain ⟨cs, hcs, hB7⟩ := H7.out p7 rfl hp7
          have k7 := bk_of hB7
          have K7 := Lib.hid hB7
          clear hG hU hB7
          unfold FrC
          go_wp2_with fail
          refine ⟨⟨_, v12, _, v21, rfl, HA.out.set hp7 hsw _, (fun p h hp => by cases h; exact ⟨C, lC, blk_setRow K7.out (cl .u8 C)⟩), (fun p h hp => blk_setRow_ne (H8.out p h hp) _ (fun e => HN'.out p7 rfl (by rw [h, e]) hp7)), HN'.out⟩, ⟨p7, rfl, hp7, blk_setRow K7.out (cl .u8 C)⟩, ?_⟩
          intro j hj hji
          match j, hj with
          | 0, _ => exact ⟨fun h => h, fun h => h⟩
          | 1, _ => exact ⟨fun h => h, fun h => h⟩
          | 2, _ => exact ⟨fun h => h, fun h => h⟩
          | 3, _ => exact ⟨fun h => h, fun h => h⟩
          | 4, _ => exact absurd rfl hji
      · intro x W hB hG
        obtain ⟨v11, v12, v20, v21, rfl, hA, h7, h8, hne⟩ := hB
        have g0 : v20 = agg .u8 C := hG 0 (by omega)
        have g1 : v21 = agg .u8 S := hG 1 (by omega)
        obtain ⟨p7, g2, hp7⟩ : ∃ p, v11 = .pointer (some ⟨p, 0, none⟩) ∧ wr.heap.size < p := hG 2 (by omega)
        obtain ⟨p8, g3, hp8⟩ : ∃ p, v12 = .pointer (some ⟨p, 0, none⟩) ∧ wr.heap.size < p := hG 3 (by omega)
        have hB7 : blk W p7 (cl .u8 C) 146 := by
          obtain ⟨p, e1, _, e2⟩ := hG 4 (by omega)
          have e3 : v11 = .pointer (some ⟨p, 0, none⟩) := e1
          rw [g2] at e3
          cases e3
          exact e2
        have hB8 := h8 p8 g3 hp8
        have hn78 : p7 ≠ p8 := fun e => hne p7 g2 (by rw [g3, e]) hp7
        subst g0 g1 g2 g3
        have hn87 : p8 ≠ p7 := fun e => hn78 e.symm
        have k8 := bk_of hB8
        have T0 := Lib.hid (And.intro (hA.set hp8 hsw (cl .u8 S).toArray) (And.intro (blk_setRow_ne hB7 (cl .u8 S).toArray hn78) (blk_setRow hB8 (cl .u8 S))))
        clear hG hA h7 h8 hne hB7 hB8
        unfold FrC
        obtain ⟨d, hd⟩ : ∃ d, d = q % 2 := ⟨_, rfl⟩
        rw [← hd] at r2
        have hd2 : d = 0 ∨ d = 1 := by omega
        have HD := Lib.hid hd
        clear hd
        rcases hd2 with rfl | rfl
        · rw [show ((0 : Nat) : Int) = 0 from rfl] at r2
          have k7w := bk_of T0.out.2.1
          have k8w := bk_of T0.out.2.2
          go_wp2_with fail
          clear k7w k8w
          obtain ⟨W1, hW1⟩ : ∃ W1, W1 = W.setRow p8 (cl .u8 S).toArray := ⟨_, rfl⟩
          rw [← hW1] at T0 ⊢
          clear hW1 k8
          have k7 := bk_of T0.out.2.1
          have k8 := bk_of T0.out.2.2
          refine (visit W1 _ C S).mono ?_
          rintro e w2 ⟨rfl, hw2⟩
          have T1 := Lib.hid (And.intro (T0.out.1.keep hw2) (And.intro (blk_keep T0.out.2.1 hw2) (blk_keep T0.out.2.2 hw2)))
          have k7 := bk_of T1.out.2.1
          have k8 := bk_of T1.out.2.2
          clear hw2
          have cJ := joinI w2 m C S lC lS (by omega)
          have CJ := Lib.hid cJ
          clear cJ
          go_wp2_with fail
          refine CJ.out.mono ?_
          rintro e w3 ⟨rfl, hw3⟩
          have T2 := Lib.hid (And.intro (T1.out.1.keep hw3) (And.intro (blk_keep T1.out.2.1 hw3) (blk_keep T1.out.2.2 hw3)))
          have k0 := bk_of T2.out.1.1
          have lZ := joinN_length (m + 1) C S
          have eZ : joinN (m + 1) C S = climbF leaf i ps (m + 1) := by
            rw [climbF, ← X0.out, ← HD.out, ← X1.out, ← X2.out]; rfl
          clear hw3
          rw [eZ] at lZ ⊢
          have EZ := Lib.hid eZ
          clear eZ
          go_wp2_with fail
          have i7 := blk_lt T2.out.2.1
          have i8 := blk_lt T2.out.2.2
          exact ⟨⟨m + 1, by omega, by go_num, blk_setRow T2.out.1.1 (cl .u8 (climbF leaf i ps (m + 1))), blk_setRow_ne T2.out.1.2.1 _ (by omega), bel_setRow T2.out.1.2.2.2 (Nat.le_refl _) _, fun p h => (by cases h; simpa using i7), fun p h => (by cases h; simpa using i8)⟩, by simp [intOf]; omega⟩
        · rw [show ((1 : Nat) : Int) = 1 from rfl] at r2
          go_wp2_with fail
          obtain ⟨W1, hW1⟩ : ∃ W1, W1 = W.setRow p8 (cl .u8 S).toArray := ⟨_, rfl⟩
          rw [← hW1] at T0 ⊢
          clear hW1 k8
          have k7 := bk_of T0.out.2.1
          have k8 := bk_of T0.out.2.2
          have z0 := bk_of T0.out.1.1
          have z1 := bk_of T0.out.1.2.2.1
          have z2 : bk (W1.drew.setRow p7 (cl .u8 S).toArray) w.heap.size = some (cl .u8 C).toArray := (bk_setRow_other _ (by omega)).trans z0
          have z3 : bk (W1.drew.setRow p7 (cl .u8 S).toArray) p8 = some (cl .u8 S).toArray := (bk_setRow_other _ hn87).trans k8
          go_region
          obtain ⟨W2, hW2⟩ : ∃ W2, W2 = (W1.drew.setRow p7 (cl .u8 S).toArray).setRow p8 (cl .u8 C).toArray := ⟨_, rfl⟩
          have T5 := Lib.hid (And.intro (((T0.out.1.keep (Below.refl _ _).drew).set hp7 hsw (cl .u8 S).toArray).set hp8 hsw (cl .u8 C).toArray) (And.intro (blk_setRow_ne (blk_setRow (blk_drew T0.out.2.1) (cl .u8 S)) (cl .u8 C).toArray hn78) (blk_setRow (blk_setRow_ne (blk_drew T0.out.2.2) (cl .u8 S).toArray hn87) (cl .u8 C))))
          rw [← hW2] at T5 ⊢
          clear hW2 k7 k8 z0 z1 z2 z3
          have k7 := bk_of T5.out.2.1
          have k8 := bk_of T5.out.2.2
          go_wp2_with fail
          refine (visit W2 _ S C).mono ?_
          rintro e w2 ⟨rfl, hw2⟩
          have T1 := Lib.hid (And.intro (T5.out.1.keep hw2) (And.intro (blk_keep T5.out.2.1 hw2) (blk_keep T5.out.2.2 hw2)))
          have k7 := bk_of T1.out.2.1
          have k8 := bk_of T1.out.2.2
          clear hw2
          have cJ := joinI w2 m S C lS lC (by omega)
          have CJ := Lib.hid cJ
          clear cJ
          go_wp2_with fail
          refine CJ.out.mono ?_
          rintro e w3 ⟨rfl, hw3⟩
          have T2 := Lib.hid (And.intro (T1.out.1.keep hw3) (And.intro (blk_keep T1.out.2.1 hw3) (blk_keep T1.out.2.2 hw3)))
          have k0 := bk_of T2.out.1.1
          have lZ := joinN_length (m + 1) S C
          have eZ : joinN (m + 1) S C = climbF leaf i ps (m + 1) := by
            rw [climbF, ← X0.out, ← HD.out, ← X1.out, ← X2.out]; rfl
          clear hw3
          rw [eZ] at lZ ⊢
          have EZ := Lib.hid eZ
          clear eZ
          go_wp2_with fail
          have i7 := blk_lt T2.out.2.1
          have i8 := blk_lt T2.out.2.2
          exact ⟨⟨m + 1, by omega, by go_num, blk_setRow T2.out.1.1 (cl .u8 (climbF leaf i ps (m + 1))), blk_setRow_ne T2.out.1.2.1 _ (by omega), bel_setRow T2.out.1.2.2.2 (Nat.le_refl _) _, fun p h => (by cases h; simpa using i7), fun p h => (by cases h; simpa using i8)⟩, by simp [intOf]; omega⟩
    · obtain rfl : m = n := by omega
      have k0 := bk_of hb0
      have k1 := bk_of hb1
      have lZ := LF.out m
      have HB1 := Lib.hid hb1
      clear hb0 hb1
      go_wp2_with fail
      refine ret_node rfl rfl (blk_setRow HB1.out (cl .u8 (climbF leaf i ps m))) lZ rfl ⟨rfl, bel_setRow hb (by omega) _⟩
end Go.Proofs.Ytlgpipdeckdmjaa.Mer
/-
  merkle.From; the path of a leaf leads to the root.
-/
set_option linter.unusedVariables false
set_option linter.unusedSimpArgs false
namespace Go.Proofs.Ytlgpipdeckdmjaa.Mer
open Go.RowKit Base Reg Types Slice Sha
open Go.Proofs.Ytlgpipdeckdmjaa.One
open Go.Proofs.Ytlgpipdeckdmjaa.Str
theorem lv0_getD (N : Nat → List Nat) {k j : Nat} (h : j < k) : (lv0 N k).getD j [] = N j := by simp [lv0, List.getD, h]
theorem climbF_congr {leaf : List Nat} {i : Nat} {ps qs : List (List Nat)} : ∀ {m : Nat}, (∀ j, j < m → ps.getD j [] = qs.getD j []) → climbF leaf i ps m = climbF leaf i qs m
  | 0, _ => rfl
  | m + 1, h => by unfold climbF; rw [climbF_congr (fun j hj => h j (by omega)), h m (by omega)]
/-- The path of a leaf leads to the root. -/
theorem climb_path {ns : List (List Nat)} {h i : Nat} (hl : ns.length = 2 ^ h) (hh : h ≤ 8) (hi : i < 2 ^ h) : ∀ m, m ≤ h → climbF (ns.getD i []) i (lv0 (pathF ns i) h) m = (row ns m).getD (i / 2 ^ m) []
  | 0, _ => by rw [climbF, row, Nat.pow_zero, Nat.div_one]
  | m + 1, hm => by
    have ih := climb_path hl hh hi m (by omega)
    have lr := row_length hl m (by omega)
    have h1 := idx_lt hi (show m < h by omega)
    have h2 : 2 ^ (h - m) ≤ 2 ^ 8 := Nat.pow_le_pow_right (by omega) (by omega)
    obtain ⟨q, hq⟩ : ∃ q, h - m = q + 1 := ⟨h - m - 1, by omega⟩
    obtain ⟨n, hn⟩ : ∃ n, n = i / 2 ^ m := ⟨_, rfl⟩
    rw [climbF, ih, lv0_getD _ (by omega), pathF, Nat.pow_succ, ← Nat.div_div_eq_div_mul, ← hn]
    rw [← hn, hq, Nat.pow_succ] at h1
    rw [hq, Nat.pow_succ] at lr h2
    have hx := xor1 n (by omega)
    rw [row, lv0_getD _ (by rw [lr]; omega), pairUp, hx]
    by_cases hodd : n % 2 = 1
    · rw [if_pos hodd, if_pos hodd, show 2 * (n / 2) = n - 1 by omega, show n - 1 + 1 = n by omega]
    · rw [if_neg hodd, if_neg hodd, show 2 * (n / 2) = n by omega]
theorem climb_root {ns : List (List Nat)} {h i : Nat} (hl : ns.length = 2 ^ h) (hh : h ≤ 8) (hi : i < 2 ^ h) : climbF (ns.getD i []) i (lv0 (pathF ns i) h) h = rootN ns h := by
  rw [climb_path hl hh hi h (Nat.le_refl _), Nat.div_eq_of_lt hi]
  rfl
theorem pathF_length {ns : List (List Nat)} {h i k : Nat} (hN : N16 ns) (hl : ns.length = 2 ^ h) (hh : h ≤ 8) (hi : i < 2 ^ h) (hk : k < h) : (pathF ns i k).length = 16 := (row_16 hN k).getD (by rw [row_length hl k (by omega)]; exact sib_lt hi hk hh)
theorem path_16 {ns : List (List Nat)} {h i : Nat} (hN : N16 ns) (hl : ns.length = 2 ^ h) (hh : h ≤ 8) (hi : i < 2 ^ h) : N16 (lv0 (pathF ns i) h) := fun x hx => by
  obtain ⟨k, hk, rfl⟩ := List.mem_map.1 hx
  exact pathF_length hN hl hh hi (List.mem_range.1 hk)
set_option maxRecDepth 20000 in
theorem from_in (w : World) (leaf : List Nat) (i : Nat) (v : Value) (ps : List (List Nat)) (hleaf : leaf.length = 16) (hv : SlN w v ps) (hN : N16 ps) (hn : ps.length ≤ 8) (hi : i < 2 ^ ps.length) :
    Calls Try.prog 107 #[agg .u8 leaf, .int .i64 (i : Int), v] w fun e w' => e = .returned (.tuple #[agg .u8 (climbF leaf i ps ps.length), .int .i64 0]) ∧ Below w.heap.size w w' := by
  have p8 : 2 ^ ps.length ≤ 2 ^ 8 := Nat.pow_le_pow_right (by omega) hn
  have HV := Lib.hid fun W hW => climb W leaf i v ps hleaf (hv.keep hW) hN (by omega) (by omega)
  have lF := climbF_length hleaf i ps ps.length
  obtain ⟨A, c, rfl, -⟩ := hv
  obtain ⟨n, hne⟩ : ∃ n, n = ps.length := ⟨_, rfl⟩
  obtain ⟨Z, hZ⟩ : ∃ Z, Z = climbF leaf i ps ps.length := ⟨_, rfl⟩
  rw [← hZ] at HV lF ⊢
  rw [← hne] at HV hn hi p8 ⊢
  have hi' : (i : Int) < 2 ^ n := by exact_mod_cast hi
  have p8' : (2 : Int) ^ n ≤ 256 := by exact_mod_cast p8
  clear hN hne hZ
  go_enter Try.func107, Try.ntmps107
  go_wp2_with fail
  refine (HV.out _ (((Below.refl w.heap.size w).alloc (Nat.le_refl _) _).alloc (by simp only [alloc_size]; omega) _)).mono ?_
  rintro e w1 ⟨rfl, hb1⟩
  have hR1 := blk_keep (blk_at (w.alloc (.cells (cl .u8 leaf).toArray 146)) (cl .u8 (zs 16)) 146 (b := w.heap.size + 1) (by simp only [alloc_size])) hb1
  have hB1 := bel_trans (((Below.refl w.heap.size w).alloc (Nat.le_refl _) (.cells (cl .u8 leaf).toArray 146)).alloc (by simp only [alloc_size]; omega) (.cells (cl .u8 (zs 16)).toArray 146)) hb1 (by simp only [alloc_size]; omega)
  have k1 := bk_of hR1
  clear hb1
  go_wp2_with fail
  refine ret2_node rfl rfl rfl (blk_setRow hR1 (cl .u8 Z)) lF rfl ⟨rfl, bel_setRow hB1 (by omega) _⟩
end Go.Proofs.Ytlgpipdeckdmjaa.Mer
/-
  signer: the checks of keys and signatures.
-/
set_option linter.unusedVariables false
set_option linter.unusedSimpArgs false
namespace Go.Proofs.Ytlgpipdeckdmjaa.Sgn
open Go.RowKit Base Reg Types Slice Sha
open Go.Proofs.Ytlgpipdeckdmjaa.One
open Go.Proofs.Ytlgpipdeckdmjaa.Str
open Go.Proofs.Ytlgpipdeckdmjaa.Mer
section
variable {P : Program} {t : TypeId} {b n : Nat} {w : World} {cs : Array Value}
theorem stGot_sec {s : List Nat} {h : Int} (hc : cs.size = n) (hl : s.length + 1 = n) : stGot P t b n (.agg (secV s h).toArray) w (some cs) = .ok () (w.setRow b (secV s h).toArray) := stGot_agg hc (by rw [secV_size, hl]) (secV_all s h)
theorem stGot_pub {h : Int} {r : List Nat} (hc : cs.size = n) (hl : r.length + 1 = n) : stGot P t b n (.agg (pubV h r).toArray) w (some cs) = .ok () (w.setRow b (pubV h r).toArray) := stGot_agg hc (by rw [pubV_size, hl]) (pubV_all h r)
theorem stGot_sig {l : Int} {c : List Nat} {A : Option Addr} {m k : Nat} (hc : cs.size = n) (hl : c.length + 2 = n) : stGot P t b n (.agg (sigV l c (.slice A m k)).toArray) w (some cs) = .ok () (w.setRow b (sigV l c (.slice A m k)).toArray) := stGot_agg hc (by rw [sigV_size, hl]) (sigV_all l c A m k)
end
attribute [go_sem] secV_length pubV_length sigV_length sgrV_length stGot_sec stGot_pub stGot_sig
theorem height_in (w : World) (n : Int) (h1 : 1 ≤ n) (h2 : n ≤ 8) : Calls Try.prog 87 #[.int .i64 n] w fun e w' => e = .returned (.int .i64 0) ∧ w = w' := by
  go_enter Try.func87, Try.ntmps87
  go_wp2
  go_ret
  exact ⟨rfl, rfl⟩
theorem height_out (w : World) (n : Int) (h : ¬ (1 ≤ n ∧ n ≤ 8)) : Calls Try.prog 87 #[.int .i64 n] w fun e w' => e = .returned (.int .i64 2) ∧ w = w' := by
  by_cases h1 : n < 1
  · go_enter Try.func87, Try.ntmps87
    go_wp2
    go_ret
    exact ⟨rfl, rfl⟩
  · have h2 : 8 < n := by omega
    clear h
    go_enter Try.func87, Try.ntmps87
    go_wp2
    go_ret
    exact ⟨rfl, rfl⟩
theorem pub_cell0 {W : World} {g : Nat} {h : Int} {r : List Nat} {t : TypeId} (hB : blk W g (pubV h r) t) : W.cell? ⟨g, 0, none⟩ = some (.int .i64 h) := (blk_cell hB 0).trans rfl
theorem sig_leaf {W : World} {g : Nat} {l : Int} {c : List Nat} {p : Value} {t : TypeId} (hB : blk W g (sigV l c p) t) : W.cell? ⟨g, 0, none⟩ = some (.int .i64 l) := (blk_cell hB 0).trans rfl
theorem sig_path {W : World} {g : Nat} {l : Int} {c : List Nat} {p : Value} {t : TypeId} (hc : c.length = 560) (hB : blk W g (sigV l c p) t) : W.cell? ⟨g, 561, none⟩ = some p := by
  rw [blk_cell hB, sigV, List.getElem?_cons_succ, List.getElem?_append_right (by rw [cl_length]; omega), cl_length, hc]
  rfl
theorem secret_check (w : World) (seed : List Nat) (h : Int) (hs : seed.length = 32) (h1 : 1 ≤ h) (h2 : h ≤ 8) :
    Calls Try.prog 96 #[.agg (secV seed h).toArray] w fun e w' => e = .returned (.int .i64 0) ∧ Below w.heap.size w w' := by
  have q := sec_height hs (blk_new w (secV seed h) 114)
  go_enter Try.func96, Try.ntmps96
  go_wp2_with fail
  refine (height_in _ h h1 h2).mono ?_
  rintro e w1 ⟨rfl, rfl⟩
  go_wp2_with fail
  go_ret
  exact ⟨rfl, (Below.refl w.heap.size w).alloc (Nat.le_refl _) _⟩
theorem secret_check_out (w : World) (seed : List Nat) (h : Int) (hs : seed.length = 32) (ho : ¬ (1 ≤ h ∧ h ≤ 8)) :
    Calls Try.prog 96 #[.agg (secV seed h).toArray] w fun e w' => e = .returned (.int .i64 2) ∧ Below w.heap.size w w' := by
  have q := sec_height hs (blk_new w (secV seed h) 114)
  have HO := Lib.hid ho
  clear ho
  go_enter Try.func96, Try.ntmps96
  go_wp2_with fail
  refine (height_out _ h HO.out).mono ?_
  rintro e w1 ⟨rfl, rfl⟩
  go_wp2_with fail
  go_ret
  exact ⟨rfl, (Below.refl w.heap.size w).alloc (Nat.le_refl _) _⟩
theorem public_check (w : World) (r : List Nat) (h : Int) (h1 : 1 ≤ h) (h2 : h ≤ 8) :
    Calls Try.prog 54 #[.agg (pubV h r).toArray] w fun e w' => e = .returned (.int .i64 0) ∧ Below w.heap.size w w' := by
  have q := pub_cell0 (blk_new w (pubV h r) 50)
  go_enter Try.func54, Try.ntmps54
  go_wp2_with fail
  refine (height_in _ h h1 h2).mono ?_
  rintro e w1 ⟨rfl, rfl⟩
  go_wp2_with fail
  go_ret
  exact ⟨rfl, (Below.refl w.heap.size w).alloc (Nat.le_refl _) _⟩
theorem public_check_out (w : World) (r : List Nat) (h : Int) (ho : ¬ (1 ≤ h ∧ h ≤ 8)) :
    Calls Try.prog 54 #[.agg (pubV h r).toArray] w fun e w' => e = .returned (.int .i64 2) ∧ Below w.heap.size w w' := by
  have q := pub_cell0 (blk_new w (pubV h r) 50)
  have HO := Lib.hid ho
  clear ho
  go_enter Try.func54, Try.ntmps54
  go_wp2_with fail
  refine (height_out _ h HO.out).mono ?_
  rintro e w1 ⟨rfl, rfl⟩
  go_wp2_with fail
  go_ret
  exact ⟨rfl, (Below.refl w.heap.size w).alloc (Nat.le_refl _) _⟩
set_option maxRecDepth 20000 in
theorem sig_check (w : World) (l : Int) (ch : List Nat) (A : Option Addr) (n c : Nat) (hc : ch.length = 560) (h1 : 1 ≤ n) (h2 : n ≤ 8) (h3 : 0 ≤ l) (h4 : l < 2 ^ n) :
    Calls Try.prog 76 #[.agg (sigV l ch (.slice A n c)).toArray] w fun e w' => e = .returned (.int .i64 0) ∧ Below w.heap.size w w' := by
  obtain ⟨ι, F, hF, hin⟩ := class_of (fun W => blk W w.heap.size (sigV l ch (.slice A n c)) 58 ∧ Below w.heap.size w W)
  have h0 := hin (w.alloc (.cells (sigV l ch (.slice A n c)).toArray 58)).drew ⟨blk_drew (blk_new _ _ _), ((Below.refl _ _).alloc (Nat.le_refl _) _).drew⟩
  have hne : Nonempty ι := ⟨h0.choose⟩
  have q0 : ∀ i, (F i).cell? ⟨w.heap.size, 0, none⟩ = some (.int .i64 l) := fun i => sig_leaf (hF i).1
  have q1 : ∀ i, (F i).cell? ⟨w.heap.size, 561, none⟩ = some (.slice A n c) := fun i => sig_path hc (hF i).1
  have p8' : (2 : Int) ^ n ≤ 256 := by
    have p8 : 2 ^ n ≤ 2 ^ 8 := Nat.pow_le_pow_right (by omega) h2
    exact_mod_cast p8
  have h5 : decide (l < 0) = false := by simp; omega
  have h6 : decide ((2 : Int) ^ n ≤ l) = false := by simp; omega
  have HF := Lib.hid hF
  have HI := Lib.hid hin
  have HH := Lib.hid h0
  clear hF hin h0
  go_enter Try.func76, Try.ntmps76
  go_wp2_with fail
  refine wp_region_all F (by kernel_rfl) (by kernel_rfl) HH.out ?_
  repeat (go_big_quiet_step ((go_at_call 87; exact quiet_still (height_in _ (n : Int) (by omega) (by omega)))))
  refine wpQuiet_nil ?_
  intro i
  go_wp2_with fail
  go_ret
  exact ⟨rfl, (HF.out i).2⟩
set_option maxRecDepth 20000 in
theorem sig_check_out (w : World) (l : Int) (ch : List Nat) (A : Option Addr) (n c : Nat) (hc : ch.length = 560) (ho : ¬ ((1 ≤ n ∧ n ≤ 8) ∧ 0 ≤ l ∧ l < 2 ^ n)) :
    Calls Try.prog 76 #[.agg (sigV l ch (.slice A n c)).toArray] w fun e w' => e = .returned (.int .i64 2) ∧ Below w.heap.size w w' := by
  obtain ⟨ι, F, hF, hin⟩ := class_of (fun W => blk W w.heap.size (sigV l ch (.slice A n c)) 58 ∧ Below w.heap.size w W)
  have h0 := hin (w.alloc (.cells (sigV l ch (.slice A n c)).toArray 58)).drew ⟨blk_drew (blk_new _ _ _), ((Below.refl _ _).alloc (Nat.le_refl _) _).drew⟩
  have hne : Nonempty ι := ⟨h0.choose⟩
  have q0 : ∀ i, (F i).cell? ⟨w.heap.size, 0, none⟩ = some (.int .i64 l) := fun i => sig_leaf (hF i).1
  have q1 : ∀ i, (F i).cell? ⟨w.heap.size, 561, none⟩ = some (.slice A n c) := fun i => sig_path hc (hF i).1
  have HF := Lib.hid hF
  have HI := Lib.hid hin
  have HH := Lib.hid h0
  have HO := Lib.hid ho
  clear hF hin h0 ho
  by_cases hn : 1 ≤ n ∧ n ≤ 8
  · have p8' : (2 : Int) ^ n ≤ 256 := by
      have p8 : 2 ^ n ≤ 2 ^ 8 := Nat.pow_le_pow_right (by omega) hn.2
      exact_mod_cast p8
    have p9 : (0 : Int) ≤ 2 ^ n := Int.le_of_lt (Int.pow_pos (by decide))
    by_cases hl : l < 0
    · have h5 : decide (l < 0) = true := by simp; omega
      clear hl
      go_enter Try.func76, Try.ntmps76
      go_wp2_with fail
      refine wp_region_all F (by kernel_rfl) (by kernel_rfl) HH.out ?_
      repeat (go_big_quiet_step ((go_at_call 87; exact quiet_still (height_in _ (n : Int) (by omega) (by omega)))))
      refine wpQuiet_nil ?_
      intro i
      go_wp2_with fail
      go_ret
      exact ⟨rfl, (HF.out i).2⟩
    · have h5 : decide (l < 0) = false := by simp; omega
      have h6 : decide ((2 : Int) ^ n ≤ l) = true := by
        have := HO.out
        simp
        omega
      clear hl
      go_enter Try.func76, Try.ntmps76
      go_wp2_with fail
      refine wp_region_all F (by kernel_rfl) (by kernel_rfl) HH.out ?_
      repeat (go_big_quiet_step ((go_at_call 87; exact quiet_still (height_in _ (n : Int) (by omega) (by omega)))))
      refine wpQuiet_nil ?_
      intro i
      go_wp2_with fail
      go_ret
      exact ⟨rfl, (HF.out i).2⟩
  · go_enter Try.func76, Try.ntmps76
    have HN := Lib.hid hn
    clear hn
    go_wp2_with fail
    refine wp_region_all F (by kernel_rfl) (by kernel_rfl) HH.out ?_
    repeat (go_big_quiet_step ((go_at_call 87; exact quiet_still (height_out _ (n : Int) (by have := HN.out; omega)))))
    refine wpQuiet_nil ?_
    intro i
    go_wp2_with fail
    go_ret
    exact ⟨rfl, (HF.out i).2⟩
end Go.Proofs.Ytlgpipdeckdmjaa.Sgn
/-
  signer: the public key of a secret key; its bytes.
-/
set_option linter.unusedVariables false
set_option linter.unusedSimpArgs false
namespace Go.Proofs.Ytlgpipdeckdmjaa.Sgn
open Go.RowKit Base Reg Types Slice Sha
open Go.Proofs.Ytlgpipdeckdmjaa.One
open Go.Proofs.Ytlgpipdeckdmjaa.Str
open Go.Proofs.Ytlgpipdeckdmjaa.Mer
def leavesN (seed : List Nat) (h : Nat) : List (List Nat) := lv0 (nodeF seed) (2 ^ h)
theorem leavesN_length (seed : List Nat) (h : Nat) : (leavesN seed h).length = 2 ^ h := lv0_length _ _
theorem leavesN_16 (seed : List Nat) (h : Nat) : N16 (leavesN seed h) := lv0_16 (nodeF_length seed) _
/-- The root of a key. -/
def keyRoot (seed : List Nat) (h : Nat) : List Nat := rootN (leavesN seed h) h
theorem keyRoot_length (seed : List Nat) (h : Nat) : (keyRoot seed h).length = 16 := rootN_length (leavesN_16 seed h) (leavesN_length seed h)
set_option maxRecDepth 20000 in
theorem secret_public (w : World) (seed : List Nat) (h : Nat) (hs : seed.length = 32) (hh : h = 1 ∨ h = 2 ∨ h = 3) :
    Calls Try.prog 90 #[.agg (secV seed (h : Int)).toArray] w fun e w' => e = .returned (.tuple #[.agg (pubV (h : Int) (keyRoot seed h)).toArray, .int .i64 0]) ∧ Below w.heap.size w w' := by
  obtain ⟨R, hR⟩ : ∃ R, R = keyRoot seed h := ⟨_, rfl⟩
  have lR : R.length = 16 := by rw [hR]; exact keyRoot_length _ _
  have c1 := Lib.hid fun W => secret_check W seed (h : Int) hs (by omega) (by omega)
  have c2 := Lib.hid fun W => tree W seed h hs hh
  have c3 : Hid (∀ W x base, OwnN 146 W base x (leavesN seed h) → Calls Try.prog 105 #[x] W fun e w' => e = .returned (.tuple #[agg .u8 R, .int .i64 0]) ∧ Below W.heap.size W w') := Lib.hid fun W x base ho => by
    rw [hR]
    exact mroot W x (leavesN seed h) h (SlC.of_own ho) (leavesN_16 seed h) (leavesN_length seed h) (by omega)
  have HR := Lib.hid hR
  rw [← hR]
  clear hR
  obtain ⟨W0, hW0⟩ : ∃ W0, W0 = (w.alloc (.cells (secV seed (h : Int)).toArray 114)).alloc (.cells (pubV 0 (zs 16)).toArray 50) := ⟨_, rfl⟩
  have b0 : blk W0 w.heap.size (secV seed (h : Int)) 114 := by rw [hW0]; exact blk_alloc (blk_new _ _ _) _
  have b1 : blk W0 (w.heap.size + 1) (pubV 0 (zs 16)) 50 := by rw [hW0]; exact blk_at _ _ _ (by simp only [alloc_size])
  have bl : Below w.heap.size w W0 := by rw [hW0]; exact ((Below.refl w.heap.size w).alloc (Nat.le_refl _) _).alloc (by simp only [alloc_size]; omega) _
  have S0 := Lib.hid (And.intro b0 (And.intro b1 bl))
  have HW := Lib.hid hW0
  clear b0 b1 bl hW0
  go_enter Try.func90, Try.ntmps90
  go_wp2_with fail
  rw [← HW.out]
  refine (c1.out _).mono ?_
  rintro e w1 ⟨rfl, hb1⟩
  have S1 := Lib.hid (And.intro (blk_keep S0.out.1 hb1) (And.intro (blk_keep S0.out.2.1 hb1) (bel_trans S0.out.2.2 hb1 S0.out.2.2.size)))
  have k1 := bk_of S1.out.1
  clear hb1
  go_wp2_with fail
  refine (c2.out _).mono ?_
  rintro e w2 ⟨x, rfl, ho2, hb2⟩
  have HO2 := Lib.hid ho2
  have S2 := Lib.hid (And.intro (blk_keep S1.out.1 hb2) (And.intro (blk_keep S1.out.2.1 hb2) (bel_trans S1.out.2.2 hb2 S1.out.2.2.size)))
  clear hb2 k1 ho2
  go_wp2_with fail
  refine (c3.out _ x _ HO2.out).mono ?_
  rintro e w3 ⟨rfl, hb3⟩
  have S3 := Lib.hid (And.intro (blk_keep S2.out.1 hb3) (And.intro (blk_keep S2.out.2.1 hb3) (bel_trans S2.out.2.2 hb3 S2.out.2.2.size)))
  have q3 := (blk_cell (blk_alloc S3.out.1 (.cells (cl .u8 R).toArray 146)) 32).symm.trans (blk_cell (blk_alloc S3.out.1 (.cells (cl .u8 R).toArray 146)) 32)
  have q4 := sec_height hs (blk_alloc S3.out.1 (.cells (cl .u8 R).toArray 146))
  have k3 := bk_of S3.out.2.1
  have lt3 := blk_lt S3.out.2.1
  have lt4 := blk_lt S3.out.1
  clear hb3 q3
  go_wp2_with fail
  have hb4 := bel_setRow S3.out.2.2 (by omega : w.heap.size ≤ w.heap.size + 1) (pubV (h : Int) R).toArray
  refine ret2_pub rfl rfl rfl (blk_alloc (blk_setRow S3.out.2.1 (pubV (h : Int) R)) _) (by rw [pubV_length, lR]) rfl ⟨rfl, hb4.alloc hb4.size _⟩
/-- The bytes of a public key. -/
def pubB (h : Nat) (r : List Nat) : List Nat := h % 256 :: r
set_option maxRecDepth 20000 in
theorem pub_bytes (w : World) (r : List Nat) (h : Nat) (hr : r.length = 16) (hh : h ≤ 255) :
    Calls Try.prog 86 #[.agg (pubV (h : Int) r).toArray] w fun e w' => ∃ v, e = .returned v ∧ Own w' w.heap.size v (pubB h r) ∧ Below w.heap.size w w' := by
  have hB := blk_new w (pubV (h : Int) r) 50
  have q := pub_cell0 (blk_drew hB)
  have q2 := pub_cell0 (blk_drew (blk_alloc hB (.cells #[.int .u8 (IntKind.u8.wrap (h : Int))] 5)))
  have eh : (#[.int .u8 (IntKind.u8.wrap (h : Int))] : Array Value) = (cl .u8 [h % 256]).toArray := by rw [Ref.wrap_u8]; rfl
  have ho : Own ((w.alloc (.cells (pubV (h : Int) r).toArray 50)).alloc (.cells #[.int .u8 (IntKind.u8.wrap (h : Int))] 5)).drew w.heap.size (.slice (some ⟨w.heap.size + 1, 0, none⟩) 1 1) [h % 256] := by
    rw [eh]
    have h1 := own_bytes (w.alloc (.cells (pubV (h : Int) r).toArray 50)) [h % 256] (by simp)
    have h2 := own_keep h1 (Below.refl _ _).drew
    rw [alloc_size] at h2
    exact own_mono h2 (by omega)
  have hs : Sl ((w.alloc (.cells (pubV (h : Int) r).toArray 50)).alloc (.cells #[.int .u8 (IntKind.u8.wrap (h : Int))] 5)).drew (.slice (some ⟨w.heap.size, 1, none⟩) 16 16) r := by
    have h1 := SlC.of_blk (n := 16) (size := 1) (c := 16) (o := 1) (xs := cl .u8 r) (blk_drew (blk_alloc hB (.cells #[.int .u8 (IntKind.u8.wrap (h : Int))] 5))) (Nat.le_refl _) (by rw [cl_length, hr]) (fun j u hj => by
      rw [Nat.add_comm, pubV, List.getElem?_cons_succ]; exact hj)
    unfold Sl
    rw [hr]
    exact h1
  have HO := Lib.hid ho
  have HS := Lib.hid hs
  have HLE : Hid (([h % 256] : List Nat).length + r.length ≤ 1099511627776) := Lib.hid (by rw [hr, List.length_singleton]; omega)
  have hb : Below w.heap.size w ((w.alloc (.cells (pubV (h : Int) r).toArray 50)).alloc (.cells #[.int .u8 (IntKind.u8.wrap (h : Int))] 5)).drew := (((Below.refl w.heap.size w).alloc (Nat.le_refl _) _).alloc (by simp only [alloc_size]; omega) _).drew
  have HB := Lib.hid hb
  clear hB eh ho hs hb
  go_enter Try.func86, Try.ntmps86
  go_wp2_with fail
  go_region_law (first
    | (refine Law.step_append_bytes rfl (.tmp 6) (.tmp 8) rfl (base := w.heap.size) (l := [h % 256]) (m := r) rfl rfl HO.out HS.out HLE.out HB.out.size ?_
       intro v2 w2 ho2 hg2
       have hb2 := HB.out.grown hg2 HB.out.size (fun k hk => own_block HO.out k hk)
       have HO2 := Lib.hid ho2
       have HB2 := Lib.hid hb2
       clear ho2 hg2 hb2)
    | fail)
  all_goals
    go_wp2_with fail
    go_ret
    exact ⟨_, rfl, HO2.out, HB2.out⟩
end Go.Proofs.Ytlgpipdeckdmjaa.Sgn
