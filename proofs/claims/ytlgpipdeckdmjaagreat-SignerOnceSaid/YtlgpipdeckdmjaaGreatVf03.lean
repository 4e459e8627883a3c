/-
  Several texts laid into one (merge.py): Sha1, Sha2, Sha3, Sha4, Slice.
-/
import Derived.Test.YtlgpipdeckdmjaaGreatProg
import Derived.Test.YtlgpipdeckdmjaaGreatVf01
import Derived.Test.YtlgpipdeckdmjaaGreatVf02
import Derived.Lib.Hide
import Derived.Laws.AppendOwnNone
/-
  The steps of SHA-256 as the program has them: rotation, a round, the sum of two states, the constants.
-/
set_option linter.unusedVariables false
set_option linter.unusedSimpArgs false
namespace Go.Proofs.YtlgpipdeckdmjaaGreat.Sha
open Go.RowKit Base Reg Types

/-- x rotated to the right by n bits. -/
def ro (x n : Nat) : Nat := orr (sl x (32 - n)) (sr x n)

theorem neg_and (n : Nat) (h1 : 1 ≤ n) (h2 : n ≤ 31) : bits BinOp.and IntKind.u64 (IntKind.u64.wrap (-(n : Int))) 31 = ((32 - n : Nat) : Int) := by
  have hw : IntKind.u64.wrap (-(n : Int)) = ((18446744073709551616 - n : Nat) : Int) := by
    rw [show IntKind.u64.wrap (-(n : Int)) = (-(n : Int)) % 18446744073709551616 by simp [IntKind.wrap, IntKind.bits, IntKind.signed]]
    omega
  rw [hw]
  have h := u64_and_nat (18446744073709551616 - n) 31 (by omega) (by omega)
  refine h.trans ?_
  rw [nat_mask5]
  congr 1
  omega
theorem back_n (n : Nat) (h1 : 1 ≤ n) (h2 : n ≤ 31) : IntKind.u64.wrap (32 - ((32 - n : Nat) : Int)) = (n : Int) := by
  rw [show IntKind.u64.wrap (32 - ((32 - n : Nat) : Int)) = (32 - ((32 - n : Nat) : Int)) % 18446744073709551616 by simp [IntKind.wrap, IntKind.bits, IntKind.signed]]
  omega
theorem ro_bits (x n : Nat) : bits BinOp.or IntKind.u32 ((x : Int) * 2 ^ (32 - n) % 4294967296) ((x : Int) / 2 ^ n) = ((ro x n : Nat) : Int) := by
  have h1 : ((x : Int) * 2 ^ (32 - n) % 4294967296) = ((sl x (32 - n) : Nat) : Int) := by
    unfold sl
    rw [show ((x : Int) * 2 ^ (32 - n)) = ((x * 2 ^ (32 - n) : Nat) : Int) by rw [Int.natCast_mul, Int.natCast_pow]; rfl]
    exact mod32 _
  have h2 : ((x : Int) / 2 ^ n) = ((sr x n : Nat) : Int) := by
    unfold sr
    rw [Int.natCast_ediv, Int.natCast_pow]; rfl
  rw [h1, h2, bits_orr]
  rfl
theorem rotl (x : Nat) (n : Nat) (h1 : 1 ≤ n) (h2 : n ≤ 31) (w : World) : Calls Tryz.prog 126 #[.int .u32 (x : Int), .int .i64 (-(n : Int))] w fun e w' => e = .returned (.int .u32 (ro x n : Int)) ∧ w = w' := by
  have e1 := neg_and n h1 h2
  have e3 := back_n n h1 h2
  go_enter Tryz.func126, Tryz.ntmps126
  go_wp2
  go_ret
  exact ⟨by simp [ro_bits], rfl⟩
theorem right (x : Nat) (m : Int) (h1 : 1 ≤ m) (h2 : m ≤ 31) (w : World) : Calls Tryz.prog 123 #[.int .u32 (x : Int), .int .i64 m] w fun e w' => e = .returned (.int .u32 (ro x m.toNat : Int)) ∧ w = w' := by
  obtain ⟨n, rfl⟩ := Int.eq_ofNat_of_zero_le (by omega : 0 ≤ m)
  go_enter Tryz.func123, Tryz.ntmps123
  go_wp2_with fail
  refine (rotl x n (by omega) (by omega) w).mono ?_
  rintro e w' ⟨rfl, rfl⟩
  go_wp2_with fail
  go_ret
  exact ⟨by simp, rfl⟩

/-- The two sums of a round. -/
def sumT (e f g h k w : Nat) : Nat := ad (ad (ad (ad h (xo (xo (ro e 6) (ro e 11)) (ro e 25))) (xo (an e f) (an (nt e) g))) k) w
def sumU (a b c : Nat) : Nat := ad (xo (xo (ro a 2) (ro a 13)) (ro a 22)) (xo (xo (an a b) (an a c)) (an b c))
def rnd (s : List Nat) (k w : Nat) : List Nat :=
  let t := sumT (s.getD 4 0) (s.getD 5 0) (s.getD 6 0) (s.getD 7 0) k w
  let u := sumU (s.getD 0 0) (s.getD 1 0) (s.getD 2 0)
  [ad t u, s.getD 0 0, s.getD 1 0, s.getD 2 0, ad (s.getD 3 0) t, s.getD 4 0, s.getD 5 0, s.getD 6 0]

theorem unary_nt (a : Nat) : Op.unary .xor (.int .u32 (a : Int)) = pure (.int .u32 ((nt a : Nat) : Int)) := by
  show (Op.intBits .xor .u32 4294967295 (a : Int)) = _
  rw [intBits_xor, bits_nt]
attribute [local go_sem high] wrap_ad bits_xo bits_an bits_orr bits_nt unary_nt
theorem round (a b c d e f g h k x : Nat) (w : World) : Calls Tryz.prog 124 #[agg .u32 [a, b, c, d, e, f, g, h], .int .u32 (k : Int), .int .u32 (x : Int)] w fun e' w' => e' = .returned (agg .u32 (rnd [a, b, c, d, e, f, g, h] k x)) ∧ Below w.heap.size w w' := by
  go_enter Tryz.func124, Tryz.ntmps124
  go_wp2
  obtain ⟨ι, F, hF, hin⟩ := class_of (fun W => blk W w.heap.size (cl .u32 [a, b, c, d, e, f, g, h]) 174 ∧ blk W (w.heap.size + 1) (cl .u32 (zs 8)) 174 ∧ Below w.heap.size w W)
  have hc : ∀ i j, (F i).cell? ⟨w.heap.size, j, none⟩ = (cl .u32 [a, b, c, d, e, f, g, h])[j]? := fun i j => blk_cell (hF i).1 j
  have h0 := hin _ ⟨blk_drew (blk_alloc (blk_new w (cl .u32 [a, b, c, d, e, f, g, h]) _) _), blk_drew (blk_at _ _ _ (by simp)), (((Below.refl _ _).alloc (Nat.le_refl _) _).alloc (by simp) _).drew⟩
  have hne : Nonempty ι := ⟨h0.choose⟩
  refine wp_region_all F (by kernel_rfl) (by kernel_rfl) h0 ?_
  clear h0
  have HF := Lib.hid hF
  have HI := Lib.hid hin
  clear hF hin
  repeat (go_big_quiet_step ((go_at_call 123; exact quiet_still (right _ _ (by decide) (by decide) _))))
  refine wpQuiet_nil ?_
  intro i
  go_wp2
  have h0 := HI.out _ ⟨blk_drew (HF.out i).1, blk_drew (HF.out i).2.1, (HF.out i).2.2.drew⟩
  refine wp_region_all F (by kernel_rfl) (by kernel_rfl) h0 ?_
  clear h0
  repeat (go_big_quiet_step ((go_at_call 123; exact quiet_still (right _ _ (by decide) (by decide) _))))
  refine wpQuiet_nil ?_
  intro j
  have hb : bk (F j) (w.heap.size + 1) = some (cl .u32 (zs 8)).toArray := bk_of (HF.out j).2.1
  go_wp2
  refine ret_words rfl rfl (blk_setRow (HF.out j).2.1 (cl .u32 (rnd [a, b, c, d, e, f, g, h] k x))) rfl rfl ⟨rfl, bel_setRow (HF.out j).2.2 (by simp) _⟩
end Go.Proofs.YtlgpipdeckdmjaaGreat.Sha
/-
  SHA-256 as the program has it: the constants, the sum of two states, the loading of a block, a block's rounds.
-/
set_option linter.unusedVariables false
set_option linter.unusedSimpArgs false
namespace Go.Proofs.YtlgpipdeckdmjaaGreat.Sha
open Go.RowKit Base Reg Types
attribute [local go_sem high] wrap_ad bits_xo bits_an bits_orr bits_nt unary_nt

/-- The constants of the rounds, and the first state. -/
def kon : List Nat := [1116352408, 1899447441, 3049323471, 3921009573, 961987163, 1508970993, 2453635748, 2870763221, 3624381080, 310598401, 607225278, 1426881987, 1925078388, 2162078206, 2614888103, 3248222580, 3835390401, 4022224774, 264347078, 604807628, 770255983, 1249150122, 1555081692, 1996064986, 2554220882, 2821834349, 2952996808, 3210313671, 3336571891, 3584528711, 113926993, 338241895, 666307205, 773529912, 1294757372, 1396182291, 1695183700, 1986661051, 2177026350, 2456956037, 2730485921, 2820302411, 3259730800, 3345764771, 3516065817, 3600352804, 4094571909, 275423344, 430227734, 506948616, 659060556, 883997877, 958139571, 1322822218, 1537002063, 1747873779, 1955562222, 2024104815, 2227730452, 2361852424, 2428436474, 2756734187, 3204031479, 3329325298]
def ini : List Nat := [1779033703, 3144134277, 1013904242, 2773480762, 1359893119, 2600822924, 528734635, 1541459225]
theorem initial (w : World) : Calls Tryz.prog 113 #[] w fun e w' => e = .returned (agg .u32 ini) ∧ Below w.heap.size w w' := by
  go_enter Tryz.func113, Tryz.ntmps113
  go_wp2
  exact ret_words rfl rfl (blk_new w (cl .u32 ini) _) rfl rfl ⟨rfl, (Below.refl _ _).alloc (Nat.le_refl _) _⟩
/-- The sum of two states. -/
def addS (s t : List Nat) : List Nat := [ad (s.getD 0 0) (t.getD 0 0), ad (s.getD 1 0) (t.getD 1 0), ad (s.getD 2 0) (t.getD 2 0), ad (s.getD 3 0) (t.getD 3 0), ad (s.getD 4 0) (t.getD 4 0), ad (s.getD 5 0) (t.getD 5 0), ad (s.getD 6 0) (t.getD 6 0), ad (s.getD 7 0) (t.getD 7 0)]
theorem plus (a b c d e f g h a' b' c' d' e' f' g' h' : Nat) (w : World) : Calls Tryz.prog 125 #[agg .u32 [a, b, c, d, e, f, g, h], agg .u32 [a', b', c', d', e', f', g', h']] w fun e0 w' => e0 = .returned (agg .u32 (addS [a, b, c, d, e, f, g, h] [a', b', c', d', e', f', g', h'])) ∧ Below w.heap.size w w' := by
  go_enter Tryz.func125, Tryz.ntmps125
  go_wp2
  refine ret_words rfl rfl (blk_at _ (cl .u32 (addS [a, b, c, d, e, f, g, h] [a', b', c', d', e', f', g', h'])) 174 (by simp)) rfl rfl ⟨rfl, ?_⟩
  exact ((((Below.refl _ _).alloc (Nat.le_refl _) _).alloc (by simp) _).alloc (by simp; omega) _)
theorem build_kon (w : World) : (blA 157 #[(0, .int .u32 1116352408), (1, .int .u32 1899447441), (2, .int .u32 3049323471), (3, .int .u32 3921009573), (4, .int .u32 961987163), (5, .int .u32 1508970993), (6, .int .u32 2453635748), (7, .int .u32 2870763221), (8, .int .u32 3624381080), (9, .int .u32 310598401), (10, .int .u32 607225278), (11, .int .u32 1426881987), (12, .int .u32 1925078388), (13, .int .u32 2162078206), (14, .int .u32 2614888103), (15, .int .u32 3248222580), (16, .int .u32 3835390401), (17, .int .u32 4022224774), (18, .int .u32 264347078), (19, .int .u32 604807628), (20, .int .u32 770255983), (21, .int .u32 1249150122), (22, .int .u32 1555081692), (23, .int .u32 1996064986), (24, .int .u32 2554220882), (25, .int .u32 2821834349), (26, .int .u32 2952996808), (27, .int .u32 3210313671), (28, .int .u32 3336571891), (29, .int .u32 3584528711), (30, .int .u32 113926993), (31, .int .u32 338241895), (32, .int .u32 666307205), (33, .int .u32 773529912), (34, .int .u32 1294757372), (35, .int .u32 1396182291), (36, .int .u32 1695183700), (37, .int .u32 1986661051), (38, .int .u32 2177026350), (39, .int .u32 2456956037), (40, .int .u32 2730485921), (41, .int .u32 2820302411), (42, .int .u32 3259730800), (43, .int .u32 3345764771), (44, .int .u32 3516065817), (45, .int .u32 3600352804), (46, .int .u32 4094571909), (47, .int .u32 275423344), (48, .int .u32 430227734), (49, .int .u32 506948616), (50, .int .u32 659060556), (51, .int .u32 883997877), (52, .int .u32 958139571), (53, .int .u32 1322822218), (54, .int .u32 1537002063), (55, .int .u32 1747873779), (56, .int .u32 1955562222), (57, .int .u32 2024104815), (58, .int .u32 2227730452), (59, .int .u32 2361852424), (60, .int .u32 2428436474), (61, .int .u32 2756734187), (62, .int .u32 3204031479), (63, .int .u32 3329325298)]).run Tryz.prog w = .ok (agg .u32 kon) w := by kernel_rfl
set_option maxRecDepth 100000 in
theorem constants (w : World) : Calls Tryz.prog 122 #[] w fun e w' => e = .returned (agg .u32 kon) ∧ Below w.heap.size w w' := by
  have hb := build_kon
  have hl : kon.length = 64 := rfl
  go_enter Tryz.func122, Tryz.ntmps122
  go_wp2
  exact ret_w64 rfl rfl (blk_new w (cl .u32 kon) _) rfl rfl ⟨rfl, (Below.refl _ _).alloc (Nat.le_refl _) _⟩
end Go.Proofs.YtlgpipdeckdmjaaGreat.Sha
/-
  SHA-256 as the program has it: a block is loaded.
-/
set_option linter.unusedVariables false
set_option linter.unusedSimpArgs false
namespace Go.Proofs.YtlgpipdeckdmjaaGreat.Sha
open Go.RowKit Base Reg Types
def cv (n : Nat) : Nat := n % 4294967296
theorem wrap_cv (n : Nat) : IntKind.u32.wrap (n : Int) = ((cv n : Nat) : Int) := by rw [wrap_u32]; unfold cv; omega
/-- Word j of a block of bytes. -/
def wd (l : List Nat) (j : Nat) : Nat := orr (orr (orr (sl (cv (l.getD (4 * j) 0)) 24) (sl (cv (l.getD (4 * j + 1) 0)) 16)) (sl (cv (l.getD (4 * j + 2) 0)) 8)) (cv (l.getD (4 * j + 3) 0))
def words (l : List Nat) : List Nat := (List.range 16).map (wd l)
theorem shl24 (a : Nat) : IntKind.u32.wrap ((a : Int) * 16777216) = ((sl a 24 : Nat) : Int) := by rw [wrap_u32]; unfold sl; omega
theorem shl16 (a : Nat) : IntKind.u32.wrap ((a : Int) * 65536) = ((sl a 16 : Nat) : Int) := by rw [wrap_u32]; unfold sl; omega
theorem shl8 (a : Nat) : IntKind.u32.wrap ((a : Int) * 256) = ((sl a 8 : Nat) : Int) := by rw [wrap_u32]; unfold sl; omega
attribute [local go_sem high] wrap_ad bits_xo bits_an bits_orr bits_nt unary_nt wrap_cv shl24 shl16 shl8
theorem load (b o n c : Nat) (l : List Nat) (w : World) (h64 : 64 ≤ l.length) (hn : n = l.length) (hlt : b < w.heap.size) (hm : l.length ≤ 4294967296)
    (hcell : ∀ j, j < l.length → w.cell? ⟨b, o + j, none⟩ = some (.int .u8 ((l.getD j 0 : Nat) : Int))) :
    Calls Tryz.prog 120 #[.slice (some ⟨b, o, none⟩) n c] w fun e w' => e = .returned (agg .u32 (words l)) ∧ Below w.heap.size w w' := by
  have Hcell := Lib.hid hcell
  have Hn := Lib.hid hn
  have hn1 : 64 ≤ n := by omega
  have hn2 : n ≤ 4294967296 := by omega
  clear hcell hn
  go_enter Tryz.func120, Tryz.ntmps120
  go_wp2
  go_loopw [5] (fun i wr => ∃ k : Nat, k ≤ 16 ∧ i = .int .i64 k ∧ blk wr w.heap.size (cl .u32 (zs 16)) 185 ∧ blk wr (w.heap.size + 1) (cl .u32 (upto 16 k (wd l))) 185 ∧ Below w.heap.size w wr) (fun i _ => 16 - (intOf i).toNat)
  case atStart => exact ⟨0, by omega, rfl, blk_alloc (blk_new _ _ _) _, by rw [upto_zero]; exact blk_at _ _ _ (by simp), ((Below.refl _ _).alloc (Nat.le_refl _) _).alloc (by simp) _⟩
  case round =>
    obtain ⟨k, hk, rfl, hb1, hb2, hbel⟩ := hrel
    have hl : (upto 16 k (wd l)).length = 16 := upto_length _ _ _
    by_cases hk2 : k < 16
    · have hc : ∀ j, j < n → wr.cell? ⟨b, o + j, none⟩ = some (.int .u8 ((l.getD j 0 : Nat) : Int)) := fun j hj => (hbel.cell (p := ⟨b, o + j, none⟩) hlt).trans (Hcell.out j (by rw [← Hn.out]; exact hj))
      have c0 := hc (4 * k) (by omega)
      have c1 := hc (4 * k + 1) (by omega)
      have c2 := hc (4 * k + 2) (by omega)
      have c3 := hc (4 * k + 3) (by omega)
      have cb : wr.cell? ⟨w.heap.size + 1, k, none⟩ = some (.int .u32 (((upto 16 k (wd l)).getD k 0 : Nat) : Int)) := (blk_cell hb2 k).trans (cl_get _ _ _ (by omega))
      have fb : wr.frozen? ⟨w.heap.size + 1, k, none⟩ = false := blk_free hb2 k
      have HB := Lib.hid hb2
      clear hc hb2
      have i1 : (4 * (k : Int)) < n := by omega
      have i2 : (4 * (k : Int) + 1) < n := by omega
      have i3 : (4 * (k : Int) + 2) < n := by omega
      have i4 : (4 * (k : Int) + 3) < n := by omega
      go_wp2
      refine wp_region_tail (fun n => wr.drewN n) 35 (by kernel_rfl) (by kernel_rfl) ⟨1, rfl⟩ ?_
      simp only [List.take_succ_cons, List.take_zero, List.drop_succ_cons, List.drop_zero]
      repeat (go_big_quiet_step (fail))
      refine wpQuiet_nil ?_
      intro nq
      go_wp2
      go_roundw
      case rel =>
        refine ⟨k + 1, by omega, by go_num, blk_setCell_ne (blk_drewN hb1) _ (by simp), ?_, bel_setCell (bel_drewN hbel nq) (by simp) _⟩
        have h := blk_setCell (blk_drewN (n := nq) HB.out) k (.int .u32 ((wd l k : Nat) : Int))
        rw [cl_set, upto_set 16 k _ hk2] at h
        have e : wd l k = orr (orr (orr (sl (cv (l[4 * k]?.getD 0)) 24) (sl (cv (l[4 * k + 1]?.getD 0)) 16)) (sl (cv (l[4 * k + 2]?.getD 0)) 8)) (cv (l[4 * k + 3]?.getD 0)) := by simp only [wd, List.getD_eq_getElem?_getD]
        rw [← e]
        exact h
      case measure => simp [intOf]; omega
    · obtain rfl : k = 16 := by omega
      rw [show upto 16 16 (wd l) = words l from upto_full 16 (wd l)] at hb2
      have hl : (words l).length = 16 := by simp [words]
      have hb3 := bk_of hb1
      have hb4 := bk_of hb2
      go_wp2
      refine ret_block rfl rfl (blk_setRow hb1 (cl .u32 (words l))) hl rfl ⟨rfl, bel_setRow hbel (Nat.le_refl _) _⟩
end Go.Proofs.YtlgpipdeckdmjaaGreat.Sha
/-
  SHA-256 as the program has it: the rounds of one block.
-/
set_option linter.unusedVariables false
set_option linter.unusedSimpArgs false
namespace Go.Proofs.YtlgpipdeckdmjaaGreat.Sha
open Go.RowKit Base Reg Types
def sg1 (y : Nat) : Nat := xo (xo (ro y 17) (ro y 19)) (sr y 10)
def sg0 (x : Nat) : Nat := xo (xo (ro x 7) (ro x 18)) (sr x 3)
/-- The sixteen words before step t, and the state. -/
def ringNew (r : List Nat) (t : Nat) : Nat := ad (r.getD (t % 16) 0) (ad (ad (sg1 (r.getD ((t - 2) % 16) 0)) (r.getD ((t - 7) % 16) 0)) (sg0 (r.getD ((t - 15) % 16) 0)))
def ringStep (r : List Nat) (t : Nat) : List Nat := if t < 16 then r else r.set (t % 16) (ringNew r t)
def ring (b : List Nat) : Nat → List Nat
  | 0 => b
  | t + 1 => ringStep (ring b t) t
def st (s b : List Nat) : Nat → List Nat
  | 0 => s
  | t + 1 => rnd (st s b t) (kon.getD t 0) ((ring b (t + 1)).getD (t % 16) 0)
def process (s b : List Nat) : List Nat := addS (st s b 64) s
theorem ring_length (b : List Nat) (h : b.length = 16) : ∀ t, (ring b t).length = 16
  | 0 => h
  | t + 1 => by
    unfold ring ringStep
    split
    · exact ring_length b h t
    · rw [List.length_set]; exact ring_length b h t
theorem st_length (s b : List Nat) (h : s.length = 8) : ∀ t, (st s b t).length = 8
  | 0 => h
  | t + 1 => rfl
theorem ring_old (b : List Nat) (t : Nat) (h : t < 16) : ring b (t + 1) = ring b t := by
  show ringStep (ring b t) t = _
  unfold ringStep
  rw [if_pos h]
theorem ring_new (b : List Nat) (t : Nat) (h : ¬ t < 16) : ring b (t + 1) = (ring b t).set (t % 16) (ringNew (ring b t) t) := by
  show ringStep (ring b t) t = _
  unfold ringStep
  rw [if_neg h]
theorem eight (l : List Nat) (h : l.length = 8) : ∃ a b c d e f g i, l = [a, b, c, d, e, f, g, i] := by
  match l, h with
  | [a, b, c, d, e, f, g, i], _ => exact ⟨a, b, c, d, e, f, g, i, rfl⟩
theorem round_any (s : List Nat) (hs : s.length = 8) (k x : Nat) (w : World) : Calls Tryz.prog 124 #[agg .u32 s, .int .u32 (k : Int), .int .u32 (x : Int)] w fun e' w' => e' = .returned (agg .u32 (rnd s k x)) ∧ Below w.heap.size w w' := by
  obtain ⟨a, b, c, d, e, f, g, i, rfl⟩ := eight s hs
  exact round a b c d e f g i k x w
theorem plus_any (s t : List Nat) (hs : s.length = 8) (ht : t.length = 8) (w : World) : Calls Tryz.prog 125 #[agg .u32 s, agg .u32 t] w fun e' w' => e' = .returned (agg .u32 (addS s t)) ∧ Below w.heap.size w w' := by
  obtain ⟨a, b, c, d, e, f, g, i, rfl⟩ := eight s hs
  obtain ⟨a', b', c', d', e', f', g', i', rfl⟩ := eight t ht
  exact plus a b c d e f g i a' b' c' d' e' f' g' i' w

/-- What is known of the memory at the head of round t. -/
def At (w : World) (s b : List Nat) (r : List Nat) (t : Nat) (W : World) : Prop :=
  blk W w.heap.size (cl .u32 s) 174 ∧ blk W (w.heap.size + 1) (cl .u32 r) 185 ∧ blk W (w.heap.size + 2) (cl .u32 (zs 8)) 174 ∧ blk W (w.heap.size + 3) (cl .u32 (st s b t)) 174 ∧ Below w.heap.size w W

theorem At.drew {w W : World} {s b r : List Nat} {t : Nat} (h : At w s b r t W) : At w s b r t W.drew := ⟨blk_drew h.1, blk_drew h.2.1, blk_drew h.2.2.1, blk_drew h.2.2.2.1, h.2.2.2.2.drew⟩
theorem At.keep {w W W' : World} {s b r : List Nat} {t : Nat} (h : At w s b r t W) (k : Below W.heap.size W W') : At w s b r t W' := ⟨blk_keep h.1 k, blk_keep h.2.1 k, blk_keep h.2.2.1 k, blk_keep h.2.2.2.1 k, bel_trans h.2.2.2.2 k h.2.2.2.2.size⟩
theorem shr10 (a : Nat) : ((a : Int) / 1024) = ((sr a 10 : Nat) : Int) := by unfold sr; omega
theorem shr3 (a : Nat) : ((a : Int) / 8) = ((sr a 3 : Nat) : Int) := by unfold sr; omega
theorem rnd_length (s : List Nat) (k x : Nat) : (rnd s k x).length = 8 := by simp [rnd]
theorem addS_length (s t : List Nat) : (addS s t).length = 8 := by simp [addS]
attribute [local go_sem] rnd_length addS_length
attribute [local go_sem high] wrap_ad bits_xo bits_an bits_orr bits_nt unary_nt shr10 shr3
theorem process_calls (s b : List Nat) (hs : s.length = 8) (hb : b.length = 16) (w : World) :
    Calls Tryz.prog 119 #[agg .u32 s, agg .u32 b] w fun e w' => e = .returned (agg .u32 (process s b)) ∧ Below w.heap.size w w' := by
  have Hs := Lib.hid hs
  have Hb := Lib.hid hb
  go_enter Tryz.func119, Tryz.ntmps119
  go_wp2_with fail
  refine (constants _).mono ?_
  rintro e w1 ⟨rfl, hb1⟩
  have A0 : At w s b (ring b 0) 0 w1 := ⟨blk_keep (blk_alloc (blk_alloc (blk_alloc (blk_new w _ _) _) _) _) hb1, blk_keep (blk_alloc (blk_alloc (blk_at _ _ _ (by simp)) _) _) hb1, blk_keep (blk_alloc (blk_at _ _ _ (by simp)) _) hb1, blk_keep (blk_at _ _ _ (by simp)) hb1,
    bel_trans (((((Below.refl _ _).alloc (Nat.le_refl _) _).alloc (by simp) _).alloc (by simp; omega) _).alloc (by simp; omega) _) hb1 (by simp; omega)⟩
  clear hb1
  go_wp2
  go_loopw [13] (fun i wr => ∃ t : Nat, t ≤ 64 ∧ i = .int .i64 t ∧ At w s b (ring b t) t wr) (fun i _ => 64 - (intOf i).toNat)
  case atStart => exact ⟨0, by omega, rfl, A0⟩
  case round =>
    obtain ⟨t, ht, rfl, hA⟩ := hrel
    clear A0 w1
    have hk : kon.length = 64 := rfl
    have hr : (ring b t).length = 16 := ring_length b hb t
    by_cases h64 : t < 64
    · by_cases h16 : t < 16
      · have er := ring_old b t h16
        rw [← er] at hA
        have Er := Lib.hid er
        clear er
        go_wp2
        obtain ⟨ι, F, hF, hin⟩ := class_of (At w s b (ring b (t + 1)) t)
        have l1 : ∀ i, bk (F i) (w.heap.size + 1 + 1 + 1) = some (cl .u32 (st s b t)).toArray := fun i => bk_of (hF i).2.2.2.1
        have l2 : ∀ i, (F i).cell? ⟨w.heap.size + 1, t % 16, none⟩ = some (.int .u32 (((ring b (t + 1)).getD (t % 16) 0 : Nat) : Int)) := fun i => (blk_cell (hF i).2.1 _).trans (cl_get _ _ _ (by rw [ring_length b Hb.out]; omega))
        have h0 := hin _ hA.drew
        have hne : Nonempty ι := ⟨h0.choose⟩
        refine wp_region_tail F 6 (by kernel_rfl) (by kernel_rfl) h0 ?_
        clear h0
        have HF := Lib.hid hF
        have HI := Lib.hid hin
        have hst : (st s b t).length = 8 := st_length s b Hs.out t
        clear hF hin hA
        simp only [List.take_succ_cons, List.take_zero, List.drop_succ_cons, List.drop_zero]
        repeat (go_big_quiet_step ((go_at_call 124; exact quiet_below HF.out HI.out (fun _ _ => At.keep) (round_any _ hst _ _ _))))
        refine wpQuiet_nil ?_
        intro i
        go_wp2
        go_roundw
        case rel =>
          refine ⟨t + 1, by omega, by go_num, blk_setRow_ne (HF.out i).1 _ (by omega), blk_setRow_ne (HF.out i).2.1 _ (by omega), blk_setRow_ne (HF.out i).2.2.1 _ (by omega), ?_, bel_setRow (HF.out i).2.2.2.2 (by omega) _⟩
          have h := blk_setRow (HF.out i).2.2.2.1 (cl .u32 (st s b (t + 1)))
          have e : st s b (t + 1) = rnd (st s b t) kon[t] ((ring b (t + 1)).getD (t % 16) 0) := by
            have ek : kon.getD t 0 = kon[t] := by rw [List.getD_eq_getElem?_getD, List.getElem?_eq_getElem (by omega)]; rfl
            rw [← ek]
            rfl
          rw [e] at h ⊢
          simp only [List.getD_eq_getElem?_getD] at h ⊢
          exact h
        case measure => simp [intOf]; omega
      · have m15 : (t - 15) % 16 < 16 := by omega
        have m2 : (t - 2) % 16 < 16 := by omega
        obtain ⟨ι, F, hF, hin⟩ := class_of (At w s b (ring b t) t)
        have l1 : ∀ i, (F i).cell? ⟨w.heap.size + 1, (t - 15) % 16, none⟩ = some (.int .u32 (((ring b t).getD ((t - 15) % 16) 0 : Nat) : Int)) := fun i => (blk_cell (hF i).2.1 _).trans (cl_get _ _ _ (by omega))
        have l2 : ∀ i, (F i).cell? ⟨w.heap.size + 1, (t - 2) % 16, none⟩ = some (.int .u32 (((ring b t).getD ((t - 2) % 16) 0 : Nat) : Int)) := fun i => (blk_cell (hF i).2.1 _).trans (cl_get _ _ _ (by omega))
        have l3 : ∀ i, (F i).cell? ⟨w.heap.size + 1, t % 16, none⟩ = some (.int .u32 (((ring b t).getD (t % 16) 0 : Nat) : Int)) := fun i => (blk_cell (hF i).2.1 _).trans (cl_get _ _ _ (by omega))
        have l4 : ∀ i, (F i).cell? ⟨w.heap.size + 1, (t - 7) % 16, none⟩ = some (.int .u32 (((ring b t).getD ((t - 7) % 16) 0 : Nat) : Int)) := fun i => (blk_cell (hF i).2.1 _).trans (cl_get _ _ _ (by omega))
        have l5 : ∀ i, (F i).frozen? ⟨w.heap.size + 1, t % 16, none⟩ = false := fun i => blk_free (hF i).2.1 _
        have h0 := hin _ hA.drew
        have hne : Nonempty ι := ⟨h0.choose⟩
        have HF := Lib.hid hF
        have HI := Lib.hid hin
        have H0 := Lib.hid h0
        clear hF hin hA h0
        go_wp2
        refine wp_region_all F (by kernel_rfl) (by kernel_rfl) H0.out ?_
        repeat (go_big_quiet_step (fail))
        refine wpQuiet_nil ?_
        intro i
        go_wp2
        have h1 := HI.out _ (HF.out i).drew
        refine wp_region_tail F 28 (by kernel_rfl) (by kernel_rfl) h1 ?_
        clear h1
        simp only [List.take_succ_cons, List.take_zero, List.drop_succ_cons, List.drop_zero]
        repeat (go_big_quiet_step ((go_at_call 123; exact quiet_still (right _ _ (by decide) (by decide) _))))
        refine wpQuiet_nil ?_
        intro j
        go_wp2
        obtain ⟨v, hv⟩ : ∃ v, v = ringNew (ring b t) t := ⟨_, rfl⟩
        have hA : At w s b (ring b (t + 1)) t ((F j).setCell ⟨w.heap.size + 1, t % 16, none⟩ (.int .u32 (v : Int))) := by
          have h := HF.out j
          rw [ring_new b t h16, ← hv]
          exact ⟨blk_setCell_ne h.1 _ (by simp), by have := blk_setCell h.2.1 (t % 16) (.int .u32 (v : Int)); rw [cl_set] at this; exact this, blk_setCell_ne h.2.2.1 _ (by simp), blk_setCell_ne h.2.2.2.1 _ (by simp), bel_setCell h.2.2.2.2 (by simp) _⟩
        simp [ringNew, sg1, sg0, hr, m2, m15] at hv
        rw [← hv]
        have Hv := Lib.hid hv
        clear hv l1 l2 l3 l4 l5 HF HI H0
        generalize (F j).setCell ⟨w.heap.size + 1, t % 16, none⟩ (.int .u32 (v : Int)) = W1 at hA ⊢
        clear hne i j F ι
        obtain ⟨ι, F, hF, hin⟩ := class_of (At w s b (ring b (t + 1)) t)
        have l1 : ∀ i, bk (F i) (w.heap.size + 1 + 1 + 1) = some (cl .u32 (st s b t)).toArray := fun i => bk_of (hF i).2.2.2.1
        have l2 : ∀ i, (F i).cell? ⟨w.heap.size + 1, t % 16, none⟩ = some (.int .u32 (((ring b (t + 1)).getD (t % 16) 0 : Nat) : Int)) := fun i => (blk_cell (hF i).2.1 _).trans (cl_get _ _ _ (by rw [ring_length b Hb.out]; omega))
        have h0 := hin _ hA.drew
        have hne : Nonempty ι := ⟨h0.choose⟩
        refine wp_region_tail F 6 (by kernel_rfl) (by kernel_rfl) h0 ?_
        clear h0
        have HF := Lib.hid hF
        have HI := Lib.hid hin
        have hst : (st s b t).length = 8 := st_length s b Hs.out t
        clear hF hin hA
        simp only [List.take_succ_cons, List.take_zero, List.drop_succ_cons, List.drop_zero]
        repeat (go_big_quiet_step ((go_at_call 124; exact quiet_below HF.out HI.out (fun _ _ => At.keep) (round_any _ hst _ _ _))))
        refine wpQuiet_nil ?_
        intro i
        go_wp2
        go_roundw
        case rel =>
          refine ⟨t + 1, by omega, by go_num, blk_setRow_ne (HF.out i).1 _ (by omega), blk_setRow_ne (HF.out i).2.1 _ (by omega), blk_setRow_ne (HF.out i).2.2.1 _ (by omega), ?_, bel_setRow (HF.out i).2.2.2.2 (by omega) _⟩
          have h := blk_setRow (HF.out i).2.2.2.1 (cl .u32 (st s b (t + 1)))
          have e : st s b (t + 1) = rnd (st s b t) kon[t] ((ring b (t + 1)).getD (t % 16) 0) := by
            have ek : kon.getD t 0 = kon[t] := by rw [List.getD_eq_getElem?_getD, List.getElem?_eq_getElem (by omega)]; rfl
            rw [← ek]
            rfl
          rw [e] at h ⊢
          simp only [List.getD_eq_getElem?_getD] at h ⊢
          exact h
        case measure => simp [intOf]; omega
    · obtain rfl : t = 64 := by omega
      have hst : (st s b 64).length = 8 := st_length s b Hs.out 64
      have c1 := bk_of hA.1
      have c2 := bk_of hA.2.2.1
      have c3 : bk wr (w.heap.size + 1 + 1 + 1) = some (cl .u32 (st s b 64)).toArray := bk_of hA.2.2.2.1
      go_wp2_with fail
      refine (plus_any _ _ hst hs _).mono ?_
      rintro e w2 ⟨rfl, hb2⟩
      have c4 : bk w2 (w.heap.size + 1 + 1) = some (cl .u32 (zs 8)).toArray := bk_of (blk_keep hA.2.2.1 hb2)
      go_wp2
      exact ret_words rfl rfl (blk_setRow (blk_keep hA.2.2.1 hb2) (cl .u32 (process s b))) rfl rfl ⟨rfl, bel_setRow (bel_trans hA.2.2.2.2 hb2 hA.2.2.2.2.size) (by omega) _⟩
end Go.Proofs.YtlgpipdeckdmjaaGreat.Sha
/-
  Slices: one that is read; one that the call itself has made; append of the first onto the second.
-/
set_option linter.unusedVariables false
set_option linter.unusedSimpArgs false
namespace Go.Proofs.YtlgpipdeckdmjaaGreat.Slice
open Go.RowKit Base

/-- A slice value of n elements, 'size' cells each, that reads as the cells xs; nil, or in a block that is there. -/
def SlC (w : World) (size : Nat) (v : Value) (n : Nat) (xs : List Value) : Prop :=
  ∃ A c, v = .slice A n c ∧ n ≤ c ∧ xs.length = n * size ∧ (A = none → c = 0) ∧ (∀ ad, A = some ad → ∃ b o, ad = ⟨b, o, none⟩ ∧ b < w.heap.size ∧ ∀ j u, xs[j]? = some u → w.cell? ⟨b, o + j, none⟩ = some u)
section
variable {w w' : World} {size n B base : Nat} {v x : Value} {xs ys : List Value} {e : TypeId}
theorem SlC.keep (h : SlC w size v n xs) (hb : Below w.heap.size w w') : SlC w' size v n xs := by
  obtain ⟨A, c, hv, hc, hl, hn, hr⟩ := h
  refine ⟨A, c, hv, hc, hl, hn, fun ad had => ?_⟩
  obtain ⟨b, o, hA, hlt, hcell⟩ := hr ad had
  exact ⟨b, o, hA, Nat.lt_of_lt_of_le hlt hb.size, fun j u hj => (hb.cell (p := ⟨b, o + j, none⟩) hlt).trans (hcell j u hj)⟩
/-- .. kept where its own block is. -/
theorem SlC.keepBy (h : SlC w size v n xs) (hs : w.heap.size ≤ w'.heap.size) (hb : ∀ b, v.ownBlock = some b → w'.heap[b]? = w.heap[b]?) : SlC w' size v n xs := by
  obtain ⟨A, c, rfl, hc, hl, hn, hr⟩ := h
  refine ⟨A, c, rfl, hc, hl, hn, fun ad had => ?_⟩
  obtain ⟨b, o, rfl, hlt, hcell⟩ := hr ad had
  subst had
  exact ⟨b, o, rfl, Nat.lt_of_lt_of_le hlt hs, fun j u hj => (World.cell?_of_block (a := ⟨b, o + j, none⟩) (hb b rfl)).trans (hcell j u hj)⟩
theorem SlC.nil (w : World) (size : Nat) : SlC w size (.slice none 0 0) 0 [] := ⟨none, 0, rfl, Nat.le_refl _, by simp, fun _ => rfl, (fun _ h => by cases h)⟩
/-- A slice of a block that is known whole. -/
theorem SlC.of_blk {b o c : Nat} {cs : List Value} {t : TypeId} (h : blk w b cs t) (hn : n ≤ c) (hl : xs.length = n * size) (hx : ∀ j u, xs[j]? = some u → cs[o + j]? = some u) : SlC w size (.slice (some ⟨b, o, none⟩) n c) n xs :=
  ⟨_, _, rfl, hn, hl, (fun h => by cases h), fun ad had => by
    cases had
    exact ⟨b, o, rfl, blk_lt h, fun j u hj => (blk_cell h _).trans (hx j u hj)⟩⟩
theorem SlC.of_own (h : w.ownsRow base e size v n xs) : SlC w size v n xs := by
  have hlen := h.1
  rcases h.2 with ⟨rfl, rfl⟩ | ⟨g, cap, cur, rfl, hb, hh, hnc, _, _, htake⟩
  · exact ⟨none, 0, rfl, Nat.le_refl _, hlen, fun _ => rfl, (fun _ h => by cases h)⟩
  · refine ⟨_, _, rfl, hnc, hlen, (fun h => by cases h), fun ad had => ?_⟩
    cases had
    refine ⟨g, 0, rfl, (Array.getElem?_eq_some_iff.1 hh).1, fun j u hj => ?_⟩
    have := h.cells (g := g) rfl j u hj
    rwa [Addr.add_mid] at this
/-- append(v, x...): v is nil or the call's own. -/
theorem run_append {P : Program} (t ty : TypeId) (i : TypeInfo) (z : Value) (bytes : Nat) (ht : P.underlying t = some (.slice e)) (hi : P.info? e = some i) (hz : i.zero = some z) (hsize : i.size = size) (hby : i.bytes = bytes) (hzs : z.cells.size = size) (hsz : 0 < size)
    {m : Nat} (hown : w.ownsRow base e size v n xs) (hx : SlC w size x m ys) (h1 : ∀ u ∈ ys, u.oneCell' = true) (h63 : n + m ≤ maxLen) (hbytes : (n + m) * bytes ≤ 140737488355328) (hbase : base ≤ w.heap.size) :
    ∃ v' w', (Builtin.append_ #[t, t] ty #[v, x]).run P w = .ok v' w' ∧ w'.ownsRow base e size v' (n + m) (xs ++ ys) ∧ w.grownBy w' v.ownBlock := by
  obtain ⟨A, c, rfl, hc, hl, hn, hr⟩ := hx
  cases A with
  | none =>
    obtain rfl : c = 0 := hn rfl
    obtain rfl : m = 0 := by omega
    obtain rfl : ys = [] := List.eq_nil_of_length_eq_zero (by simpa using hl)
    refine ⟨v, w, run_append_owned_none (P := P) (w := w) base t ty e i size ht hi v n xs hown, by simpa using hown, ⟨rfl, rfl, rfl, Nat.le_refl _, fun _ _ _ => rfl⟩⟩
  | some ad =>
    obtain ⟨b, o, rfl, hlt, hcell⟩ := hr _ rfl
    obtain ⟨v', w', h2, h3, h4, _⟩ := run_append_own (P := P) w base t ty e i z size bytes ht hi hz hsize hby hzs hsz v n xs hown ⟨b, o, none⟩ m c ys hl (fun j u hj => by rw [Addr.add_mid]; exact hcell j u hj) h1 h63 hbytes hbase
    exact ⟨v', w', h2, h3, h4⟩
/-- An empty slice in new memory; a slice literal. -/
theorem own_lit {P : Program} (w : World) (e : TypeId) (cs : List Value) (n : Nat) (hm : n ≤ maxLen) (hs : cs.length = n * size) : (w.alloc (.cells cs.toArray e)).ownsRow w.heap.size e size (.slice (some ⟨w.heap.size, 0, none⟩) n n) n cs :=
  ⟨hs, .inr ⟨w.heap.size, n, cs.toArray, rfl, Nat.le_refl _, heap_alloc_new w _, Nat.le_refl _, hm, by simpa using hs, by rw [← hs]; simp⟩⟩
theorem own_mono {base' : Nat} (h : w.ownsRow base e size v n xs) (hb : base' ≤ base) : w.ownsRow base' e size v n xs :=
  ⟨h.1, h.2.imp id fun ⟨g, cap, cur, h1, h2, h3⟩ => ⟨g, cap, cur, h1, Nat.le_trans hb h2, h3⟩⟩
theorem own_keep (h : w.ownsRow base e size v n xs) (hb : Below w.heap.size w w') : w'.ownsRow base e size v n xs :=
  h.kept (row := none) ⟨hb.os, hb.tape, hb.output, hb.size, fun k hk _ => hb.block k hk⟩ (by cases v.ownBlock <;> simp)
end

/-! bytes -/
abbrev Sl (w : World) (v : Value) (l : List Nat) : Prop := SlC w 1 v l.length (cl .u8 l)
abbrev Own (w : World) (base : Nat) (v : Value) (l : List Nat) : Prop := w.ownsRow base 5 1 v l.length (cl .u8 l)
theorem own_bytes (w : World) (l : List Nat) (h : l.length ≤ 1099511627776) : Own (w.alloc (.cells (cl .u8 l).toArray 5)) w.heap.size (.slice (some ⟨w.heap.size, 0, none⟩) l.length l.length) l :=
  own_lit (P := Tryz.prog) w 5 (cl .u8 l) l.length (by unfold maxLen; omega) (by rw [cl_length, Nat.mul_one])
theorem own_empty (w : World) : Own (w.alloc (.cells #[] 5)) w.heap.size (.slice (some ⟨w.heap.size, 0, none⟩) 0 0) [] := own_bytes w [] (by simp)
theorem own_empty' {w : World} {b : Nat} (h : b = w.heap.size) : Own (w.alloc (.cells #[] 5)) b (.slice (some ⟨b, 0, none⟩) 0 0) [] := h ▸ own_empty w
theorem own_slice {w : World} {base : Nat} {v : Value} {l : List Nat} (h : Own w base v l) : ∃ A c, v = .slice A l.length c := by
  rcases h.2 with ⟨rfl, h2⟩ | ⟨g, cap, cur, rfl, _⟩
  · exact ⟨none, 0, by rw [h2]⟩
  · exact ⟨_, _, rfl⟩
theorem blk_grown {w w' : World} {b : Nat} {cs : List Value} {t : TypeId} {r : Option Nat} (h : blk w b cs t) (hg : w.grownBy w' r) (hr : some b ≠ r) : blk w' b cs t := (hg.block b (blk_lt h) hr).trans h
theorem alloc_size (w : World) (o : Obj) : (w.alloc o).heap.size = w.heap.size + 1 := by simp
theorem run_append_bytes {w : World} {base : Nat} {v x : Value} {l m : List Nat} (ty : TypeId) (hown : Own w base v l) (hx : Sl w x m) (h63 : l.length + m.length ≤ 1099511627776) (hbase : base ≤ w.heap.size) :
    ∃ v' w', (Builtin.append_ #[97, 97] ty #[v, x]).run Tryz.prog w = .ok v' w' ∧ Own w' base v' (l ++ m) ∧ w.grownBy w' v.ownBlock := by
  have h := run_append (P := Tryz.prog) 97 ty ((Tryz.prog.info? 5).get (by kernel_rfl)) (.int .u8 0) 1 Tryz.underlying97 (by kernel_rfl) (by kernel_rfl) (by kernel_rfl) (by kernel_rfl) (by kernel_rfl) (by omega) hown hx (cl_one _ _) (by unfold maxLen; omega) (by omega) hbase
  obtain ⟨v', w', h1, h2, h3⟩ := h
  refine ⟨v', w', h1, ?_, h3⟩
  rw [cl_append] at h2
  unfold Own
  rw [List.length_append]
  exact h2
theorem wpList_append_bytes {w : World} {ops : Array Oper} {rest : List Oper} {o : Oper} {a : Act} {Q : Exit → Act → World → Prop} (hgd : o.guard = none) (s y : Operand) 
    (ho : o.op = .call { callee := .builtin .append, args := #[s, y], argTypes := #[97, 97] }) {base : Nat} {v x : Value} {l m : List Nat} (hs : a.eval s = v) (hy : a.eval y = x)
    (hown : Own w base v l) (hx : Sl w x m) (h63 : l.length + m.length ≤ 1099511627776) (hbase : base ≤ w.heap.size)
    (h : ∀ v' w', Own w' base v' (l ++ m) → w.grownBy w' v.ownBlock → wpList Tryz.prog ops Q rest (a.put o.dst v') w') : wpList Tryz.prog ops Q (o :: rest) a w := by
  refine wpList_plain hgd fun K hK => ?_
  obtain ⟨v', w', h1, h2, h3⟩ := run_append_bytes o.type hown hx h63 hbase
  unfold Oper.wp execOp
  simp only [ho, resolve, invoke, builtin, Sem.run_bind, Sem.run_pure, Result.andThen_ok, List.map_toArray, List.map_cons, List.map_nil, hs, hy, h1]
  exact hK _ _ (h v' w' h2 h3)
/-- v[k:]. -/
theorem SlC.drop {size n c b o k : Nat} {w : World} {xs : List Value} (h : SlC w size (.slice (some ⟨b, o, none⟩) n c) n xs) (hk : k ≤ n) :
    SlC w size (.slice (if c = k then some ⟨b, o, none⟩ else some ⟨b, o + k * size, none⟩) (n - k) (c - k)) (n - k) (xs.drop (k * size)) := by
  obtain ⟨A, c', hv, hc, hl, hn, hr⟩ := h
  cases hv
  obtain ⟨b', o', he, hlt, hcell⟩ := hr _ rfl
  cases he
  have hl2 : (xs.drop (k * size)).length = (n - k) * size := by simp [hl, Nat.sub_mul]
  refine ⟨_, _, rfl, by omega, hl2, ?_, ?_⟩
  · intro h; split at h <;> cases h
  · intro ad had
    by_cases hck : c = k
    · rw [if_pos hck] at had
      cases had
      refine ⟨_, _, rfl, hlt, fun j u hj => ?_⟩
      have : n - k = 0 := by omega
      rw [this, Nat.zero_mul] at hl2
      have := List.eq_nil_of_length_eq_zero hl2
      rw [this] at hj
      cases hj
    · rw [if_neg hck] at had
      cases had
      refine ⟨_, _, rfl, hlt, fun j u hj => ?_⟩
      rw [List.getElem?_drop] at hj
      have := hcell _ _ hj
      rwa [← Nat.add_assoc] at this
theorem Sl.drop {w : World} {b o c k : Nat} {l : List Nat} (h : Sl w (.slice (some ⟨b, o, none⟩) l.length c) l) (hk : k ≤ l.length) :
    Sl w (.slice (if c = k then some ⟨b, o, none⟩ else some ⟨b, o + k, none⟩) (l.length - k) (c - k)) (l.drop k) := by
  have h2 := SlC.drop h hk
  rw [Nat.mul_one] at h2
  have e : (cl .u8 l).drop k = cl .u8 (l.drop k) := by simp [cl]
  have e2 : (l.drop k).length = l.length - k := by simp
  rw [e] at h2
  unfold Sl
  rw [e2]
  exact h2
end Go.Proofs.YtlgpipdeckdmjaaGreat.Slice
