/-
  SHA-256 as the reference has it: rotation, constants, padding.
-/
import Derived.Test.YtlgpipdeckdmjaaSha7
set_option linter.unusedVariables false
set_option linter.unusedSimpArgs false
namespace Go.Proofs.Ytlgpipdeckdmjaa.Ref
open Go.RowKit Base Reg Types Slice Sha
theorem rot_bits (x n : Nat) : bits BinOp.or IntKind.u32 ((x : Int) / 2 ^ n) ((x : Int) * 2 ^ (32 - n) % 4294967296) = ((ro x n : Nat) : Int) := by
  have h1 : ((x : Int) * 2 ^ (32 - n) % 4294967296) = ((sl x (32 - n) : Nat) : Int) := by
    unfold sl
    rw [show ((x : Int) * 2 ^ (32 - n)) = ((x * 2 ^ (32 - n) : Nat) : Int) by rw [Int.natCast_mul, Int.natCast_pow]; rfl]
    exact mod32 _
  have h2 : ((x : Int) / 2 ^ n) = ((sr x n : Nat) : Int) := by
    unfold sr
    rw [Int.natCast_ediv, Int.natCast_pow]; rfl
  rw [h1, h2, bits_orr]
  unfold ro orr
  rw [Nat.or_comm]
theorem rotate (x : Nat) (m : Int) (h1 : 1 ≤ m) (h2 : m ≤ 31) (w : World) : Calls Try.prog 104 #[.int .u32 (x : Int), .int .i64 m] w fun e w' => e = .returned (.int .u32 (ro x m.toNat : Int)) ∧ Below w.heap.size w w' := by
  obtain ⟨n, rfl⟩ := Int.eq_ofNat_of_zero_le (by omega : 0 ≤ m)
  go_enter Try.func104, Try.ntmps104
  go_wp2_with fail
  refine wp_region_all (fun n => w.drewN n) (by kernel_rfl) (by kernel_rfl) ⟨1, rfl⟩ ?_
  repeat (go_big_quiet_step (fail))
  refine wpQuiet_nil ?_
  intro i
  go_wp2
  go_ret
  exact ⟨by rw [rot_bits]; simp, bel_drewN (Below.refl _ _) i⟩
set_option maxRecDepth 100000 in
theorem constants (w : World) : Calls Try.prog 101 #[] w fun e w' => e = .returned (agg .u32 kon) ∧ Below w.heap.size w w' := by
  have hb := build_kon
  have hl : kon.length = 64 := rfl
  go_enter Try.func101, Try.ntmps101
  go_wp2
  exact ret_w64 rfl rfl (blk_new w (cl .u32 kon) _) rfl rfl ⟨rfl, (Below.refl _ _).alloc (Nat.le_refl _) _⟩
theorem padded (w : World) (M : List Nat) (x : Value) (hx : Sl w x M) (hM : M.length ≤ 1000000) :
    Calls Try.prog 102 #[x] w fun e w' => ∃ v, e = .returned v ∧ Own w' w.heap.size v (M ++ pad M.length) ∧ Below w.heap.size w w' := by
  have HX := Lib.hid hx
  obtain ⟨A0, c0, rfl, -⟩ := hx
  have hbz := zc_le M.length
  go_enter Try.func102, Try.ntmps102
  go_wp2_with (first
    | (at_builtin
       (refine wpList_append_bytes rfl (.tmp 6) (.tmp 7) rfl rfl rfl (own_empty w) (HX.out.keep ((Below.refl _ _).alloc (Nat.le_refl _) _)) (by simp; omega) (by simp) ?_; intro v1 w1 ho1 hg1)
       rw [List.nil_append] at ho1
       have hb1 : Below w.heap.size w w1 := ((Below.refl w.heap.size w).alloc (Nat.le_refl _) (.cells #[] 5)).grown hg1 (by simp only [alloc_size]; omega) (by intro k hk; have : w.heap.size = k := (by simpa [Act.eval, Value.ownBlock] using hk); omega)
       have H1 := Lib.hid ho1
       have HB1 := Lib.hid hb1
       clear ho1 hg1 hb1)
    | (at_builtin
       (refine wpList_append_bytes rfl (.tmp 8) (.tmp 9) rfl rfl rfl (own_keep H1.out ((Below.refl _ _).alloc (Nat.le_refl _) _)) (sl_lit w1 [128] 1 rfl (by simp) rfl) (by simp; omega) (by simp only [alloc_size]; have := HB1.out.size; omega) ?_; intro v2 w2 ho2 hg2)
       have hb2 : Below w.heap.size w w2 := (bel_trans HB1.out ((Below.refl _ w1).alloc (Nat.le_refl _) (.cells #[.int .u8 128] 5)) HB1.out.size).grown hg2 (by simp only [alloc_size]; have := HB1.out.size; omega) (by intro k hk; exact own_block H1.out k (by simpa [Act.eval] using hk))
       clear hg2))
  have A0 : Own w2 w.heap.size v2 (M ++ zeros M.length 0) := ho2
  clear ho2 H1 HB1
  go_loopw [3] (fun v wr => ∃ k, k ≤ zc M.length ∧ Own wr w.heap.size v (M ++ zeros M.length k) ∧ Below w.heap.size w wr) (fun v _ => M.length + zc M.length + 1 - slen v)
  case atStart => exact ⟨0, by omega, A0, hb2⟩
  case round =>
    obtain ⟨k, hk, ho, hb⟩ := hrel
    clear A0 hb2
    obtain ⟨A, c, rfl⟩ := own_slice ho
    have HO := Lib.hid ho
    obtain ⟨L, hL⟩ : ∃ L, L = M ++ zeros M.length k := ⟨_, rfl⟩
    have hl : L.length = M.length + (k + 1) := by rw [hL, List.length_append, zeros_length]
    rw [← hL] at HO
    rw [← hL]
    have HL := Lib.hid hL
    clear ho hL
    by_cases hkz : k < zc M.length
    · have ht : ((M.length : Int) + ((k : Int) + 1)) % 64 ≠ 56 := by have := zc_before M.length k hkz; omega
      go_wp2_with (
        at_builtin
        (refine wpList_append_bytes rfl (.tmp 15) (.tmp 16) rfl rfl rfl (own_keep HO.out ((Below.refl _ _).alloc (Nat.le_refl _) _)) (sl_lit wr [0] 1 rfl (by simp) rfl) (by simp; omega) (by simp only [alloc_size]; have := hb.size; omega) ?_; intro v1 w2 ho1 hg1))
      have hb2 := (bel_trans hb ((Below.refl _ wr).alloc (Nat.le_refl _) (.cells #[.int .u8 0] 5)) hb.size).grown hg1 (by simp only [alloc_size]; have := hb.size; omega) (fun k hk => own_block HO.out k (by simpa [Act.eval] using hk))
      rw [HL.out, List.append_assoc, zeros_succ] at ho1
      refine ⟨⟨k + 1, by omega, ho1, hb2⟩, ?_⟩
      rw [slen_own ho1, slen_own HO.out, hl, List.length_append, zeros_length]
      omega
    · obtain rfl : k = zc M.length := by omega
      have ht : ((M.length : Int) + ((zc M.length : Int) + 1)) % 64 = 56 := by have := zc_at M.length; omega
      clear hkz
      go_wp2_with fail
      go_loopw [3, 5] (fun v i wr => ∃ k : Nat, k ≤ 8 ∧ i = .int .i64 (7 - (k : Int)) ∧ Own wr w.heap.size v (M ++ (zeros M.length (zc M.length) ++ lbs M.length k)) ∧ Below w.heap.size w wr) (fun _ i _ => (intOf i + 1).toNat)
      case atStart =>
        have h := HO.out
        rw [HL.out] at h
        exact ⟨0, by omega, rfl, by simpa [lbs, ← HL.out] using HO.out, hb⟩
      case round =>
        clear HO hb ht hl hk HL
        obtain ⟨k, hk, rfl, ho, hb⟩ := hrel
        obtain ⟨A2, c2, rfl⟩ := own_slice ho
        have HO := Lib.hid ho
        obtain ⟨L, hL⟩ : ∃ L, L = M ++ (zeros M.length (zc M.length) ++ lbs M.length k) := ⟨_, rfl⟩
        have hl : L.length = M.length + (zc M.length + 1 + k) := by rw [hL, List.length_append, List.length_append, zeros_length, lbs_length]
        rw [← hL] at HO
        rw [← hL]
        have HL := Lib.hid hL
        have HN := Lib.hid hl
        clear ho hL hl
        by_cases hk8 : k < 8
        · have i1 : (0 : Int) ≤ 7 - (k : Int) := by omega
          have hlb : ((M.length : Int) * 8 / 2 ^ (8 * (7 - k)) % 256) = ((lb M.length (7 - k) : Nat) : Int) := by simp [lb]
          go_wp2_with (
            at_builtin
            (refine wpList_append_bytes rfl (.tmp 26) (.tmp 32) rfl rfl rfl (own_keep HO.out ((Below.refl _ _).alloc (Nat.le_refl _) _)) (sl_lit wr [lb M.length (7 - k)] 1 rfl (by simp) rfl) (by have := HN.out; simp only [List.length_cons, List.length_nil]; omega) (by simp only [alloc_size]; have := hb.size; omega) ?_; intro v1 w2 ho1 hg1))
          have hb2 := (bel_trans hb ((Below.refl _ wr).alloc (Nat.le_refl _) (.cells #[.int .u8 ((lb M.length (7 - k) : Nat) : Int)] 5)) hb.size).grown hg1 (by simp only [alloc_size]; have := hb.size; omega) (fun k hk => own_block HO.out k (by simpa [Act.eval] using hk))
          rw [HL.out, List.append_assoc, List.append_assoc, lbs_succ] at ho1
          go_roundw
          case rel => exact ⟨k + 1, by omega, by go_num, ho1, hb2⟩
          case measure => simp [intOf]; omega
        · obtain rfl : k = 8 := by omega
          have i1 : (7 : Int) - ((8 : Nat) : Int) = -1 := by omega
          go_wp2_with fail
          go_ret
          have e : L = M ++ pad M.length := HL.out
          refine ⟨.slice A2 L.length c2, rfl, ?_, hb⟩
          rw [← e]
          exact HO.out
end Go.Proofs.Ytlgpipdeckdmjaa.Ref
