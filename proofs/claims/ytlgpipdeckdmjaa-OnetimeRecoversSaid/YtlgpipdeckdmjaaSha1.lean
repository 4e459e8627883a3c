/-
  The steps of SHA-256 as the program has them: rotation, a round, the sum of two states, the constants.
-/
import Derived.Test.YtlgpipdeckdmjaaProg
import Derived.Test.YtlgpipdeckdmjaaBase
import Derived.Test.YtlgpipdeckdmjaaReg
import Derived.Test.YtlgpipdeckdmjaaTypes
import Derived.Lib.Hide
set_option linter.unusedVariables false
set_option linter.unusedSimpArgs false
namespace Go.Proofs.Ytlgpipdeckdmjaa.Sha
open Go.RowKit Base Reg Types

/-- x rotated to the right by n bits. -/
def ro (x n : Nat) : Nat := orr (sl x (32 - n)) (sr x n)

theorem neg_and (n : Nat) (h1 : 1 ≤ n) (h2 : n ≤ 31) : bits BinOp.and IntKind.u64 (IntKind.u64.wrap (-(n : Int))) 31 = ((32 - n : Nat) : Int) := by
  have hw : IntKind.u64.wrap (-(n : Int)) = ((18446744073709551616 - n : Nat) : Int) := by
    rw [show IntKind.u64.wrap (-(n : Int)) = (-(n : Int)) % 18446744073709551616 by simp [IntKind.wrap, IntKind.bits, IntKind.signed]]
    omega
  rw [hw]
  have h := u64_and_nat (18446744073709551616 - n) 31 (by omega) (by omega)
  refine h.trans ?_
  rw [nat_mask5]
  congr 1
  omega
theorem back_n (n : Nat) (h1 : 1 ≤ n) (h2 : n ≤ 31) : IntKind.u64.wrap (32 - ((32 - n : Nat) : Int)) = (n : Int) := by
  rw [show IntKind.u64.wrap (32 - ((32 - n : Nat) : Int)) = (32 - ((32 - n : Nat) : Int)) % 18446744073709551616 by simp [IntKind.wrap, IntKind.bits, IntKind.signed]]
  omega
theorem ro_bits (x n : Nat) : bits BinOp.or IntKind.u32 ((x : Int) * 2 ^ (32 - n) % 4294967296) ((x : Int) / 2 ^ n) = ((ro x n : Nat) : Int) := by
  have h1 : ((x : Int) * 2 ^ (32 - n) % 4294967296) = ((sl x (32 - n) : Nat) : Int) := by
    unfold sl
    rw [show ((x : Int) * 2 ^ (32 - n)) = ((x * 2 ^ (32 - n) : Nat) : Int) by rw [Int.natCast_mul, Int.natCast_pow]; rfl]
    exact mod32 _
  have h2 : ((x : Int) / 2 ^ n) = ((sr x n : Nat) : Int) := by
    unfold sr
    rw [Int.natCast_ediv, Int.natCast_pow]; rfl
  rw [h1, h2, bits_orr]
  rfl
theorem rotl (x : Nat) (n : Nat) (h1 : 1 ≤ n) (h2 : n ≤ 31) (w : World) : Calls Try.prog 146 #[.int .u32 (x : Int), .int .i64 (-(n : Int))] w fun e w' => e = .returned (.int .u32 (ro x n : Int)) ∧ w = w' := by
  have e1 := neg_and n h1 h2
  have e3 := back_n n h1 h2
  go_enter Try.func146, Try.ntmps146
  go_wp2
  go_ret
  exact ⟨by simp [ro_bits], rfl⟩
theorem right (x : Nat) (m : Int) (h1 : 1 ≤ m) (h2 : m ≤ 31) (w : World) : Calls Try.prog 143 #[.int .u32 (x : Int), .int .i64 m] w fun e w' => e = .returned (.int .u32 (ro x m.toNat : Int)) ∧ w = w' := by
  obtain ⟨n, rfl⟩ := Int.eq_ofNat_of_zero_le (by omega : 0 ≤ m)
  go_enter Try.func143, Try.ntmps143
  go_wp2_with fail
  refine (rotl x n (by omega) (by omega) w).mono ?_
  rintro e w' ⟨rfl, rfl⟩
  go_wp2_with fail
  go_ret
  exact ⟨by simp, rfl⟩

/-- The two sums of a round. -/
def sumT (e f g h k w : Nat) : Nat := ad (ad (ad (ad h (xo (xo (ro e 6) (ro e 11)) (ro e 25))) (xo (an e f) (an (nt e) g))) k) w
def sumU (a b c : Nat) : Nat := ad (xo (xo (ro a 2) (ro a 13)) (ro a 22)) (xo (xo (an a b) (an a c)) (an b c))
def rnd (s : List Nat) (k w : Nat) : List Nat :=
  let t := sumT (s.getD 4 0) (s.getD 5 0) (s.getD 6 0) (s.getD 7 0) k w
  let u := sumU (s.getD 0 0) (s.getD 1 0) (s.getD 2 0)
  [ad t u, s.getD 0 0, s.getD 1 0, s.getD 2 0, ad (s.getD 3 0) t, s.getD 4 0, s.getD 5 0, s.getD 6 0]

theorem unary_nt (a : Nat) : Op.unary .xor (.int .u32 (a : Int)) = pure (.int .u32 ((nt a : Nat) : Int)) := by
  show (Op.intBits .xor .u32 4294967295 (a : Int)) = _
  rw [intBits_xor, bits_nt]
attribute [local go_sem high] wrap_ad bits_xo bits_an bits_orr bits_nt unary_nt
theorem round (a b c d e f g h k x : Nat) (w : World) : Calls Try.prog 144 #[agg .u32 [a, b, c, d, e, f, g, h], .int .u32 (k : Int), .int .u32 (x : Int)] w fun e' w' => e' = .returned (agg .u32 (rnd [a, b, c, d, e, f, g, h] k x)) ∧ Below w.heap.size w w' := by
  go_enter Try.func144, Try.ntmps144
  go_wp2
  obtain ⟨ι, F, hF, hin⟩ := class_of (fun W => blk W w.heap.size (cl .u32 [a, b, c, d, e, f, g, h]) 197 ∧ blk W (w.heap.size + 1) (cl .u32 (zs 8)) 197 ∧ Below w.heap.size w W)
  have hc : ∀ i j, (F i).cell? ⟨w.heap.size, j, none⟩ = (cl .u32 [a, b, c, d, e, f, g, h])[j]? := fun i j => blk_cell (hF i).1 j
  have h0 := hin _ ⟨blk_drew (blk_alloc (blk_new w (cl .u32 [a, b, c, d, e, f, g, h]) _) _), blk_drew (blk_at _ _ _ (by simp)), (((Below.refl _ _).alloc (Nat.le_refl _) _).alloc (by simp) _).drew⟩
  have hne : Nonempty ι := ⟨h0.choose⟩
  refine wp_region_all F (by kernel_rfl) (by kernel_rfl) h0 ?_
  clear h0
  have HF := Lib.hid hF
  have HI := Lib.hid hin
  clear hF hin
  repeat (go_big_quiet_step ((go_at_call 143; exact quiet_still (right _ _ (by decide) (by decide) _))))
  refine wpQuiet_nil ?_
  intro i
  go_wp2
  have h0 := HI.out _ ⟨blk_drew (HF.out i).1, blk_drew (HF.out i).2.1, (HF.out i).2.2.drew⟩
  refine wp_region_all F (by kernel_rfl) (by kernel_rfl) h0 ?_
  clear h0
  repeat (go_big_quiet_step ((go_at_call 143; exact quiet_still (right _ _ (by decide) (by decide) _))))
  refine wpQuiet_nil ?_
  intro j
  have hb : bk (F j) (w.heap.size + 1) = some (cl .u32 (zs 8)).toArray := bk_of (HF.out j).2.1
  go_wp2
  refine ret_words rfl rfl (blk_setRow (HF.out j).2.1 (cl .u32 (rnd [a, b, c, d, e, f, g, h] k x))) rfl rfl ⟨rfl, bel_setRow (HF.out j).2.2 (by simp) _⟩
end Go.Proofs.Ytlgpipdeckdmjaa.Sha
