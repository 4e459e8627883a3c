/-
  onetime: the hash of a tag, a leaf and further bytes; ranges; the first value and the next value of a chain.
-/
import Derived.Test.YtlgpipdeckdmjaaRef3
import Derived.Laws.Cover3
set_option linter.unusedVariables false
set_option linter.unusedSimpArgs false
namespace Go.Proofs.Ytlgpipdeckdmjaa.One
open Go.RowKit Base Reg Types Slice Sha
/-- The first half of a digest. -/
def hf (M : List Nat) : List Nat := (sha M).take 16
theorem sha_length (M : List Nat) : (sha M).length = 32 := by simp [sha, outs]
theorem hf_length (M : List Nat) : (hf M).length = 16 := by simp [hf, sha_length]
/-- A tag and a leaf. -/
def hd (tag leaf : Nat) : List Nat := [tag, leaf / 16777216 % 256, leaf / 65536 % 256, leaf / 256 % 256, leaf % 256]
def sec (seed : List Nat) (leaf chain : Nat) : List Nat := hf (hd 2 leaf ++ [chain % 256] ++ seed)
def stp (leaf chain i : Nat) (v : List Nat) : List Nat := hf (hd 3 leaf ++ [chain % 256, i % 256] ++ v)
def adv (leaf chain from_ : Nat) : Nat → List Nat → List Nat
  | 0, v => v
  | n + 1, v => stp leaf chain (from_ + n) (adv leaf chain from_ n v)
def cmp (leaf : Nat) (ends : List Nat) : List Nat := hf (hd 4 leaf ++ ends)
theorem sec_length (s : List Nat) (a b : Nat) : (sec s a b).length = 16 := hf_length _
theorem stp_length (a b c : Nat) (v : List Nat) : (stp a b c v).length = 16 := hf_length _
theorem adv_length (a b c n : Nat) (v : List Nat) (h : v.length = 16) : (adv a b c n v).length = 16 := by
  cases n with
  | zero => exact h
  | succ n => exact stp_length _ _ _ _
theorem cmp_length (a : Nat) (v : List Nat) : (cmp a v).length = 16 := hf_length _
set_option maxRecDepth 20000 in
theorem sumHalf (w : World) (M : List Nat) (x : Value) (hx : Sl w x M) (hM : M.length ≤ 1000000) :
    Calls Try.prog 100 #[x] w fun e w' => e = .returned (agg .u8 (hf M)) ∧ Below w.heap.size w w' := by
  have H := Lib.hid hx
  clear hx
  go_enter Try.func100, Try.ntmps100
  go_wp2_with fail
  refine (sum_all _ M x (H.out.keep ((Below.refl _ _).alloc (Nat.le_refl _) _)) hM).mono ?_
  rintro e w1 ⟨rfl, hb1⟩
  have hB1 := blk_keep (blk_new w (cl .u8 (zs 16)) 148) hb1
  have hbel1 := bel_trans ((Below.refl _ w).alloc (Nat.le_refl _) _) hb1 (by simp only [alloc_size]; omega)
  have hlt := blk_lt hB1
  have hk := bk_of hB1
  have hl := sha_length M
  have HB1 := Lib.hid hB1
  have q1 : ldGot Try.prog 148 w1.heap.size 16 (w1.alloc (.cells (cl .u8 (sha M)).toArray 179)) (some (cl .u8 (sha M)).toArray) = .ok (agg .u8 (hf M)) (w1.alloc (.cells (cl .u8 (sha M)).toArray 179)) := by
    have h := ld_part (P := Try.prog) (ty := 148) (n := 16) (d := (Try.prog.underlying 148).get (by kernel_rfl)) (blk_new w1 (cl .u8 (sha M)) 179) (by kernel_rfl) (by kernel_rfl) (by kernel_rfl) (by rw [cl_length, hl]; omega)
    rw [bk_of (blk_new w1 (cl .u8 (sha M)) 179), cl_take] at h
    exact h
  have hl2 := hf_length M
  have q2 : ∀ W, (Instr.arrayAt 148 (.slice (some ⟨w1.heap.size, 0, none⟩) 16 32)).run Try.prog W = .ok (.pointer (some ⟨w1.heap.size, 0, none⟩)) W := fun W => run_arrayAt W 148 5 16 _ 16 32 (by kernel_rfl) (by omega)
  clear hB1 hb1
  go_wp2_with fail
  refine ret_half rfl rfl (blk_alloc (blk_setRow HB1.out (cl .u8 (hf M))) _) hl2 rfl ⟨rfl, (bel_setRow hbel1 (Nat.le_refl _) _).alloc (by simp; omega) _⟩
theorem within (n m : Int) (w : World) : Calls Try.prog 66 #[.int .i64 n, .int .i64 m] w fun e w' => e = .returned (.bool (decide (0 ≤ n ∧ n ≤ m))) ∧ w = w' := by
  go_enter Try.func66, Try.ntmps66
  by_cases h : 0 ≤ n
  · go_wp2
    go_ret
    exact ⟨by simp [h], rfl⟩
  · go_wp2
    go_ret
    exact ⟨by simp; omega, rfl⟩
theorem valid (n m : Int) (w : World) : Calls Try.prog 62 #[.int .i64 n, .int .i64 m] w fun e w' => e = .returned (.bool (decide ((0 ≤ n ∧ n ≤ 65535) ∧ (0 ≤ m ∧ m ≤ 34)))) ∧ w = w' := by
  go_enter Try.func62, Try.ntmps62
  go_wp2_with fail
  refine (within n 65535 w).mono ?_
  rintro e w1 ⟨rfl, rfl⟩
  by_cases h : 0 ≤ n ∧ n ≤ 65535
  · go_wp2_with fail
    refine (within m 34 w).mono ?_
    rintro e w1 ⟨rfl, rfl⟩
    go_wp2_with fail
    go_ret
    exact ⟨by simp [h], rfl⟩
  · go_wp2_with fail
    go_ret
    exact ⟨by simp [h], rfl⟩
end Go.Proofs.Ytlgpipdeckdmjaa.One
