/-
  SHA-256 as the program has it: a block is loaded.
-/
import Derived.Test.YtlgpipdeckdmjaaSha2
set_option linter.unusedVariables false
set_option linter.unusedSimpArgs false
namespace Go.Proofs.Ytlgpipdeckdmjaa.Sha
open Go.RowKit Base Reg Types
def cv (n : Nat) : Nat := n % 4294967296
theorem wrap_cv (n : Nat) : IntKind.u32.wrap (n : Int) = ((cv n : Nat) : Int) := by rw [wrap_u32]; unfold cv; omega
/-- Word j of a block of bytes. -/
def wd (l : List Nat) (j : Nat) : Nat := orr (orr (orr (sl (cv (l.getD (4 * j) 0)) 24) (sl (cv (l.getD (4 * j + 1) 0)) 16)) (sl (cv (l.getD (4 * j + 2) 0)) 8)) (cv (l.getD (4 * j + 3) 0))
def words (l : List Nat) : List Nat := (List.range 16).map (wd l)
theorem shl24 (a : Nat) : IntKind.u32.wrap ((a : Int) * 16777216) = ((sl a 24 : Nat) : Int) := by rw [wrap_u32]; unfold sl; omega
theorem shl16 (a : Nat) : IntKind.u32.wrap ((a : Int) * 65536) = ((sl a 16 : Nat) : Int) := by rw [wrap_u32]; unfold sl; omega
theorem shl8 (a : Nat) : IntKind.u32.wrap ((a : Int) * 256) = ((sl a 8 : Nat) : Int) := by rw [wrap_u32]; unfold sl; omega
attribute [local go_sem high] wrap_ad bits_xo bits_an bits_orr bits_nt unary_nt wrap_cv shl24 shl16 shl8
theorem load (b o n c : Nat) (l : List Nat) (w : World) (h64 : 64 ≤ l.length) (hn : n = l.length) (hlt : b < w.heap.size) (hm : l.length ≤ 4294967296)
    (hcell : ∀ j, j < l.length → w.cell? ⟨b, o + j, none⟩ = some (.int .u8 ((l.getD j 0 : Nat) : Int))) :
    Calls Try.prog 141 #[.slice (some ⟨b, o, none⟩) n c] w fun e w' => e = .returned (agg .u32 (words l)) ∧ Below w.heap.size w w' := by
  have Hcell := Lib.hid hcell
  have Hn := Lib.hid hn
  have hn1 : 64 ≤ n := by omega
  have hn2 : n ≤ 4294967296 := by omega
  clear hcell hn
  go_enter Try.func141, Try.ntmps141
  go_wp2
  go_loopw [5] (fun i wr => ∃ k : Nat, k ≤ 16 ∧ i = .int .i64 k ∧ blk wr w.heap.size (cl .u32 (zs 16)) 205 ∧ blk wr (w.heap.size + 1) (cl .u32 (upto 16 k (wd l))) 205 ∧ Below w.heap.size w wr) (fun i _ => 16 - (intOf i).toNat)
  case atStart => exact ⟨0, by omega, rfl, blk_alloc (blk_new _ _ _) _, by rw [upto_zero]; exact blk_at _ _ _ (by simp), ((Below.refl _ _).alloc (Nat.le_refl _) _).alloc (by simp) _⟩
  case round =>
    obtain ⟨k, hk, rfl, hb1, hb2, hbel⟩ := hrel
    have hl : (upto 16 k (wd l)).length = 16 := upto_length _ _ _
    by_cases hk2 : k < 16
    · have hc : ∀ j, j < n → wr.cell? ⟨b, o + j, none⟩ = some (.int .u8 ((l.getD j 0 : Nat) : Int)) := fun j hj => (hbel.cell (p := ⟨b, o + j, none⟩) hlt).trans (Hcell.out j (by rw [← Hn.out]; exact hj))
      have c0 := hc (4 * k) (by omega)
      have c1 := hc (4 * k + 1) (by omega)
      have c2 := hc (4 * k + 2) (by omega)
      have c3 := hc (4 * k + 3) (by omega)
      have cb : wr.cell? ⟨w.heap.size + 1, k, none⟩ = some (.int .u32 (((upto 16 k (wd l)).getD k 0 : Nat) : Int)) := (blk_cell hb2 k).trans (cl_get _ _ _ (by omega))
      have fb : wr.frozen? ⟨w.heap.size + 1, k, none⟩ = false := blk_free hb2 k
      have HB := Lib.hid hb2
      clear hc hb2
      have i1 : (4 * (k : Int)) < n := by omega
      have i2 : (4 * (k : Int) + 1) < n := by omega
      have i3 : (4 * (k : Int) + 2) < n := by omega
      have i4 : (4 * (k : Int) + 3) < n := by omega
      go_wp2
      refine wp_region_tail (fun n => wr.drewN n) 35 (by kernel_rfl) (by kernel_rfl) ⟨1, rfl⟩ ?_
      simp only [List.take_succ_cons, List.take_zero, List.drop_succ_cons, List.drop_zero]
      repeat (go_big_quiet_step (fail))
      refine wpQuiet_nil ?_
      intro nq
      go_wp2
      go_roundw
      case rel =>
        refine ⟨k + 1, by omega, by go_num, blk_setCell_ne (blk_drewN hb1) _ (by simp), ?_, bel_setCell (bel_drewN hbel nq) (by simp) _⟩
        have h := blk_setCell (blk_drewN (n := nq) HB.out) k (.int .u32 ((wd l k : Nat) : Int))
        rw [cl_set, upto_set 16 k _ hk2] at h
        have e : wd l k = orr (orr (orr (sl (cv (l[4 * k]?.getD 0)) 24) (sl (cv (l[4 * k + 1]?.getD 0)) 16)) (sl (cv (l[4 * k + 2]?.getD 0)) 8)) (cv (l[4 * k + 3]?.getD 0)) := by simp only [wd, List.getD_eq_getElem?_getD]
        rw [← e]
        exact h
      case measure => simp [intOf]; omega
    · obtain rfl : k = 16 := by omega
      rw [show upto 16 16 (wd l) = words l from upto_full 16 (wd l)] at hb2
      have hl : (words l).length = 16 := by simp [words]
      have hb3 := bk_of hb1
      have hb4 := bk_of hb2
      go_wp2
      refine ret_block rfl rfl (blk_setRow hb1 (cl .u32 (words l))) hl rfl ⟨rfl, bel_setRow hbel (Nat.le_refl _) _⟩
end Go.Proofs.Ytlgpipdeckdmjaa.Sha
