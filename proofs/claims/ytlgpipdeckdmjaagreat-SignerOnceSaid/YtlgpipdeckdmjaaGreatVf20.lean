/-
  Several texts laid into one (merge.py): B643, B644, B645, Sgn9.
-/
import Derived.Test.YtlgpipdeckdmjaaGreatVf19
/-
  base64: one sign is written.
-/
set_option linter.unusedVariables false
set_option linter.unusedSimpArgs false
namespace Go.Proofs.YtlgpipdeckdmjaaGreat.B64
open Go.RowKit Base Reg Types Slice Sha
open Go.Proofs.YtlgpipdeckdmjaaGreat.One
theorem oth_blk {b k : Nat} {w w' : World} {cs : List Value} {t : TypeId} (h : Oth b w w') (hb : blk w k cs t) (hk : k ≠ b) (ht : t ≠ 5) : blk w' k cs t :=
  h k _ hb (fun e => hk (Option.some.inj e)) (fun c fz e => by
    injection e with e1 e2 e3
    exact ht e2)
theorem bldF_kept {B b g : Nat} {p : Value} {bs cs : List Value} {t : TypeId} {w w' : World} (h : Lib.BuilderAtF 166 5 B b p bs w) (hg : w.grownBy w' (some g)) (hb : blk w g cs t) (hgb : g ≠ b) (ht : t ≠ 5) : Lib.BuilderAtF 166 5 B b p bs w' := by
  obtain ⟨hB, v, hbk, hown, hne⟩ := h
  refine ⟨hB, v, ?_, hown.kept hg (.inr (Lib.ownBlock_neF hown hb ht)), hne⟩
  exact (hg.block b (Array.getElem?_eq_some_iff.1 hbk).1 (fun e => hgb (Option.some.inj e).symm)).trans hbk
theorem bld_set {B b g : Nat} {o : List Nat} {cs : List Value} {t : TypeId} {w : World} (h : Bld B b o w) (hb : blk w g cs t) (hgb : g ≠ b) (ht : t ≠ 5) (j : Nat) (u : Value) : Bld B b o (w.setCell ⟨g, j, none⟩ u) := by
  have hg : w.grownBy (w.setCell ⟨g, j, none⟩ u) (some g) := ⟨rfl, rfl, rfl, by simp, fun k _ hk => heap_setCell_other w ⟨g, j, none⟩ k u (fun e => hk (by simp [e]))⟩
  exact h.elim (fun x => .inl (bldF_kept x hg hb hgb ht)) (fun x => .inr (bldF_kept x hg hb hgb ht))
/-- The encoder's variables: alphabet, builder, bits, count. -/
def St (B a : Nat) (w : World) (b c : Nat) (o : List Nat) (W : World) : Prop :=
  blk W a (cl .u8 alphaN) 162 ∧ Bld B (a + 1) o W ∧ blk W (a + 1 + 1) [.int .i64 (b : Int)] 3 ∧ blk W (a + 1 + 1 + 1) [.int .i64 (c : Int)] 3 ∧ Below B w W ∧ B ≤ a
theorem St.setB {B a : Nat} {w W : World} {b c : Nat} {o : List Nat} (h : St B a w b c o W) (x : Nat) : St B a w x c o (W.setCell ⟨a + 1 + 1, 0, none⟩ (.int .i64 (x : Int))) := by
  obtain ⟨h1, h2, h3, h4, h5, h6⟩ := h
  exact ⟨blk_setCell_ne h1 _ (by simp; omega), bld_set h2 h3 (by omega) (by decide) 0 _, blk_setCell h3 0 (.int .i64 (x : Int)), blk_setCell_ne h4 _ (by simp), bel_setCell h5 (by simp; omega) _, h6⟩
theorem St.setC {B a : Nat} {w W : World} {b c : Nat} {o : List Nat} (h : St B a w b c o W) (x : Nat) : St B a w b x o (W.setCell ⟨a + 1 + 1 + 1, 0, none⟩ (.int .i64 (x : Int))) := by
  obtain ⟨h1, h2, h3, h4, h5, h6⟩ := h
  exact ⟨blk_setCell_ne h1 _ (by simp; omega), bld_set h2 h4 (by omega) (by decide) 0 _, blk_setCell_ne h3 _ (by simp), blk_setCell h4 0 (.int .i64 (x : Int)), bel_setCell h5 (by simp; omega) _, h6⟩
theorem bits_mask (n k : Nat) (hn : n ≤ 1048575) (hk : k ≤ 20) : bits .and .i64 (n : Int) ((2 ^ k - 1 : Nat) : Int) = ((n % 2 ^ k : Nat) : Int) := by
  have hp : 2 ^ k ≤ 2 ^ 20 := Nat.pow_le_pow_right (by omega) hk
  have hp1 : 1 ≤ 2 ^ k := Nat.one_le_two_pow
  show IntKind.i64.wrap ((BitVec.ofInt 64 (n : Int) &&& BitVec.ofInt 64 ((2 ^ k - 1 : Nat) : Int)).toNat : Int) = _
  rw [BitVec.toNat_and, BitVec.ofInt_natCast, BitVec.ofInt_natCast, BitVec.toNat_ofNat, BitVec.toNat_ofNat, Nat.mod_eq_of_lt (by omega), Nat.mod_eq_of_lt (by omega), Nat.and_two_pow_sub_one_eq_mod, IntKind.wrap_i64]
  have : n % 2 ^ k ≤ n := Nat.mod_le _ _
  omega
theorem wrap_mask (k : Nat) (hk : k ≤ 7) : wrap64 (wrap64 (2 ^ k) - 1) = ((2 ^ k - 1 : Nat) : Int) := by
  rcases k with _ | _ | _ | _ | _ | _ | _ | _ | k
  all_goals first | rfl | (simp [wrap64]; done) | omega
theorem St.drew {B a : Nat} {w W : World} {b c : Nat} {o : List Nat} (h : St B a w b c o W) : St B a w b c o W.drew := by
  obtain ⟨h1, h2, h3, h4, h5, h6⟩ := h
  exact ⟨h1, h2.elim (fun x => .inl x.drew) (fun x => .inr x.drew), h3, h4, h5.drew, h6⟩
def sgn (n : Nat) : Nat := alphaN.getD (n % 64) 0
set_option maxRecDepth 20000 in
set_option maxHeartbeats 4000000 in
theorem emit (B a b c k : Nat) (o : List Nat) (w : World) (hc : c = k + 6) (hk : k ≤ 7) (hb : b ≤ 1048575) (ho : o.length ≤ 1000000) (w0 : World) (h : St B a w0 b c o w) :
    Calls Tryz.prog 107 #[.pointer (some ⟨a + 1 + 1 + 1, 0, none⟩), .pointer (some ⟨a + 1, 0, none⟩), .pointer (some ⟨a, 0, none⟩), .pointer (some ⟨a + 1 + 1, 0, none⟩)] w fun e w' => e = .returned (.tuple #[]) ∧ St B a w0 (b % 2 ^ k) k (o ++ [sgn (b / 2 ^ k)]) w' := by
  have hw : IntKind.i64.wrap ((c : Int) - 6) = (k : Int) := by rw [IntKind.wrap_i64]; omega
  have q1 : w.cell? ⟨a + 1 + 1 + 1, 0, none⟩ = some (.int .i64 (c : Int)) := (blk_cell h.2.2.2.1 0).trans rfl
  have q2 : w.frozen? ⟨a + 1 + 1 + 1, 0, none⟩ = false := blk_free h.2.2.2.1 0
  have h1 := h.setC k
  obtain ⟨w1, hw1⟩ : ∃ w1, w1 = w.setCell ⟨a + 1 + 1 + 1, 0, none⟩ (.int .i64 (k : Int)) := ⟨_, rfl⟩
  rw [← hw1] at h1
  have q4 : w.cell? ⟨a + 1 + 1, 0, none⟩ = some (.int .i64 (b : Int)) := (blk_cell h.2.2.1 0).trans rfl
  obtain ⟨x, hx⟩ : ∃ x, x = b / 2 ^ k % 64 := ⟨_, rfl⟩
  have hx64 : x < 64 := by omega
  have hla := alphaN_length
  have q5 : w.cell? ⟨a, x, none⟩ = some (.int .u8 ((alphaN.getD x 0 : Nat) : Int)) := (blk_cell h.1 x).trans (cl_get _ _ _ (by omega))
  have ex : alphaN.getD x 0 = sgn (b / 2 ^ k) := by rw [sgn, ← hx]
  rw [ex] at q5
  have r1 : bits .and .i64 ((b : Int) / 2 ^ k) 63 = (x : Int) := by
    have e : (b : Int) / 2 ^ k = ((b / 2 ^ k : Nat) : Int) := by norm_cast
    have := bits_mask (b / 2 ^ k) 6 (Nat.le_trans (Nat.div_le_self _ _) hb) (by omega)
    rw [e, hx]
    exact this
  have HW := Lib.hid hw1
  have HX := Lib.hid hx
  have H1 := Lib.hid h1
  clear h hw1 h1 hx hc ex hla
  go_enter Tryz.func107, Tryz.ntmps107
  go_wp2_with fail
  rw [← HW.out]
  refine (write B (a + 1) o (sgn (b / 2 ^ k)) w1 H1.out.2.1 ho (by have := blk_lt H1.out.1; have := H1.out.2.2.2.2.2; omega)).mono ?_
  rintro e w2 ⟨rfl, g1, g2, g3⟩
  have h2 : St B a w0 b k (o ++ [sgn (b / 2 ^ k)]) w2 := by
    obtain ⟨h1, h2, h3, h4, h5, h6⟩ := H1.out
    exact ⟨oth_blk g3 h1 (by omega) (by decide), g1, oth_blk g3 h3 (by omega) (by decide), oth_blk g3 h4 (by omega) (by decide), h5.trans g2, h6⟩
  have q6 : w2.cell? ⟨a + 1 + 1 + 1, 0, none⟩ = some (.int .i64 (k : Int)) := (blk_cell h2.2.2.2.1 0).trans rfl
  have q7 : w2.cell? ⟨a + 1 + 1, 0, none⟩ = some (.int .i64 (b : Int)) := (blk_cell h2.2.2.1 0).trans rfl
  have q8 : w2.frozen? ⟨a + 1 + 1, 0, none⟩ = false := blk_free h2.2.2.1 0
  have H2 := Lib.hid h2
  clear g1 g2 g3 h2 q1 q2 q4 q5
  go_wp2_with fail
  go_region
  have e1 : wrap64 (wrap64 (2 ^ k) - 1) = ((2 ^ k - 1 : Nat) : Int) := wrap_mask k hk
  rw [e1, bits_mask b k hb (by omega)]
  go_end0
  exact ⟨rfl, (H2.out.setB _).drew⟩
end Go.Proofs.YtlgpipdeckdmjaaGreat.B64
/-
  base64: what the encoder computes.
-/
set_option linter.unusedVariables false
set_option linter.unusedSimpArgs false
namespace Go.Proofs.YtlgpipdeckdmjaaGreat.B64
open Go.RowKit Base Reg Types Slice Sha
open Go.Proofs.YtlgpipdeckdmjaaGreat.One
/-- One sign is written: bits, their count, the signs. -/
def em (s : Nat × Nat × List Nat) : Nat × Nat × List Nat := (s.1 % 2 ^ (s.2.1 - 6), s.2.1 - 6, s.2.2 ++ [sgn (s.1 / 2 ^ (s.2.1 - 6))])
def fl (s : Nat × Nat × List Nat) : Nat × Nat × List Nat := if 12 ≤ s.2.1 then em (em s) else if 6 ≤ s.2.1 then em s else s
def stp8 (s : Nat × Nat × List Nat) (x : Nat) : Nat × Nat × List Nat := fl (s.1 * 256 + x, s.2.1 + 8, s.2.2)
def encS (l : List Nat) : Nat × Nat × List Nat := l.foldl stp8 (0, 0, [])
theorem fl_step {s : Nat × Nat × List Nat} (h1 : 6 ≤ s.2.1) (h2 : s.2.1 ≤ 13) : fl (em s) = fl s := by
  obtain ⟨b, c, o⟩ := s
  simp only at h1 h2
  by_cases h : 12 ≤ c
  · have e1 : ¬ 12 ≤ c - 6 := by omega
    have e2 : 6 ≤ c - 6 := by omega
    simp [fl, em, h, e1, e2]
  · have e1 : ¬ 12 ≤ c - 6 := by omega
    have e2 : ¬ 6 ≤ c - 6 := by omega
    simp [fl, em, h, e1, e2, h1]
theorem fl_done {s : Nat × Nat × List Nat} (h : s.2.1 < 6) : fl s = s := by
  have e1 : ¬ 12 ≤ s.2.1 := by omega
  have e2 : ¬ 6 ≤ s.2.1 := by omega
  simp [fl, e1, e2]
/-- What holds after k bytes. -/
def Ok (k : Nat) (s : Nat × Nat × List Nat) : Prop := s.1 < 2 ^ s.2.1 ∧ 6 * s.2.2.length + s.2.1 = 8 * k ∧ ∀ x ∈ s.2.2, x < 256
theorem sgn_lt (n : Nat) : sgn n < 256 := by
  have h : ∀ x ∈ alphaN, x < 256 := by decide
  have hl := alphaN_length
  have : n % 64 < alphaN.length := by omega
  rw [sgn, List.getD_eq_getElem?_getD, List.getElem?_eq_getElem this]
  exact h _ (List.getElem_mem this)
theorem em_ok {k : Nat} {s : Nat × Nat × List Nat} (h : Ok k s) (h6 : 6 ≤ s.2.1) : Ok k (em s) := by
  obtain ⟨h1, h2, h3⟩ := h
  refine ⟨Nat.mod_lt _ (Nat.pow_pos (by omega)), ?_, ?_⟩
  · simp only [em, List.length_append, List.length_singleton]
    omega
  · intro x hx
    simp only [em, List.mem_append, List.mem_singleton] at hx
    rcases hx with hx | rfl
    · exact h3 x hx
    · exact sgn_lt _
theorem fl_ok {k : Nat} {s : Nat × Nat × List Nat} (h : Ok k s) (h2 : s.2.1 ≤ 13) : Ok k (fl s) ∧ (fl s).2.1 ≤ 5 := by
  unfold fl
  split
  · rename_i h12
    have e : (em s).2.1 = s.2.1 - 6 := rfl
    have e2 : (em (em s)).2.1 = s.2.1 - 6 - 6 := rfl
    exact ⟨em_ok (em_ok h (by omega)) (by omega), by omega⟩
  · split
    · rename_i h6
      have e : (em s).2.1 = s.2.1 - 6 := rfl
      exact ⟨em_ok h h6, by omega⟩
    · exact ⟨h, by omega⟩
theorem stp8_ok {k x : Nat} {s : Nat × Nat × List Nat} (h : Ok k s) (h5 : s.2.1 ≤ 5) (hx : x < 256) : Ok (k + 1) (s.1 * 256 + x, s.2.1 + 8, s.2.2) := by
  obtain ⟨h1, h2, h3⟩ := h
  refine ⟨?_, ?_, h3⟩
  · show s.1 * 256 + x < 2 ^ (s.2.1 + 8)
    rw [Nat.pow_add]
    have : (2 : Nat) ^ 8 = 256 := rfl
    rw [this]
    have h : s.1 + 1 ≤ 2 ^ s.2.1 := h1
    have := Nat.mul_le_mul_right 256 h
    omega
  · show 6 * s.2.2.length + (s.2.1 + 8) = 8 * (k + 1)
    omega
theorem encS_snoc (l : List Nat) (x : Nat) : encS (l ++ [x]) = stp8 (encS l) x := by simp [encS]
theorem encS_take {l : List Nat} {k : Nat} (h : k < l.length) : encS (l.take (k + 1)) = stp8 (encS (l.take k)) (l.getD k 0) := by
  rw [List.take_add_one, List.getElem?_eq_getElem h, List.getD_eq_getElem?_getD, List.getElem?_eq_getElem h]
  exact encS_snoc _ _
theorem encS_ok {l : List Nat} (hl : ∀ x ∈ l, x < 256) : ∀ k, k ≤ l.length → Ok k (encS (l.take k)) ∧ (encS (l.take k)).2.1 ≤ 5
  | 0, _ => ⟨⟨by simp [encS], by simp [encS], by simp [encS]⟩, by simp [encS]⟩
  | k + 1, h => by
    obtain ⟨h1, h2⟩ := encS_ok hl k (by omega)
    have hx : l.getD k 0 < 256 := by
      rw [List.getD_eq_getElem?_getD, List.getElem?_eq_getElem (by omega)]
      exact hl _ (List.getElem_mem (by omega))
    have h3 := stp8_ok h1 h2 hx
    rw [encS_take (by omega)]
    exact fl_ok h3 (by show (encS (l.take k)).2.1 + 8 ≤ 13; omega)
/-- The signs ahead of the filling. -/
def signs (l : List Nat) : List Nat := if 0 < (encS l).2.1 then (encS l).2.2 ++ [sgn ((encS l).1 * 2 ^ (6 - (encS l).2.1))] else (encS l).2.2
def fills (n : Nat) : List Nat := List.replicate ((4 - n % 4) % 4) 61
def enc (l : List Nat) : List Nat := signs l ++ fills (signs l).length
theorem signs_length {l : List Nat} (hl : ∀ x ∈ l, x < 256) : (signs l).length = (8 * l.length + 5) / 6 := by
  have h := encS_ok hl l.length (Nat.le_refl _)
  rw [List.take_length] at h
  obtain ⟨⟨h1, h2, h3⟩, h4⟩ := h
  unfold signs
  split
  · rw [List.length_append, List.length_singleton]
    omega
  · omega
theorem enc_length {l : List Nat} (hl : ∀ x ∈ l, x < 256) : (enc l).length = (l.length + 2) / 3 * 4 := by
  rw [enc, List.length_append, fills, List.length_replicate, signs_length hl]
  omega
theorem enc_lt {l : List Nat} (hl : ∀ x ∈ l, x < 256) : ∀ x ∈ enc l, x < 256 := by
  have h := encS_ok hl l.length (Nat.le_refl _)
  rw [List.take_length] at h
  obtain ⟨⟨h1, h2, h3⟩, h4⟩ := h
  intro x hx
  rw [enc, List.mem_append] at hx
  rcases hx with hx | hx
  · unfold signs at hx
    split at hx
    · rw [List.mem_append, List.mem_singleton] at hx
      rcases hx with hx | rfl
      · exact h3 x hx
      · exact sgn_lt _
    · exact h3 x hx
  · rw [fills, List.mem_replicate] at hx
    omega
/-- A text of small numbers. -/
def strB (o : List Nat) : ByteArray := ⟨(o.map UInt8.ofNat).toArray⟩
theorem strB_cells {o : List Nat} (h : ∀ x ∈ o, x < 256) : Lib.byteCells (o.map UInt8.ofNat) = cl .u8 o := by
  induction o with
  | nil => rfl
  | cons a o ih =>
    have := ih (fun x hx => h x (List.mem_cons_of_mem _ hx))
    have ha := h a List.mem_cons_self
    simp only [Lib.byteCells, cl, List.map_cons, List.map_map] at this ⊢
    rw [this]
    have e : ((UInt8.ofNat a).toNat : Int) = (a : Int) := by simp; omega
    simp only [List.cons.injEq, Value.int.injEq, true_and, and_true]
    exact e
end Go.Proofs.YtlgpipdeckdmjaaGreat.B64
/-
  base64: encode.
-/
set_option linter.unusedVariables false
set_option linter.unusedSimpArgs false
namespace Go.Proofs.YtlgpipdeckdmjaaGreat.B64
open Go.RowKit Base Reg Types Slice Sha
open Go.Proofs.YtlgpipdeckdmjaaGreat.One
open Go.Proofs.YtlgpipdeckdmjaaGreat.Mer
theorem bits_or8 (b x : Nat) (hb : b ≤ 100000) (hx : x < 256) : bits .or .i64 (wrap64 ((b : Int) * 256)) (x : Int) = ((b * 256 + x : Nat) : Int) := by
  have e1 : wrap64 ((b : Int) * 256) = ((b * 256 : Nat) : Int) := by unfold wrap64; omega
  have e2 : b * 256 ||| x = b * 256 + x := by
    have := Nat.two_pow_add_eq_or_of_lt (i := 8) hx b
    rw [show (2 : Nat) ^ 8 * b = b * 256 by omega] at this
    exact this.symm
  rw [e1]
  show IntKind.i64.wrap ((BitVec.ofInt 64 ((b * 256 : Nat) : Int) ||| BitVec.ofInt 64 (x : Int)).toNat : Int) = _
  rw [BitVec.toNat_or, BitVec.ofInt_natCast, BitVec.ofInt_natCast, BitVec.toNat_ofNat, BitVec.toNat_ofNat, Nat.mod_eq_of_lt (by omega), Nat.mod_eq_of_lt (by omega), e2, IntKind.wrap_i64]
  omega
theorem St.write {B a : Nat} {w W W' : World} {b c x : Nat} {o : List Nat} (h : St B a w b c o W) (g1 : Bld B (a + 1) (o ++ [x]) W') (g2 : Below B W W') (g3 : Oth (a + 1) W W') : St B a w b c (o ++ [x]) W' := by
  obtain ⟨h1, h2, h3, h4, h5, h6⟩ := h
  exact ⟨oth_blk g3 h1 (by omega) (by decide), g1, oth_blk g3 h3 (by omega) (by decide), oth_blk g3 h4 (by omega) (by decide), h5.trans g2, h6⟩
/-- How many bytes lie in a builder, as its block says. -/
def blen (b : Nat) (W : World) : Nat := match W.cell? ⟨b, 1, none⟩ with
  | some (.slice _ n _) => n
  | _ => 0
theorem bld_len {B b : Nat} {o : List Nat} {W : World} (h : Bld B b o W) : blen b W = o.length := by
  obtain ⟨p, hB, v, hbk, hown, hne⟩ : ∃ p, Lib.BuilderAtF 166 5 B b p (cl .u8 o) W := by
    rcases h with h | h
    · exact ⟨_, h⟩
    · exact ⟨_, h⟩
  have hl := cl_length .u8 o
  obtain ⟨ao, cap, rfl⟩ : ∃ ao cap, v = .slice ao o.length cap := by
    rcases hown.2 with ⟨hv, h0⟩ | ⟨g, cap, cur, fz, hv, _⟩
    · exact ⟨none, 0, by rw [hv, ← hl, h0]⟩
    · exact ⟨_, _, by rw [hv, hl]⟩
  have c1 : W.cell? ⟨b, 1, none⟩ = some (.slice ao o.length cap) := by rw [Lib.cell_of_heap hbk]; rfl
  rw [blen, c1]
set_option maxRecDepth 20000 in
set_option maxHeartbeats 4000000 in
theorem encode (w : World) (v : Value) (l : List Nat) (hv : Sl w v l) (hl : ∀ x ∈ l, x < 256) (hn : l.length ≤ 200000) :
    Calls Tryz.prog 85 #[v] w fun e w' => e = .returned (.string (strB (enc l))) ∧ Below w.heap.size w w' := by
  have hmf : ∀ (fn : Fn) (first cap : Array Value) (w : World), (Instr.makeFunc fn first cap).run Tryz.prog w = .ok (.func fn first cap) w := fun _ _ _ _ => rfl
  have HV := Lib.hid hv
  have HL := Lib.hid hl
  have HO := Lib.hid (encS_ok hl)
  obtain ⟨A, c, rfl, -⟩ := id hv
  obtain ⟨n, hne⟩ : ∃ n, n = l.length := ⟨_, rfl⟩
  have HE := Lib.hid hne
  rw [← hne] at hn ⊢
  clear hv hl hne
  go_enter Tryz.func85, Tryz.ntmps85
  go_wp2_with fail
  refine (alphabet w).mono ?_
  rintro e w1 ⟨rfl, hb1⟩
  have hla := alphaN_length
  obtain ⟨W0, hW0⟩ : ∃ W0, W0 = ((((w1.alloc (.cells (cl .u8 alphaN).toArray 162)).alloc (.cells #[.pointer none, .slice none 0 0] 166)).alloc (.cells #[.int .i64 0] 3)).alloc (.cells #[.int .i64 0] 3)) := ⟨_, rfl⟩
  have HW := Lib.hid hW0
  clear hW0
  go_wp2_with fail
  rw [← HW.out]
  have I0 : St w.heap.size w1.heap.size w 0 0 [] W0 := by
    rw [HW.out]
    have hz := hb1.size
    refine ⟨blk_alloc (blk_alloc (blk_alloc (blk_new _ _ _) _) _) _, ?_, blk_alloc (blk_at _ [.int .i64 0] _ (by simp only [alloc_size])) _, blk_at _ [.int .i64 0] _ (by simp only [alloc_size]), ?_, hz⟩
    · refine Lib.IsBuilderF.alloc (Lib.IsBuilderF.alloc (.inl ⟨by omega, .slice none 0 0, ?_, World.ownsRowF_nil _ _ _ _, by simp [Value.ownBlock]⟩) _) _
      exact blk_at _ [.pointer none, .slice none 0 0] _ (by simp only [alloc_size])
    · exact (((hb1.alloc hz _).alloc (by simp only [alloc_size]; omega) _).alloc (by simp only [alloc_size]; omega) _).alloc (by simp only [alloc_size]; omega) _
  have S0 := Lib.hid I0
  clear I0 hb1
  obtain ⟨a, ha⟩ : ∃ a, a = w1.heap.size := ⟨_, rfl⟩
  rw [← ha] at S0
  rw [← ha]
  clear ha hla HW
  go_loopw [9, 14] (fun x i wr => ∃ k : Nat, k ≤ n ∧ i = .int .i64 (k : Int) ∧ St w.heap.size a w (encS (l.take k)).1 (encS (l.take k)).2.1 (encS (l.take k)).2.2 wr) (fun _ i _ => n - (intOf i).toNat)
  case atStart => exact ⟨0, by omega, rfl, S0.out⟩
  case round =>
    clear S0
    obtain ⟨k, hk, rfl, hs⟩ := hrel
    obtain ⟨s, hse⟩ : ∃ s, s = encS (l.take k) := ⟨_, rfl⟩
    have ok := HO.out k (by rw [← HE.out]; exact hk)
    rw [← hse] at hs ok
    by_cases hkn : k < n
    · obtain ⟨bb, oo, cc, hbo, hnc, hlt, hcl⟩ := slc_addr HV.out (by rw [← HE.out]; omega)
      cases hbo
      obtain ⟨x, hx⟩ : ∃ x, x = l.getD k 0 := ⟨_, rfl⟩
      have hx2 : x < 256 := by
        rw [hx, List.getD_eq_getElem?_getD, List.getElem?_eq_getElem (by rw [← HE.out]; omega)]
        exact HL.out _ (List.getElem_mem _)
      have q1 : wr.cell? ⟨bb, oo + k, none⟩ = some (.int .u8 (x : Int)) := by
        rw [hx]
        exact (hs.2.2.2.2.1.cell (p := ⟨bb, oo + k, none⟩) hlt).trans (hcl k _ (cl_get _ _ _ (by rw [← HE.out]; omega)))
      have e1 := encS_take (l := l) (k := k) (by rw [← HE.out]; exact hkn)
      rw [← hse, ← hx] at e1
      obtain ⟨b, c', o⟩ := s
      simp only at hs ok
      have q2 : wr.cell? ⟨a + 1 + 1, 0, none⟩ = some (.int .i64 (b : Int)) := (blk_cell hs.2.2.1 0).trans rfl
      have q3 : wr.frozen? ⟨a + 1 + 1, 0, none⟩ = false := blk_free hs.2.2.1 0
      have q4 : wr.cell? ⟨a + 1 + 1 + 1, 0, none⟩ = some (.int .i64 (c' : Int)) := (blk_cell hs.2.2.2.1 0).trans rfl
      have q5 : wr.frozen? ⟨a + 1 + 1 + 1, 0, none⟩ = false := blk_free hs.2.2.2.1 0
      have HS := Lib.hid hs
      have HX := Lib.hid hx
      have E1 := Lib.hid e1
      have OK := Lib.hid ok
      have HCL := Lib.hid hcl
      have HSE := Lib.hid hse
      clear hs hx e1 ok hcl hse
      go_wp2_with fail
      go_region
      have hb32 : b ≤ 32 := by
        have h1 := OK.out.1.1
        have h2 := OK.out.2
        have h3 : 2 ^ c' ≤ 2 ^ 5 := Nat.pow_le_pow_right (by omega) h2
        simp only at h1
        omega
      have hc5 := OK.out.2
      rw [bits_or8 b x (by omega) hx2, show wrap64 ((c' : Int) + 8) = ((c' + 8 : Nat) : Int) by unfold wrap64; omega]
      have OK2 := Lib.hid (stp8_ok OK.out.1 OK.out.2 hx2)
      have S2 := Lib.hid ((HS.out.setB (b * 256 + x)).setC (c' + 8)).drew
      obtain ⟨W2, hW2⟩ : ∃ W2, W2 = ((wr.setCell ⟨a + 1 + 1, 0, none⟩ (.int .i64 ((b * 256 + x : Nat) : Int))).setCell ⟨a + 1 + 1 + 1, 0, none⟩ (.int .i64 ((c' + 8 : Nat) : Int))).drew := ⟨_, rfl⟩
      rw [← hW2] at S2
      rw [← hW2]
      clear hW2 q1 q2 q3 q4 q5 HS
      go_wp2_with fail
      go_loopw [25] (fun _ wi => ∃ s' : Nat × Nat × List Nat, s'.2.1 ≤ 13 ∧ Ok (k + 1) s' ∧ fl s' = encS (l.take (k + 1)) ∧ St w.heap.size a w s'.1 s'.2.1 s'.2.2 wi) (fun _ wi => (intOf ((wi.cell? ⟨a + 1 + 1 + 1, 0, none⟩).getD undef)).toNat)
      case atStart => exact ⟨(b * 256 + x, c' + 8, o), by show c' + 8 ≤ 13; omega, OK2.out, E1.out.symm, S2.out⟩
      case round =>
        clear S2
        obtain ⟨⟨b', c1, o'⟩, h13, ok', hf, hs'⟩ := hrel
        simp only at h13 hs'
        have q1 : wr.cell? ⟨a + 1 + 1 + 1, 0, none⟩ = some (.int .i64 (c1 : Int)) := (blk_cell hs'.2.2.2.1 0).trans rfl
        have HS' := Lib.hid hs'
        have OK' := Lib.hid ok'
        have HF := Lib.hid hf
        clear hs' ok' hf
        by_cases h6 : 6 ≤ c1
        · go_wp2_with fail
          refine (emit w.heap.size a b' c1 (c1 - 6) o' wr (by omega) (by omega) (by
            have h1 := OK'.out.1
            have h3 : 2 ^ c1 ≤ 2 ^ 13 := Nat.pow_le_pow_right (by omega) h13
            simp only at h1
            omega) (by
            have h1 := OK'.out.2.1
            simp only at h1
            omega) w HS'.out).mono ?_
          rintro e w2 ⟨rfl, hs2⟩
          have HS2 := Lib.hid hs2
          clear hs2
          go_wp2_with fail
          go_roundw
          case rel => exact ⟨em (b', c1, o'), by show c1 - 6 ≤ 13; omega, em_ok OK'.out h6, (fl_step h6 h13).trans HF.out, HS2.out⟩
          case measure =>
            have q2 : w2.cell? ⟨a + 1 + 1 + 1, 0, none⟩ = some (.int .i64 ((c1 - 6 : Nat) : Int)) := (blk_cell HS2.out.2.2.2.1 0).trans rfl
            rw [q1, q2]
            simp only [Option.getD_some, intOf]
            omega
        · go_wp2_with fail
          go_roundw
          case rel =>
            have e := HF.out
            rw [fl_done (show (b', c1, o').2.1 < 6 by show c1 < 6; omega)] at e
            refine ⟨k + 1, by omega, by go_num, ?_⟩
            rw [← e]
            exact HS'.out
          case measure => simp [intOf]; omega
    · obtain rfl : k = n := by omega
      have e : l.take k = l := by rw [HE.out, List.take_length]
      rw [e] at hse
      have q1 : wr.cell? ⟨a + 1 + 1 + 1, 0, none⟩ = some (.int .i64 (s.2.1 : Int)) := (blk_cell hs.2.2.2.1 0).trans rfl
      have q2 : wr.frozen? ⟨a + 1 + 1 + 1, 0, none⟩ = false := blk_free hs.2.2.2.1 0
      have q3 : wr.cell? ⟨a + 1 + 1, 0, none⟩ = some (.int .i64 (s.1 : Int)) := (blk_cell hs.2.2.1 0).trans rfl
      have q4 : wr.frozen? ⟨a + 1 + 1, 0, none⟩ = false := blk_free hs.2.2.1 0
      obtain ⟨b, c', o⟩ := s
      simp only at hs ok q1 q3
      have HS := Lib.hid hs
      have OK := Lib.hid ok
      have HSE := Lib.hid hse
      clear hs ok hse
      by_cases h0 : 0 < c'
      · have hc5 : c' ≤ 5 := OK.out.2
        have hb32 : b < 32 := by
          have h1 := OK.out.1.1
          have h3 : 2 ^ c' ≤ 2 ^ 5 := Nat.pow_le_pow_right (by omega) hc5
          simp only at h1
          omega
        have hbq : b * 2 ^ (6 - c') ≤ 4096 := by
          have h3 : 2 ^ (6 - c') ≤ 2 ^ 6 := Nat.pow_le_pow_right (by omega) (by omega)
          have h4 : b * 2 ^ (6 - c') ≤ 32 * 2 ^ 6 := Nat.mul_le_mul (by omega) h3
          omega
        obtain ⟨z, hz⟩ : ∃ z, z = b * 2 ^ (6 - c') := ⟨_, rfl⟩
        have hzz : wrap64 ((b : Int) * 2 ^ (6 - c')) = (z : Int) := by
          rw [show (b : Int) * 2 ^ (6 - c') = (z : Int) by rw [hz, Int.natCast_mul, Int.natCast_pow]; rfl]
          unfold wrap64
          omega
        rw [← hz] at hbq
        have HZ := Lib.hid hz
        have HZZ := Lib.hid hzz
        clear hz hzz
        go_wp2_with fail
        rw [HZZ.out]
        have S2 := Lib.hid ((HS.out.setB z).setC 6)
        refine (emit w.heap.size a z 6 0 o _ rfl (by omega) (by omega) (by
          have h1 := OK.out.1.2.1
          simp only at h1
          omega) w S2.out).mono ?_
        rintro e w2 ⟨rfl, hs2⟩
        have hsg : o ++ [sgn (z / 2 ^ 0)] = signs l := by
          rw [signs, ← HSE.out]
          simp only [h0, if_true]
          rw [Nat.pow_zero, Nat.div_one, HZ.out]
        rw [hsg] at hs2
        have HS2 := Lib.hid hs2
        clear hs2 hsg S2 HS
        go_wp2_with fail
        obtain ⟨S, hSd⟩ : ∃ S, S = signs l := ⟨_, rfl⟩
        have lS : S.length ≤ 300000 := by
          rw [hSd, signs_length HL.out, ← HE.out]
          omega
        have ST := Lib.hid (show ∃ bb cc, St w.heap.size a w bb cc S w2 from ⟨_, _, by rw [hSd]; exact HS2.out⟩)
        have HSd := Lib.hid hSd
        clear hSd
        go_loopw [38] (fun _ wi => ∃ j bb cc : Nat, j ≤ (4 - S.length % 4) % 4 ∧ St w.heap.size a w bb cc (S ++ List.replicate j 61) wi) (fun _ wi => S.length + 4 - blen (a + 1) wi)
        case atStart =>
          obtain ⟨bb, cc, h⟩ := ST.out
          exact ⟨0, bb, cc, by omega, by rw [List.replicate_zero, List.append_nil]; exact h⟩
        case round =>
          clear ST
          obtain ⟨j, b1, c1, hj, hst⟩ := hrel
          have hm := bld_len hst.2.1
          have hle : w.heap.size ≤ wr.heap.size := by have := blk_lt hst.1; have := hst.2.2.2.2.2; omega
          have lO : (S ++ List.replicate j 61).length = S.length + j := by simp
          obtain ⟨O, hO⟩ : ∃ O, O = S ++ List.replicate j 61 := ⟨_, rfl⟩
          rw [← hO] at hst hm lO
          have LO := Lib.hid lO
          have HST := Lib.hid hst
          have HOO := Lib.hid hO
          have HM := Lib.hid hm
          clear hst hO hm lO
          go_wp2_with fail
          refine (len w.heap.size (a + 1) O wr HST.out.2.1).mono ?_
          rintro e w2 ⟨rfl, rfl⟩
          obtain ⟨m, hm⟩ : ∃ m, m = O.length := ⟨_, rfl⟩
          have lO := LO.out
          rw [← hm] at lO ⊢
          have LM := Lib.hid lO
          clear lO
          have hr : ((m : Int)) % 4 = ((m % 4 : Nat) : Int) := by omega
          obtain ⟨r, hrr⟩ : ∃ r, r = m % 4 := ⟨_, rfl⟩
          rw [← hrr] at hr
          have HMM := Lib.hid hm
          have HRR := Lib.hid hrr
          clear hm hrr
          by_cases hz : r = 0
          · subst hz
            go_wp2_with fail
            have hfull : O = enc l := by
              have h1 := HRR.out
              have h2 : j = (4 - S.length % 4) % 4 := by have := LM.out; omega
              rw [HOO.out, enc, ← HSd.out, fills, ← h2]
            have hlt : ∀ x ∈ O, x < 256 := by rw [hfull]; exact enc_lt HL.out
            have hx : Lib.IsBuilderF 166 5 w.heap.size (a + 1) (Lib.byteCells (O.map UInt8.ofNat)) wr := by
              rw [strB_cells hlt]
              exact HST.out.2.1
            refine (text w.heap.size (a + 1) (O.map UInt8.ofNat) wr hx hle).mono ?_
            rintro e w3 ⟨rfl, hb3⟩
            have hbe := HST.out.2.2.2.2.1.trans hb3
            clear hb3 hx
            go_wp2_with fail
            go_ret
            exact ⟨by rw [← hfull]; rfl, hbe⟩
          · have hrz : ¬ ((r : Int) = 0) := by omega
            go_wp2_with fail
            refine (write w.heap.size (a + 1) O 61 wr HST.out.2.1 (by rw [← HMM.out]; have := LM.out; omega) hle).mono ?_
            rintro e w3 ⟨rfl, g1, g2, g3⟩
            have HS3 := Lib.hid (HST.out.write g1 g2 g3)
            clear g1 g2 g3
            go_wp2_with fail
            go_roundw
            case rel =>
              refine ⟨j + 1, b1, c1, by have := HRR.out; have := LM.out; omega, ?_⟩
              rw [List.replicate_succ', ← List.append_assoc, ← HOO.out]
              exact HS3.out
            case measure =>
              have h1 := bld_len HS3.out.2.1
              rw [List.length_append, List.length_singleton] at h1
              rw [h1, HM.out, ← HMM.out]
              have := LM.out
              omega
      · have hsg : o = signs l := by
          rw [signs, ← HSE.out]
          simp only [h0, if_false]
        have HS2 := Lib.hid (hsg ▸ HS.out)
        clear hsg HS
        go_wp2_with fail
        obtain ⟨S, hSd⟩ : ∃ S, S = signs l := ⟨_, rfl⟩
        have lS : S.length ≤ 300000 := by
          rw [hSd, signs_length HL.out, ← HE.out]
          omega
        have ST := Lib.hid (show ∃ bb cc, St w.heap.size a w bb cc S wr from ⟨_, _, by rw [hSd]; exact HS2.out⟩)
        have HSd := Lib.hid hSd
        clear hSd
        go_loopw [38] (fun _ wi => ∃ j bb cc : Nat, j ≤ (4 - S.length % 4) % 4 ∧ St w.heap.size a w bb cc (S ++ List.replicate j 61) wi) (fun _ wi => S.length + 4 - blen (a + 1) wi)
        case atStart =>
          obtain ⟨bb, cc, h⟩ := ST.out
          exact ⟨0, bb, cc, by omega, by rw [List.replicate_zero, List.append_nil]; exact h⟩
        case round =>
          clear ST
          obtain ⟨j, b1, c1, hj, hst⟩ := hrel
          have hm := bld_len hst.2.1
          have hle : w.heap.size ≤ wr.heap.size := by have := blk_lt hst.1; have := hst.2.2.2.2.2; omega
          have lO : (S ++ List.replicate j 61).length = S.length + j := by simp
          obtain ⟨O, hO⟩ : ∃ O, O = S ++ List.replicate j 61 := ⟨_, rfl⟩
          rw [← hO] at hst hm lO
          have LO := Lib.hid lO
          have HST := Lib.hid hst
          have HOO := Lib.hid hO
          have HM := Lib.hid hm
          clear hst hO hm lO
          go_wp2_with fail
          refine (len w.heap.size (a + 1) O wr HST.out.2.1).mono ?_
          rintro e w2 ⟨rfl, rfl⟩
          obtain ⟨m, hm⟩ : ∃ m, m = O.length := ⟨_, rfl⟩
          have lO := LO.out
          rw [← hm] at lO ⊢
          have LM := Lib.hid lO
          clear lO
          have hr : ((m : Int)) % 4 = ((m % 4 : Nat) : Int) := by omega
          obtain ⟨r, hrr⟩ : ∃ r, r = m % 4 := ⟨_, rfl⟩
          rw [← hrr] at hr
          have HMM := Lib.hid hm
          have HRR := Lib.hid hrr
          clear hm hrr
          by_cases hz : r = 0
          · subst hz
            go_wp2_with fail
            have hfull : O = enc l := by
              have h1 := HRR.out
              have h2 : j = (4 - S.length % 4) % 4 := by have := LM.out; omega
              rw [HOO.out, enc, ← HSd.out, fills, ← h2]
            have hlt : ∀ x ∈ O, x < 256 := by rw [hfull]; exact enc_lt HL.out
            have hx : Lib.IsBuilderF 166 5 w.heap.size (a + 1) (Lib.byteCells (O.map UInt8.ofNat)) wr := by
              rw [strB_cells hlt]
              exact HST.out.2.1
            refine (text w.heap.size (a + 1) (O.map UInt8.ofNat) wr hx hle).mono ?_
            rintro e w3 ⟨rfl, hb3⟩
            have hbe := HST.out.2.2.2.2.1.trans hb3
            clear hb3 hx
            go_wp2_with fail
            go_ret
            exact ⟨by rw [← hfull]; rfl, hbe⟩
          · have hrz : ¬ ((r : Int) = 0) := by omega
            go_wp2_with fail
            refine (write w.heap.size (a + 1) O 61 wr HST.out.2.1 (by rw [← HMM.out]; have := LM.out; omega) hle).mono ?_
            rintro e w3 ⟨rfl, g1, g2, g3⟩
            have HS3 := Lib.hid (HST.out.write g1 g2 g3)
            clear g1 g2 g3
            go_wp2_with fail
            go_roundw
            case rel =>
              refine ⟨j + 1, b1, c1, by have := HRR.out; have := LM.out; omega, ?_⟩
              rw [List.replicate_succ', ← List.append_assoc, ← HOO.out]
              exact HS3.out
            case measure =>
              have h1 := bld_len HS3.out.2.1
              rw [List.length_append, List.length_singleton] at h1
              rw [h1, HM.out, ← HMM.out]
              have := LM.out
              omega
end Go.Proofs.YtlgpipdeckdmjaaGreat.B64
/-
  base64: Encode; signer: the text of a public key.
-/
set_option linter.unusedVariables false
set_option linter.unusedSimpArgs false
namespace Go.Proofs.YtlgpipdeckdmjaaGreat.Sgn
open Go.RowKit Base Reg Types Slice Sha
open Go.Proofs.YtlgpipdeckdmjaaGreat.One
open Go.Proofs.YtlgpipdeckdmjaaGreat.Str
open Go.Proofs.YtlgpipdeckdmjaaGreat.Mer
open Go.Proofs.YtlgpipdeckdmjaaGreat.B64
theorem by_mem {r : List Nat} (h : By r) : ∀ x ∈ r, x < 256 := by
  intro x hx
  obtain ⟨j, hj, rfl⟩ := List.mem_iff_getElem.1 hx
  have := h j
  rwa [List.getD_eq_getElem?_getD, List.getElem?_eq_getElem hj] at this
set_option maxRecDepth 20000 in
theorem encode_text (w : World) (v : Value) (l : List Nat) (hv : Sl w v l) (hl : ∀ x ∈ l, x < 256) (hn : l.length ≤ 131072) :
    Calls Tryz.prog 58 #[v] w fun e w' => e = .returned (.tuple #[.string (strB (enc l)), .int .i64 0]) ∧ Below w.heap.size w w' := by
  have HC := Lib.hid (encode w v l hv hl (by omega))
  obtain ⟨S, hS⟩ : ∃ S, S = strB (enc l) := ⟨_, rfl⟩
  rw [← hS] at HC ⊢
  obtain ⟨A, c, rfl, -⟩ := id hv
  obtain ⟨n, hne⟩ : ∃ n, n = l.length := ⟨_, rfl⟩
  rw [← hne] at hn HC ⊢
  clear hv hl hS hne
  go_enter Tryz.func58, Tryz.ntmps58
  have hn2 : ¬ (131072 < n) := by omega
  go_wp2_with fail
  refine HC.out.mono ?_
  rintro e w1 ⟨rfl, hb1⟩
  go_wp2_with fail
  go_ret2
  exact ⟨rfl, hb1⟩
set_option maxRecDepth 20000 in
theorem public_text (w : World) (r : List Nat) (h : Nat) (hr : r.length = 16) (br : By r) (h1 : 1 ≤ h) (h8 : h ≤ 8) :
    Calls Tryz.prog 35 #[.agg (pubV (h : Int) r).toArray] w fun e w' => e = .returned (.tuple #[.string (strB (enc (pubB h r))), .int .i64 0]) ∧ Below w.heap.size w w' := by
  have hB := blk_new w (pubV (h : Int) r) 39
  have hk := bk_of hB
  have H0 := Lib.hid hB
  have lp : (pubB h r).length = 17 := by simp [pubB, hr]
  have bp : ∀ x ∈ pubB h r, x < 256 := by
    intro x hx
    rw [pubB, List.mem_cons] at hx
    rcases hx with rfl | hx
    · exact Nat.mod_lt _ (by omega)
    · exact by_mem br x hx
  have HL := Lib.hid lp
  have HP := Lib.hid bp
  have HR := Lib.hid hr
  clear hB lp bp
  go_enter Tryz.func35, Tryz.ntmps35
  go_wp2_with fail
  refine (public_check _ r h (by omega) (by omega)).mono ?_
  rintro e w1 ⟨rfl, hb1⟩
  have hbel := bel_trans ((Below.refl w.heap.size w).alloc (Nat.le_refl _) _) hb1 (by simp only [alloc_size]; omega)
  have hB1 := blk_keep H0.out hb1
  have hk1 := bk_of hB1
  have HB := Lib.hid hbel
  clear hb1 hbel hk hB1
  go_wp2_with fail
  refine (pub_bytes w1 r h HR.out (by omega)).mono ?_
  rintro e w2 ⟨v, rfl, ho2, hb2⟩
  have HC := Lib.hid (encode_text w2 v (pubB h r) (SlC.of_own ho2) HP.out (by rw [HL.out]; omega))
  have hb := bel_trans HB.out hb2 HB.out.size
  clear ho2 hb2 hk1
  go_wp2_with fail
  refine HC.out.mono ?_
  rintro e w3 ⟨rfl, hb3⟩
  have hbe := bel_trans hb hb3 hb.size
  clear HC hb3
  go_wp2_with fail
  go_ret2
  exact ⟨rfl, hbe⟩
end Go.Proofs.YtlgpipdeckdmjaaGreat.Sgn
