/-
  The walk of OnetimeOrder, and why some digit is lower.
-/
import Derived.Test.YtlgpipdeckdmjaaKnown
import Derived.Test.YtlgpipdeckdmjaaOpen
set_option linter.unusedVariables false
set_option linter.unusedSimpArgs false
namespace Go.Proofs.Ytlgpipdeckdmjaa.OrderWalk
open Go.RowKit Base Reg Types Slice Sha
open Go.Proofs.Ytlgpipdeckdmjaa.One
open Go.Proofs.Ytlgpipdeckdmjaa.Known
theorem sm_mono {a b : List Nat} (ba : By a) (bb : By b) : ∀ k, (∀ c, c < k → dg a c ≤ dg b c) → sm b k ≤ sm a k ∧ (sm a k ≤ sm b k → ∀ c, c < k → dg a c = dg b c)
  | 0, _ => ⟨Nat.le_refl _, fun _ c hc => absurd hc (Nat.not_lt_zero c)⟩
  | k + 1, h => by
    obtain ⟨h1, h2⟩ := sm_mono ba bb k (fun c hc => h c (by omega))
    have h3 := h k (by omega)
    have h4 := dg_le ba k
    have h5 := dg_le bb k
    simp only [sm]
    refine ⟨by omega, fun he c hc => ?_⟩
    by_cases hck : c = k
    · subst hck; omega
    · exact h2 (by omega) c (by omega)
theorem lwr_eq {a b : List Nat} (ha : a.length = 16) (hb : b.length = 16) (ba : By a) (bb : By b) (h : lwr a b = none) : a = b := by
  have hall : ∀ c, c < 35 → spd a c ≤ spd b c := by
    intro c hc
    unfold lwr at h
    rw [List.find?_eq_none] at h
    have := h c (by simpa using hc)
    simpa using this
  have hd : ∀ c, c < 32 → dg a c ≤ dg b c := fun c hc => by
    have := hall c (by omega)
    unfold spd at this
    rwa [if_pos hc, if_pos hc] at this
  obtain ⟨h1, h2⟩ := sm_mono ba bb 32 hd
  have c2 := hall 32 (by omega)
  have c1 := hall 33 (by omega)
  have c0 := hall 34 (by omega)
  have sa := sm_le a 32
  have sb := sm_le b 32
  have e2 : ∀ d, spd d 32 = sm d 32 / 256 % 16 := fun d => rfl
  have e1 : ∀ d, spd d 33 = sm d 32 / 16 % 16 := fun d => rfl
  have e0 : ∀ d, spd d 34 = sm d 32 / 1 % 16 := fun d => rfl
  rw [e2, e2] at c2
  rw [e1, e1] at c1
  rw [e0, e0] at c0
  have h3 := h2 (by omega)
  apply List.ext_getElem (by omega)
  intro j hj1 hj2
  have g1 := h3 (2 * j) (by omega)
  have g2 := h3 (2 * j + 1) (by omega)
  rw [Ref.dg_even, Ref.dg_even] at g1
  rw [Ref.dg_odd, Ref.dg_odd] at g2
  rw [← Ref.getD_at a j hj1, ← Ref.getD_at b j hj2]
  omega
theorem lwr_self (a : List Nat) : lwr a a = none := lwr_none (fun j _ => Nat.lt_irrefl _)
theorem bits_xor8 (a b : Nat) : bits .xor .u8 (a : Int) (b : Int) = (((a ^^^ b) % 256 : Nat) : Int) := by
  show IntKind.u8.wrap ((BitVec.ofInt 8 (a : Int) ^^^ BitVec.ofInt 8 (b : Int)).toNat : Int) = _
  rw [BitVec.toNat_xor, BitVec.ofInt_natCast, BitVec.ofInt_natCast, BitVec.toNat_ofNat, BitVec.toNat_ofNat, show IntKind.u8.wrap (((a % 2 ^ 8) ^^^ (b % 2 ^ 8) : Nat) : Int) = (((a % 2 ^ 8) ^^^ (b % 2 ^ 8) : Nat) : Int) % 256 by simp [IntKind.wrap, IntKind.bits, IntKind.signed]]
  have h := @Nat.xor_mod_two_pow a b 8
  rw [← h]
  show (((a ^^^ b) % 256 : Nat) : Int) % 256 = _
  omega
attribute [local go_sem high] bits_xor8
/-- a with byte i changed by y. -/
def chg (a : List Nat) (i y : Nat) : List Nat := a.set i ((a.getD i 0 ^^^ y) % 256)
theorem chg_length (a : List Nat) (i y : Nat) : (chg a i y).length = a.length := by simp [chg]
theorem chg_zero {a : List Nat} (ba : By a) (i : Nat) (hi : i < a.length) : chg a i 0 = a := by
  unfold chg
  rw [Nat.xor_zero, Nat.mod_eq_of_lt (ba i), Ref.getD_at a i hi, List.set_getElem_self]
theorem chg_by {a : List Nat} (ba : By a) (i y : Nat) : By (chg a i y) := by
  intro j
  unfold chg
  rw [List.getD_eq_getElem?_getD, List.getElem?_set]
  split
  · split
    · simp only [Option.getD_some]; omega
    · decide
  · have := ba j
    rwa [List.getD_eq_getElem?_getD] at this
theorem chg_ne {a : List Nat} (ba : By a) (i y : Nat) (hi : i < a.length) (hy : y ≠ 0) (hy2 : y < 256) : chg a i y ≠ a := by
  intro h
  have h1 := congrArg (fun l => l.getD i 0) h
  simp only [chg] at h1
  rw [List.getD_eq_getElem?_getD, List.getElem?_set_self hi, Option.getD_some] at h1
  have h2 : a.getD i 0 ^^^ y < 2 ^ 8 := Nat.xor_lt_two_pow (ba i) hy2
  rw [Nat.mod_eq_of_lt h2] at h1
  have h3 := congrArg (fun z => a.getD i 0 ^^^ z) h1
  simp only [← Nat.xor_assoc, Nat.xor_self, Nat.zero_xor] at h3
  exact hy h3
set_option maxRecDepth 20000 in
set_option maxHeartbeats 4000000 in
theorem walkN (w : World) (a : List Nat) (t y : Nat) (ha : a.length = 16) (ba : By a) (ht : t < 256) (hy : y < 256) :
    Calls Try.prog 4 #[agg .u8 a, .int .u8 (t : Int), .int .u8 (y : Int)] w fun e w' => e = .returned (.bool true) ∧ Below w.heap.size w w' := by
  have hi : t % 16 < 16 := by omega
  obtain ⟨i, hii⟩ : ∃ i, i = t % 16 := ⟨_, rfl⟩
  obtain ⟨x, hx⟩ : ∃ x, x = a.getD i 0 := ⟨_, rfl⟩
  have ei : ((t : Int) % 16) = (i : Int) := by omega
  rw [← hii] at hi
  have lc := chg_length a i y
  rw [ha] at lc
  go_enter Try.func4, Try.ntmps4
  have c0 : ∀ o, ((w.alloc (.cells (cl .u8 a).toArray 22)).alloc o).cell? ⟨w.heap.size, i, none⟩ = some (.int .u8 (x : Int)) := fun o => (blk_cell (blk_alloc (blk_new _ _ _) _) i).trans (by rw [hx]; exact cl_get _ _ _ (by omega))
  have HI := Lib.hid hii
  have HX := Lib.hid hx
  clear hii hx
  go_wp2_with fail
  have hia : i < a.length := by omega
  have ec : (cl .u8 a).set i (.int .u8 (((a[i] ^^^ y : Nat) : Int) % 256)) = cl .u8 (chg a i y) := by
    rw [chg, Ref.getD_at a i hia, ← cl_set]
    congr 2
  rw [ec]
  clear c0
  obtain ⟨b, hb⟩ : ∃ b, b = chg a i y := ⟨_, rfl⟩
  rw [← hb]
  rw [← hb] at lc
  have bb : By b := by rw [hb]; exact chg_by ba i y
  obtain ⟨W0, hW0⟩ : ∃ W0, W0 = ((w.alloc (.cells (cl .u8 a).toArray 22)).alloc (.cells (cl .u8 b).toArray 22)) := ⟨_, rfl⟩
  have hA : At5 w a b W0 := by rw [hW0]; exact ⟨blk_alloc (blk_new _ _ _) _, blk_at _ _ _ (by simp only [alloc_size]), ((Below.refl w.heap.size w).alloc (Nat.le_refl _) _).alloc (by simp only [alloc_size]; omega) _⟩
  rw [← hW0]
  have HB := Lib.hid hb
  clear hW0 ec hb
  refine (lower W0 a b ha lc ba bb).mono ?_
  rintro e w1 ⟨rfl, hb1⟩
  have A1 := hA.below hb1
  have q1 := bk_of A1.1
  have q2 := bk_of A1.2.1
  have HA1 := Lib.hid A1
  clear hA hb1 A1
  by_cases hy0 : y = 0
  · subst hy0
    have hab : b = a := by rw [HB.out]; exact chg_zero ba i hia
    have n1 : lwr a b = none := by rw [hab]; exact lwr_self a
    have n2 : lwr b a = none := by rw [hab]; exact lwr_self a
    rw [n1]
    have N2 := Lib.hid n2
    clear n1 n2 hab
    unfold lwV
    go_wp2_with fail
    refine (lower w1 b a lc ha bb ba).mono ?_
    rintro e w2 ⟨rfl, hb2⟩
    rw [N2.out]
    have A2 := Lib.hid (HA1.out.below hb2)
    clear hb2 q1 q2
    unfold lwV
    go_wp2_with fail
    refine (known _).mono ?_
    rintro e w3 ⟨rfl, hb3⟩
    have A3 := Lib.hid (A2.out.below hb3)
    clear hb3
    go_wp2_with fail
    go_ret
    exact ⟨rfl, A3.out.2.2⟩
  · have hne : b ≠ a := by rw [HB.out]; exact chg_ne ba i y hia hy0 hy
    have n1 : lwr a b ≠ none := fun h => hne (lwr_eq ha lc ba bb h).symm
    have n2 : lwr b a ≠ none := fun h => hne (lwr_eq lc ha bb ba h)
    obtain ⟨c1, e1⟩ := Option.ne_none_iff_exists'.1 n1
    obtain ⟨c2, e2⟩ := Option.ne_none_iff_exists'.1 n2
    rw [e1]
    have E2 := Lib.hid e2
    clear n1 n2 e1 e2 hne
    unfold lwV
    go_wp2_with fail
    refine (lower w1 b a lc ha bb ba).mono ?_
    rintro e w2 ⟨rfl, hb2⟩
    rw [E2.out]
    have A2 := Lib.hid (HA1.out.below hb2)
    clear hb2 q1 q2
    unfold lwV
    have hyi : ((y : Int) != 0) = true := by simp; omega
    go_wp2_with fail
    refine (known _).mono ?_
    rintro e w3 ⟨rfl, hb3⟩
    have A3 := Lib.hid (A2.out.below hb3)
    clear hb3
    go_wp2_with fail
    go_ret
    exact ⟨rfl, A3.out.2.2⟩
theorem walk (w : World) (l0 : List Nat) (a1 a2 : Int) (hl0 : l0.length = 16) (hb0 : ∀ j, l0.getD j 0 < 256) (w1 : (Lit.int .u8 a1).wf = true) (w2 : (Lit.int .u8 a2).wf = true) :
    Calls Try.prog 4 #[agg .u8 l0, .int .u8 a1, .int .u8 a2] w fun e w' => e = .returned (.bool true) ∧ Below w.heap.size w w' := by
  have h1 := Opened.wf_u8 w1
  have h2 := Opened.wf_u8 w2
  obtain ⟨t, rfl⟩ := Int.eq_ofNat_of_zero_le h1.1
  obtain ⟨y, rfl⟩ := Int.eq_ofNat_of_zero_le h2.1
  exact walkN w l0 t y hl0 hb0 (by omega) (by omega)
end Go.Proofs.Ytlgpipdeckdmjaa.OrderWalk
