/-
  Several texts laid into one (merge.py): Ord, One5, Ref4, Law.
-/
import Derived.Test.YtlgpipdeckdmjaaNl02
import Derived.Test.YtlgpipdeckdmjaaNl07
import Derived.Test.YtlgpipdeckdmjaaNl04
import Derived.Deep.RegionLaw
/-
  A region that draws its order and makes memory on the way: what each operation needs and brings, in whatever order. No program.
-/
set_option linter.unusedVariables false
set_option linter.unusedSimpArgs false
namespace Go.Proofs.Ytlgpipdeckdmjaa.Ord

section
variable {P : Program} {ops : Array Oper} {md : Region.Mode}
/-- The end of one operation alone. -/
def QK (K : Act → World → Prop) (Q : Exit → Act → World → Prop) : Exit → Act → World → Prop
  | .normal, a, w => K a w
  | .exit n, a, w => Q (.exit n) a w
  | .goto n, a, w => Q (.goto n) a w
  | .ret, a, w => Q .ret a w
  | .panic c, a, w => Q (.panic c) a w
  | .outgrown, a, w => Q .outgrown a w
theorem wp_QK {o : Oper} {a : Act} {w : World} {K K0 : Act → World → Prop} {Q : Exit → Act → World → Prop} (h : o.wp P a w K (QK K0 Q)) : o.wp P a w K Q := by
  unfold Oper.wp at *
  generalize (execOp a.eval o).run P w = r at *
  cases r with
  | ok n w' => cases n <;> exact h
  | halt x w' => cases x <;> exact h
theorem wpOp_of_list {i : Nat} {o : Oper} {K : Act → World → Prop} {Q : Exit → Act → World → Prop} {a : Act} {w : World} (ho : ops[i]? = some o) (h : wpList P ops (QK K Q) [o] a w) : wpOp P ops Q i K a w := by
  unfold wpOp
  rw [ho]
  simp only [wpList] at h
  show if Region.wanted o (yielded ops a.tmps) = true then _ else _
  split
  · rename_i hw
    rw [if_pos hw] at h
    exact h.imp (fun h => wp_QK h) (fun h => h)
  · rename_i hw
    rw [if_neg hw] at h
    exact h
/-- How many of the first n are not yet done. -/
def cnt (listed : Array Bool) : Nat → Nat
  | 0 => 0
  | k + 1 => cnt listed k + (if listed.getD k false = true then 0 else 1)
theorem cnt_zero {listed : Array Bool} : ∀ {n : Nat}, cnt listed n = 0 → ∀ j, j < n → listed.getD j false = true
  | 0, _, j, hj => absurd hj (Nat.not_lt_zero j)
  | n + 1, h, j, hj => by
    simp only [cnt] at h
    by_cases hjn : j = n
    · subst hjn
      by_cases hb : listed.getD j false = true
      · exact hb
      · rw [if_neg hb] at h; omega
    · exact cnt_zero (n := n) (by omega) j (by omega)
theorem cnt_past {listed : Array Bool} {i : Nat} : ∀ {n : Nat}, n ≤ i → cnt (listed.setIfInBounds i true) n = cnt listed n
  | 0, _ => rfl
  | n + 1, h => by
    simp only [cnt]
    rw [cnt_past (by omega), getD_set_ne false (by omega)]
theorem cnt_set {listed : Array Bool} {i : Nat} (hs : i < listed.size) (hi : listed.getD i false = false) : ∀ {n : Nat}, i < n → cnt (listed.setIfInBounds i true) n + 1 = cnt listed n
  | 0, h => absurd h (Nat.not_lt_zero i)
  | n + 1, h => by
    simp only [cnt]
    by_cases hin : i = n
    · subst hin
      have h1 : (listed.setIfInBounds i true).getD i false = true := by simp [hs]
      rw [cnt_past (Nat.le_refl _), if_pos h1, hi]
      simp
    · rw [getD_set_ne false (by omega)]
      have := cnt_set hs hi (n := n) (by omega)
      omega
/-- Every edge of the first n goes back. -/
def topoB (md : Region.Mode) (ops : Array Oper) (n : Nat) : Bool := (List.range n).all fun i => match ops[i]? with
  | some o => o.after.all fun e => !Region.binds md e || decide (e.on < i)
  | none => false
theorem topo_spec {n i : Nat} {o : Oper} (h : topoB md ops n = true) (hi : i < n) (ho : ops[i]? = some o) : ∀ e ∈ o.after, Region.binds md e = true → e.on < i := by
  have h1 := List.all_eq_true.1 h i (List.mem_range.2 hi)
  simp only [ho, Array.all_eq_true_iff_forall_mem, Bool.or_eq_true, Bool.not_eq_true', decide_eq_true_eq] at h1
  intro e he hb
  rcases h1 e he with h2 | h2
  · rw [hb] at h2; cases h2
  · exact h2
theorem first_ready {n : Nat} {listed : Array Bool} (ht : topoB md ops n = true) (hn : n ≤ ops.size) (hs : listed.size = ops.size) (h : ∃ j, j < n ∧ listed.getD j false = false) : ∃ j, j ∈ Region.ready md ops listed := by
  obtain ⟨j, hj⟩ := h
  induction j using Nat.strongRecOn with
  | _ j ih =>
    obtain ⟨hjn, hjf⟩ := hj
    obtain ⟨o, ho⟩ : ∃ o, ops[j]? = some o := ⟨ops[j]'(by omega), by simp [show j < ops.size by omega]⟩
    by_cases hall : ∀ e ∈ o.after, Region.binds md e = true → listed.getD e.on false = true
    · exact ⟨j, mem_ready.2 ⟨getD_in (by omega) hjf, o, ho, hall⟩⟩
    · obtain ⟨e, he⟩ := Classical.not_forall.1 hall
      obtain ⟨he1, he⟩ := Classical.not_imp.1 he
      obtain ⟨hb, hf⟩ := Classical.not_imp.1 he
      have hlt := topo_spec ht hjn ho e he1 hb
      exact ih e.on hlt ⟨by omega, by simpa using hf⟩

theorem wpAny_inv {n : Nat} {Q : Exit → Act → World → Prop} {B : Act → World → Prop} {G : Nat → Act → World → Prop} (hs : Region.sinkB md ops n = true) (hc : Region.chainB md ops n = true) (hn : n < ops.size) (ht : topoB md ops n = true) (g : Nat)
    (hop : ∀ i o, i < n → ops[i]? = some o → ∀ a w, B a w → (∀ e ∈ o.after, Region.binds md e = true → G e.on a w) → wpOp P ops Q i (fun a' w' => B a' w' ∧ G i a' w' ∧ ∀ j, j < n → j ≠ i → G j a w → G j a' w') a w)
    (htail : ∀ listed a w, HeadInv md ops n listed → (∀ j, j < n → listed.getD j false = true) → B a w → (∀ j, j < n → G j a w) → wpAny P md ops Q g listed a w) :
    ∀ (f : Nat) (listed : Array Bool) (a : Act) (w : World), cnt listed n = f → HeadInv md ops n listed → B a w → (∀ j, j < n → listed.getD j false = true → G j a w) → wpAny P md ops Q (f + g) listed a w := by
  intro f
  induction f with
  | zero =>
    intro listed a w hf inv hB hG
    rw [Nat.zero_add]
    have := cnt_zero hf
    exact htail listed a w inv this hB (fun j hj => hG j hj (this j hj))
  | succ f ih =>
    intro listed a w hf inv hB hG
    rw [show f + 1 + g = (f + g) + 1 by omega]
    have hex : ∃ j, j < n ∧ listed.getD j false = false := by
      refine Classical.byContradiction fun hno => ?_
      have hall : ∀ j, j < n → listed.getD j false = true := fun j hj => by
        by_cases hb : listed.getD j false = true
        · exact hb
        · exact absurd ⟨j, hj, by simpa using hb⟩ hno
      have h0 : ∀ m, m ≤ n → cnt listed m = 0 := by
        intro m
        induction m with
        | zero => intro _; rfl
        | succ m ihm => intro hm; simp only [cnt]; rw [ihm (by omega), hall m (by omega)]; rfl
      have := h0 n (Nat.le_refl _)
      omega
    obtain ⟨r, hr⟩ := first_ready ht (by omega) inv.size hex
    obtain ⟨j0, hj0, hj0f⟩ := hex
    refine ⟨fun h => (by rw [h] at hr; cases hr), fun i hi => ?_⟩
    have hin : i < n := Nat.lt_of_not_le fun h => tail_waits hs hc hn inv _ j0 rfl hj0 (getD_in (by rw [inv.size]; omega) hj0f) i h hi
    obtain ⟨hiu, o, ho, hall⟩ := mem_ready.1 hi
    refine wpOp_mono (fun a' w' h => ?_) (hop i o hin ho a w hB (fun e he hb => hG e.on (by have := topo_spec ht hin ho e he hb; omega) (hall e he hb)))
    have hsz : i < listed.size := by rw [inv.size]; omega
    refine ih (listed.setIfInBounds i true) a' w' ?_ (inv.set hi hin) h.1 (fun j hj hl => ?_)
    · have := cnt_set hsz (getD_both hiu) hin
      omega
    · by_cases hji : j = i
      · subst hji; exact h.2.1
      · rw [getD_set_ne false (Ne.symm hji)] at hl
        exact h.2.2 j hj hji (hG j hj hl)

/-- A region that draws: its first n operations in whatever order, each needing what those that it waits for have brought, the others behind them in one order. -/
theorem wp_region_inv {id : Nat} {Q : Exit → Act → World → Prop} {a : Act} {w : World} {l : List Oper} (n : Nat) (B : Act → World → Prop) (G : Nat → Act → World → Prop) (hm : P.follows .mixedOrders = true)
    (hk : (Region.sinkB .any l.toArray n && Region.chainB .any l.toArray n && decide (n < l.toArray.size) && topoB .any l.toArray n && Region.seqB .any l.toArray (l.toArray.size - n) n (Array.replicate n true ++ Array.replicate (l.toArray.size - n) false)) = true)
    (hB : B a w.drew)
    (hop : ∀ i o, i < n → l[i]? = some o → ∀ a w, B a w → (∀ e ∈ o.after, Region.binds .any e = true → G e.on a w) → wpList P l.toArray (QK (fun a' w' => B a' w' ∧ G i a' w' ∧ ∀ j, j < n → j ≠ i → G j a w → G j a' w') Q) [o] a w)
    (htail : ∀ a w, B a w → (∀ j, j < n → G j a w) → wpList P l.toArray Q (l.drop n) a w) : (Code.region id l.toArray true).wp P Q a w := by
  simp only [Bool.and_eq_true, decide_eq_true_eq] at hk
  obtain ⟨⟨⟨⟨hs, hc⟩, hn⟩, ht⟩, hseq⟩ := hk
  have inv0 : HeadInv .any l.toArray n (Array.replicate l.toArray.size false) :=
    ⟨by simp, fun j oj _ hl => (by rw [getD_replicate_false] at hl; cases hl), fun t _ ht => getD_in (by simpa using ht) (getD_replicate_false _ _)⟩
  have hc0 : ∀ m, cnt (Array.replicate l.toArray.size false) m = m := by
    intro m
    induction m with
    | zero => rfl
    | succ m ih => simp only [cnt]; rw [ih, getD_replicate_false]; rfl
  refine wp_region_any hm ?_
  have hdl : (l.drop n).length = l.toArray.size - n := by simp
  have h := wpAny_inv (Q := Q) (B := B) (G := G) hs hc hn ht (l.toArray.size - n) (fun i o hin ho a w hB hG => wpOp_of_list ho (hop i o hin (by simpa using ho) a w hB hG)) (fun listed a' w' inv hall hB' hG' => by
    have el : listed = Array.replicate n true ++ Array.replicate (l.toArray.size - n) false := by
      apply Array.ext
      · rw [inv.size]; simp; simp at hn; omega
      · intro i h1 h2
        by_cases hin : i < n
        · have := hall i hin
          rw [Array.getElem_append_left (by simpa using hin)]
          simpa [h1] using this
        · have := inv.tail i (by omega) (by rw [← inv.size]; exact h1)
          rw [Array.getElem_append_right (by simpa using hin)]
          simpa [h1] using this
    have := wpAny_of_seq (md := .any) (Q' := Q) (l.drop n) n listed a' w' (fun j => by simp [List.getElem?_drop]) (by rw [hdl, el]; exact hseq) (htail a' w' hB' hG')
    rwa [hdl] at this) n (Array.replicate l.toArray.size false) a w.drew (hc0 n) inv0 hB (fun j hj hl => by rw [getD_replicate_false] at hl; cases hl)
  rw [show n + (l.toArray.size - n) = l.toArray.size by omega] at h
  exact h
end
end Go.Proofs.Ytlgpipdeckdmjaa.Ord
/-
  onetime: the first chain whose digit is lower.
-/
set_option linter.unusedVariables false
set_option linter.unusedSimpArgs false
namespace Go.Proofs.Ytlgpipdeckdmjaa.One
open Go.RowKit Base Reg Types Slice Sha
/-- The first chain whose digit is lower in b. -/
def lwr (a b : List Nat) : Option Nat := (List.range 35).find? fun c => decide (spd b c < spd a c)
theorem lwr_some {a b : List Nat} {c : Nat} (hc : c < 35) (h1 : spd b c < spd a c) (h2 : ∀ j, j < c → ¬ spd b j < spd a j) : lwr a b = some c := by
  unfold lwr
  rw [List.find?_range_eq_some]
  exact ⟨by simpa using h1, by simpa using hc, fun j hj => by simpa using h2 j hj⟩
theorem lwr_none {a b : List Nat} (h2 : ∀ j, j < 35 → ¬ spd b j < spd a j) : lwr a b = none := by
  unfold lwr
  rw [List.find?_eq_none]
  intro j hj
  simpa using h2 j (by simpa using hj)
def lwV (o : Option Nat) : Value := match o with
  | some c => .tuple #[.int .i64 (c : Int), .bool true]
  | none => .tuple #[.int .i64 0, .bool false]
def At5 (w : World) (a b : List Nat) (W : World) : Prop :=
  blk W w.heap.size (cl .u8 a) 22 ∧ blk W (w.heap.size + 1) (cl .u8 b) 22 ∧ Below w.heap.size w W
theorem At5.drew {w : World} {a b : List Nat} {W : World} (h : At5 w a b W) : At5 w a b W.drew := ⟨blk_drew h.1, blk_drew h.2.1, h.2.2.drew⟩
theorem At5.below {w : World} {a b : List Nat} {W W' : World} (h : At5 w a b W) (hb : Below W.heap.size W W') : At5 w a b W' := ⟨blk_keep h.1 hb, blk_keep h.2.1 hb, bel_trans h.2.2 hb h.2.2.size⟩
theorem sp_getD (d : List Nat) (c : Nat) (hc : c < 35) : (sp d).getD c 0 = spd d c := by
  unfold sp
  rw [List.getD_eq_getElem?_getD, List.getElem?_map, List.getElem?_range hc, Option.map_some, Option.getD_some]
/-- The frame of Lower while both Splits are made. -/
def Fr (w : World) (a b : List Nat) (u6 u7 u9 u10 u11 u12 : Value) : Act :=
  { tmps := #[agg .u8 a, agg .u8 b, .pointer (some ⟨w.heap.size, 0, none⟩), .pointer (some ⟨w.heap.size + 1, 0, none⟩), .int .i64 0, .bool false, u6, u7, undef, u9, u10, u11, u12, undef, undef, undef, undef, undef, undef, undef, undef, undef, undef, undef, undef], defers := [] }
def B5 (w : World) (a b : List Nat) (x : Act) (W : World) : Prop :=
  ∃ u6 u7 u9 u10 u11 u12, x = Fr w a b u6 u7 u9 u10 u11 u12 ∧ At5 w a b W ∧ (∀ p, u6 = .pointer (some ⟨p, 0, none⟩) → w.heap.size + 2 ≤ p ∧ blk W p (cl .i64 (zs 35)) 27) ∧ (∀ p, u7 = .pointer (some ⟨p, 0, none⟩) → w.heap.size + 2 ≤ p ∧ blk W p (cl .i64 (zs 35)) 27) ∧ (∀ p, u6 = .pointer (some ⟨p, 0, none⟩) → u7 = .pointer (some ⟨p, 0, none⟩) → False)
def G5 (a b : List Nat) (i : Nat) (x : Act) (W : World) : Prop := match i with
  | 0 => x.tmps.getD 9 undef = agg .u8 a
  | 1 => x.tmps.getD 10 undef = agg .i64 (sp a)
  | 2 => x.tmps.getD 11 undef = agg .u8 b
  | 3 => x.tmps.getD 12 undef = agg .i64 (sp b)
  | 4 => ∃ p, x.tmps.getD 6 undef = .pointer (some ⟨p, 0, none⟩)
  | 5 => ∃ p, x.tmps.getD 7 undef = .pointer (some ⟨p, 0, none⟩)
  | _ => True
set_option maxRecDepth 20000 in
set_option maxHeartbeats 4000000 in
theorem lower (w : World) (a b : List Nat) (ha : a.length = 16) (hb : b.length = 16) (ba : By a) (bb : By b) :
    Calls Try.prog 14 #[agg .u8 a, agg .u8 b] w fun e w' => e = .returned (lwV (lwr a b)) ∧ Below w.heap.size w w' := by
  go_enter Try.func14, Try.ntmps14
  have la := sp_length a
  have lb := sp_length b
  go_wp2_with fail
  refine Ord.wp_region_inv 6 (B5 w a b) (G5 a b) (by kernel_rfl) (by kernel_rfl) ⟨undef, undef, undef, undef, undef, undef, rfl, At5.drew ⟨blk_alloc (blk_new _ _ _) _, blk_at _ _ _ (by simp only [alloc_size]), ((Below.refl w.heap.size w).alloc (Nat.le_refl _) _).alloc (by simp only [alloc_size]; omega) _⟩, fun p h => (by cases h), fun p h => (by cases h), fun p h => (by cases h)⟩ ?_ ?_
  · intro i o hi ho x W hB hG
    obtain ⟨u6, u7, u9, u10, u11, u12, rfl, hA, h6, h7, hne⟩ := hB
    have q1 := bk_of hA.1
    have q2 := bk_of hA.2.1
    have HA := Lib.hid hA
    have H6 := Lib.hid h6
    have H7 := Lib.hid h7
    have HN := Lib.hid hne
    clear hA h6 h7 hne
    match i, hi with
    | 0, _ =>
      cases ho
      clear hG
      unfold Fr
      go_wp2_with fail
      refine ⟨⟨u6, u7, _, u10, u11, u12, rfl, HA.out, H6.out, H7.out, HN.out⟩, rfl, ?_⟩
      intro j hj hji h
      match j, hj with
      | 0, _ => exact absurd rfl hji
      | 1, _ => exact h
      | 2, _ => exact h
      | 3, _ => exact h
      | 4, _ => exact h
      | 5, _ => exact h
    | 1, _ =>
      cases ho
      have g : u9 = agg .u8 a := hG ⟨0, .data⟩ (by simp) rfl
      subst g
      clear hG
      unfold Fr
      go_wp2_with fail
      refine (split _ a ha ba).mono ?_
      rintro e w1 ⟨rfl, hb1⟩
      have hA1 := Lib.hid (At5.below HA.out hb1)
      have h61 : ∀ p, u6 = .pointer (some ⟨p, 0, none⟩) → w.heap.size + 2 ≤ p ∧ blk w1 p (cl .i64 (zs 35)) 27 := fun p h => ⟨(H6.out p h).1, blk_keep (H6.out p h).2 hb1⟩
      have h71 : ∀ p, u7 = .pointer (some ⟨p, 0, none⟩) → w.heap.size + 2 ≤ p ∧ blk w1 p (cl .i64 (zs 35)) 27 := fun p h => ⟨(H7.out p h).1, blk_keep (H7.out p h).2 hb1⟩
      have H61 := Lib.hid h61
      have H71 := Lib.hid h71
      clear hb1 h61 h71
      go_wp2_with fail
      refine ⟨⟨u6, u7, _, _, u11, u12, rfl, hA1.out, H61.out, H71.out, HN.out⟩, rfl, ?_⟩
      intro j hj hji h
      match j, hj with
      | 0, _ => exact h
      | 1, _ => exact absurd rfl hji
      | 2, _ => exact h
      | 3, _ => exact h
      | 4, _ => exact h
      | 5, _ => exact h
    | 2, _ =>
      cases ho
      clear hG
      unfold Fr
      go_wp2_with fail
      refine ⟨⟨u6, u7, u9, u10, _, u12, rfl, HA.out, H6.out, H7.out, HN.out⟩, rfl, ?_⟩
      intro j hj hji h
      match j, hj with
      | 0, _ => exact h
      | 1, _ => exact h
      | 2, _ => exact absurd rfl hji
      | 3, _ => exact h
      | 4, _ => exact h
      | 5, _ => exact h
    | 3, _ =>
      cases ho
      have g : u11 = agg .u8 b := hG ⟨2, .data⟩ (by simp) rfl
      subst g
      clear hG
      unfold Fr
      go_wp2_with fail
      refine (split _ b hb bb).mono ?_
      rintro e w1 ⟨rfl, hb1⟩
      have hA1 := Lib.hid (At5.below HA.out hb1)
      have h61 : ∀ p, u6 = .pointer (some ⟨p, 0, none⟩) → w.heap.size + 2 ≤ p ∧ blk w1 p (cl .i64 (zs 35)) 27 := fun p h => ⟨(H6.out p h).1, blk_keep (H6.out p h).2 hb1⟩
      have h71 : ∀ p, u7 = .pointer (some ⟨p, 0, none⟩) → w.heap.size + 2 ≤ p ∧ blk w1 p (cl .i64 (zs 35)) 27 := fun p h => ⟨(H7.out p h).1, blk_keep (H7.out p h).2 hb1⟩
      have H61 := Lib.hid h61
      have H71 := Lib.hid h71
      clear hb1 h61 h71
      go_wp2_with fail
      refine ⟨⟨u6, u7, u9, u10, _, _, rfl, hA1.out, H61.out, H71.out, HN.out⟩, rfl, ?_⟩
      intro j hj hji h
      match j, hj with
      | 0, _ => exact h
      | 1, _ => exact h
      | 2, _ => exact h
      | 3, _ => exact absurd rfl hji
      | 4, _ => exact h
      | 5, _ => exact h
    | 4, _ =>
      cases ho
      clear hG
      unfold Fr
      go_wp2_with fail
      have hk : Below W.heap.size W (W.alloc (.cells (cl .i64 (zs 35)).toArray 27)) := (Below.refl _ _).alloc (Nat.le_refl _) _
      have hsz := (HA.out.2.1 |> blk_lt)
      refine ⟨⟨_, u7, u9, u10, u11, u12, rfl, At5.below HA.out hk, (fun p h => by cases h; exact ⟨by omega, blk_new _ _ _⟩), (fun p h => ⟨(H7.out p h).1, blk_keep (H7.out p h).2 hk⟩), (fun p h h' => by cases h; have := blk_lt (H7.out _ h').2; omega)⟩, ⟨_, rfl⟩, ?_⟩
      intro j hj hji h
      match j, hj with
      | 0, _ => exact h
      | 1, _ => exact h
      | 2, _ => exact h
      | 3, _ => exact h
      | 4, _ => exact absurd rfl hji
      | 5, _ => exact h
    | 5, _ =>
      cases ho
      clear hG
      unfold Fr
      go_wp2_with fail
      have hk : Below W.heap.size W (W.alloc (.cells (cl .i64 (zs 35)).toArray 27)) := (Below.refl _ _).alloc (Nat.le_refl _) _
      have hsz := (HA.out.2.1 |> blk_lt)
      refine ⟨⟨u6, _, u9, u10, u11, u12, rfl, At5.below HA.out hk, (fun p h => ⟨(H6.out p h).1, blk_keep (H6.out p h).2 hk⟩), (fun p h => by cases h; exact ⟨by omega, blk_new _ _ _⟩), (fun p h' h => by cases h; have := blk_lt (H6.out _ h').2; omega)⟩, ⟨_, rfl⟩, ?_⟩
      intro j hj hji h
      match j, hj with
      | 0, _ => exact h
      | 1, _ => exact h
      | 2, _ => exact h
      | 3, _ => exact h
      | 4, _ => exact h
      | 5, _ => exact absurd rfl hji
  · intro x W hB hG
    obtain ⟨u6, u7, u9, u10, u11, u12, rfl, hA, h6, h7, hne⟩ := hB
    have g0 : u9 = agg .u8 a := hG 0 (by omega)
    have g1 : u10 = agg .i64 (sp a) := hG 1 (by omega)
    have g2 : u11 = agg .u8 b := hG 2 (by omega)
    have g3 : u12 = agg .i64 (sp b) := hG 3 (by omega)
    obtain ⟨p6, g4⟩ : ∃ p, u6 = .pointer (some ⟨p, 0, none⟩) := hG 4 (by omega)
    obtain ⟨p7, g5⟩ : ∃ p, u7 = .pointer (some ⟨p, 0, none⟩) := hG 5 (by omega)
    obtain ⟨hp6, hB6⟩ := h6 p6 g4
    obtain ⟨hp7, hB7⟩ := h7 p7 g5
    have hn67 : p6 ≠ p7 := fun e => hne p6 g4 (by rw [g5, e])
    subst g0 g1 g2 g3 g4 g5
    have k6 := bk_of hB6
    have k7 := bk_of hB7
    have hn76 : p7 ≠ p6 := fun e => hn67 e.symm
    have hbel := hA.2.2
    have k67 := bk_of (blk_setRow_ne hB7 (cl .i64 (sp a)).toArray hn76)
    clear hG hA h6 h7 hne
    have K6 := Lib.hid hB6
    have K7 := Lib.hid hB7
    clear hB6 hB7
    unfold Fr
    go_wp2_with fail
    have S0 : blk ((W.setRow p6 (cl .i64 (sp a)).toArray).setRow p7 (cl .i64 (sp b)).toArray) p6 (cl .i64 (sp a)) 27 ∧ blk ((W.setRow p6 (cl .i64 (sp a)).toArray).setRow p7 (cl .i64 (sp b)).toArray) p7 (cl .i64 (sp b)) 27 ∧ Below w.heap.size w ((W.setRow p6 (cl .i64 (sp a)).toArray).setRow p7 (cl .i64 (sp b)).toArray) :=
      ⟨blk_setRow_ne (blk_setRow K6.out (cl .i64 (sp a))) _ hn67, blk_setRow (blk_setRow_ne K7.out _ hn76) (cl .i64 (sp b)), bel_setRow (bel_setRow hbel (by omega) _) (by omega) _⟩
    go_loopw [13] (fun i wr => ∃ k : Nat, k ≤ 35 ∧ i = .int .i64 k ∧ (∀ j, j < k → ¬ spd b j < spd a j) ∧ blk wr p6 (cl .i64 (sp a)) 27 ∧ blk wr p7 (cl .i64 (sp b)) 27 ∧ Below w.heap.size w wr) (fun i _ => 35 - (intOf i).toNat)
    case atStart => exact ⟨0, by omega, rfl, fun j hj => absurd hj (Nat.not_lt_zero j), S0⟩
    case round =>
      clear S0 k6 k7 k67 K6 K7 hbel
      obtain ⟨k, hk, rfl, hno, hB6, hB7, hbel⟩ := hrel
      have HN := Lib.hid hno
      by_cases hk2 : k < 35
      · obtain ⟨ι, F, hF, hin⟩ := class_of (fun W => blk W p6 (cl .i64 (sp a)) 27 ∧ blk W p7 (cl .i64 (sp b)) 27 ∧ Below w.heap.size w W)
        have q1 : ∀ i, (F i).cell? ⟨p6, k, none⟩ = some (.int .i64 ((spd a k : Nat) : Int)) := fun i => (blk_cell (hF i).1 _).trans (by rw [cl_get _ _ _ (by omega), sp_getD a k hk2])
        have q2 : ∀ i, (F i).cell? ⟨p7, k, none⟩ = some (.int .i64 ((spd b k : Nat) : Int)) := fun i => (blk_cell (hF i).2.1 _).trans (by rw [cl_get _ _ _ (by omega), sp_getD b k hk2])
        have h0 := hin wr.drew ⟨blk_drew hB6, blk_drew hB7, hbel.drew⟩
        have hne : Nonempty ι := ⟨h0.choose⟩
        have HF := Lib.hid hF
        have H0 := Lib.hid h0
        clear hF hin hB6 hB7 hbel h0 hno
        go_wp2_with fail
        refine wp_region_all F (by kernel_rfl) (by kernel_rfl) H0.out ?_
        repeat (go_big_quiet_step (fail))
        refine wpQuiet_nil ?_
        intro i
        by_cases hlt : spd b k < spd a k
        · go_wp2_with fail
          go_ret2
          rw [lwr_some hk2 hlt HN.out]
          exact ⟨rfl, (HF.out i).2.2⟩
        · go_wp2_with fail
          exact ⟨⟨k + 1, by omega, by go_num, fun j hj => (by
            by_cases hjk : j = k
            · subst hjk; exact hlt
            · exact HN.out j (by omega)), (HF.out i).1, (HF.out i).2.1, (HF.out i).2.2⟩, by simp [intOf]; omega⟩
      · obtain rfl : k = 35 := by omega
        have e := lwr_none hno
        clear hno
        go_wp2_with fail
        go_ret2
        rw [e]
        exact ⟨rfl, hbel⟩
end Go.Proofs.Ytlgpipdeckdmjaa.One
/-
  The reference of layer 7: Half, head.
-/
set_option linter.unusedVariables false
set_option linter.unusedSimpArgs false
namespace Go.Proofs.Ytlgpipdeckdmjaa.Ref
open Go.RowKit Base Reg Types Slice Sha
open Go.Proofs.Ytlgpipdeckdmjaa.One
theorem hf_map (M : List Nat) : (List.range 16).map (fun j => (sha M).getD j 0) = hf M := by
  apply List.ext_getElem
  · rw [hf_length]; simp
  · intro i h1 h2
    have h : i < 16 := by simpa using h1
    have h3 : i < (sha M).length := by rw [sha_length]; omega
    simp only [List.getElem_map, List.getElem_range, hf, List.getElem_take]
    exact getD_at _ _ h3
theorem half (w : World) (M : List Nat) (x : Value) (hx : Sl w x M) (hM : M.length ≤ 1000000) :
    Calls Try.prog 64 #[x] w fun e w' => e = .returned (agg .u8 (hf M)) ∧ Below w.heap.size w w' := by
  have H := Lib.hid hx
  clear hx
  have hl := sha_length M
  go_enter Try.func64, Try.ntmps64
  go_wp2_with fail
  refine (Ref.sum_calls _ M x (H.out.keep ((Below.refl _ _).alloc (Nat.le_refl _) _)) hM).mono ?_
  rintro e w1 ⟨rfl, hb1⟩
  have hB1 := Lib.hid (blk_keep (blk_new w (cl .u8 (zs 16)) 36) hb1)
  have hbel1 := Lib.hid (bel_trans ((Below.refl _ w).alloc (Nat.le_refl _) _) hb1 (by simp only [alloc_size]; omega))
  clear hb1
  go_wp2_with fail
  go_loopw [5] (fun i wr => ∃ k : Nat, k ≤ 16 ∧ i = .int .i64 k ∧ blk wr w.heap.size (cl .u8 (zs 16)) 36 ∧ blk wr w1.heap.size (cl .u8 (sha M)) 31 ∧ blk wr (w1.heap.size + 1) (cl .u8 (upto 16 k fun j => (sha M).getD j 0)) 36 ∧ Below w.heap.size w wr) (fun i _ => 16 - (intOf i).toNat)
  case atStart =>
    exact ⟨0, by omega, rfl, blk_alloc (blk_alloc hB1.out _) _, blk_alloc (blk_new _ _ _) _, by rw [upto_zero]; exact blk_at _ _ _ (by simp only [alloc_size]), (hbel1.out.alloc hbel1.out.size _).alloc (by have := hbel1.out.size; simp only [alloc_size]; omega) _⟩
  case round =>
    obtain ⟨k, hk, rfl, hb1, hb2, hb3, hbel⟩ := hrel
    have hl2 : (upto 16 k fun j => (sha M).getD j 0).length = 16 := upto_length _ _ _
    have hw1 := hbel1.out.size
    have hlt := blk_lt hB1.out
    by_cases hk2 : k < 16
    · have c1 : wr.cell? ⟨w1.heap.size, k, none⟩ = some (.int .u8 (((sha M).getD k 0 : Nat) : Int)) := (blk_cell hb2 k).trans (cl_get _ _ _ (by omega))
      have c2 : wr.cell? ⟨w1.heap.size + 1, k, none⟩ = some (.int .u8 (((upto 16 k fun j => (sha M).getD j 0).getD k 0 : Nat) : Int)) := (blk_cell hb3 k).trans (cl_get _ _ _ (by omega))
      have f2 := blk_free hb3 k
      obtain ⟨u, hu⟩ : ∃ u, u = (sha M).getD k 0 := ⟨_, rfl⟩
      rw [← hu] at c1
      have HU := Lib.hid hu
      have H1 := Lib.hid hb1
      have H2 := Lib.hid hb2
      have H3 := Lib.hid hb3
      clear hb1 hb2 hb3 hu
      go_wp2_with fail
      refine ⟨⟨k + 1, by omega, by go_num, blk_setCell_ne H1.out _ (by simp; omega), blk_setCell_ne H2.out _ (by simp), ?_, bel_setCell hbel (by simp; omega) _⟩, by simp [intOf]; omega⟩
      have h := blk_setCell H3.out k (.int .u8 ((u : Nat) : Int))
      rw [HU.out, cl_set, upto_set 16 k (fun j => (sha M).getD j 0) hk2, ← HU.out] at h
      exact h
    · obtain rfl : k = 16 := by omega
      rw [upto_full, hf_map] at hb3
      have hl3 := hf_length M
      have q1 := bk_of hb1
      have q3 := bk_of hb3
      have H1 := Lib.hid hb1
      clear hb1 hb2 hb3 hl2
      go_wp2_with fail
      refine ret_rv rfl rfl (blk_setRow H1.out (cl .u8 (hf M))) hl3 rfl ⟨rfl, bel_setRow hbel (Nat.le_refl _) _⟩
theorem head (w : World) (tag leaf : Nat) (hleaf : leaf ≤ 65535) (htag : tag < 256) :
    Calls Try.prog 65 #[.int .u8 (tag : Int), .int .i64 (leaf : Int)] w fun e w' => ∃ v, e = .returned v ∧ Own w' w.heap.size v (hd tag leaf) ∧ Below w.heap.size w w' := by
  go_enter Try.func65, Try.ntmps65
  go_wp2_with fail
  have ehd : (#[.int .u8 (tag : Int), .int .u8 ((leaf : Int) / 16777216), .int .u8 ((leaf : Int) / 65536 % 256), .int .u8 ((leaf : Int) / 256 % 256), .int .u8 ((leaf : Int) % 256)] : Array Value) = (cl .u8 (hd tag leaf)).toArray := by
    have h1 : (leaf : Int) / 16777216 = ((leaf / 16777216 % 256 : Nat) : Int) := by omega
    have h2 : (leaf : Int) / 65536 % 256 = ((leaf / 65536 % 256 : Nat) : Int) := by omega
    have h3 : (leaf : Int) / 256 % 256 = ((leaf / 256 % 256 : Nat) : Int) := by omega
    have h4 : (leaf : Int) % 256 = ((leaf % 256 : Nat) : Int) := by omega
    rw [h1, h2, h3, h4]
    rfl
  rw [ehd]
  clear ehd
  go_ret
  exact ⟨_, rfl, own_bytes w (hd tag leaf) (by simp [hd]), (Below.refl _ _).alloc (Nat.le_refl _) _⟩
end Go.Proofs.Ytlgpipdeckdmjaa.Ref
/-
  Laws for single operations of a region that draws its order: a call by its contract; append onto a slice of the call's own.
-/
set_option linter.unusedVariables false
set_option linter.unusedSimpArgs false
namespace Go.Proofs.Ytlgpipdeckdmjaa.Law
open Go.RowKit Base Slice
theorem step_call {P : Program} {ops : Array Oper} {o : Oper} {a : Act} {w : World} {K : Act → World → Prop} {Q : Exit → Act → World → Prop} {X : Prop}
    (hg : o.guard = none) (f : FuncId) (xs : Array Operand) (ts : Array TypeId) (hop : o.op = Op.call { callee := Callee.value (Operand.func f), args := xs, argTypes := ts }) (vs : Array Value) (hv : xs.toList.map a.eval = vs.toList) (hcf : ∀ W, (callFunc f vs).run P W = .ok (.enter f vs) W)
    {E : Ending → World → Prop} (hc : Calls P f vs w E) (hK : ∀ e w', E e w' → ∃ v, e = .returned v ∧ K (a.put o.dst v) w') :
    if Region.wanted o (yielded ops a.tmps) = true then Oper.wp P o a w K Q else X := by
  have hw : Region.wanted o (yielded ops a.tmps) = true := by simp [Region.wanted, hg]
  rw [if_pos hw]
  unfold Oper.wp execOp
  have hvs : xs.map a.eval = vs := by
    apply Array.ext'
    rw [Array.toList_map]
    exact hv
  have hcf' : (callFunc f (vs ++ #[])).run P w = .ok (.enter f vs) w := by rw [Array.append_empty]; exact hcf w
  simp only [hop, resolve, invoke, Sem.run_bind, Sem.run_pure, Result.andThen_ok, hvs, Act.eval, Deferred.ofValue]
  rw [Array.empty_append, hcf']
  refine hc.mono fun e w' he => ?_
  obtain ⟨v, rfl, hk⟩ := hK e w' he
  exact hk
theorem step_append_bytes {ops : Array Oper} {o : Oper} {a : Act} {w : World} {K : Act → World → Prop} {Q : Exit → Act → World → Prop} {X : Prop}
    (hg : o.guard = none) (s y : Operand) (ho : o.op = .call { callee := .builtin .append, args := #[s, y], argTypes := #[99, 99] }) {base : Nat} {v x : Value} {l m : List Nat} (hs : a.eval s = v) (hy : a.eval y = x)
    (hown : Own w base v l) (hx : Sl w x m) (h63 : l.length + m.length ≤ 1099511627776) (hbase : base ≤ w.heap.size)
    (h : ∀ v' w', Own w' base v' (l ++ m) → w.grownBy w' v.ownBlock → K (a.put o.dst v') w') :
    if Region.wanted o (yielded ops a.tmps) = true then Oper.wp Try.prog o a w K Q else X := by
  have hw : Region.wanted o (yielded ops a.tmps) = true := by simp [Region.wanted, hg]
  rw [if_pos hw]
  obtain ⟨v', w', h1, h2, h3⟩ := run_append_bytes o.type hown hx h63 hbase
  unfold Oper.wp execOp
  simp only [ho, resolve, invoke, builtin, Sem.run_bind, Sem.run_pure, Result.andThen_ok, List.map_toArray, List.map_cons, List.map_nil, hs, hy, h1]
  exact h _ _ h2 h3
end Go.Proofs.Ytlgpipdeckdmjaa.Law
