/-
  Several texts laid into one (merge.py): Ord, One5, Ref4, Law, Ref5.
-/
import Derived.Test.YtlgpipdeckdmjaaGreatVf01
import Derived.Test.YtlgpipdeckdmjaaGreatVf06
import Derived.Test.YtlgpipdeckdmjaaGreatVf03
import Derived.Deep.RegionLaw
/-
  A region that draws its order and makes memory on the way: what each operation needs and brings, in whatever order. No program.
-/
set_option linter.unusedVariables false
set_option linter.unusedSimpArgs false
namespace Go.Proofs.YtlgpipdeckdmjaaGreat.Ord

section
variable {P : Program} {ops : Array Oper} {md : Region.Mode}
/-- The end of one operation alone. -/
def QK (K : Act → World → Prop) (Q : Exit → Act → World → Prop) : Exit → Act → World → Prop
  | .normal, a, w => K a w
  | .exit n, a, w => Q (.exit n) a w
  | .goto n, a, w => Q (.goto n) a w
  | .ret, a, w => Q .ret a w
  | .panic c, a, w => Q (.panic c) a w
  | .outgrown, a, w => Q .outgrown a w
theorem wp_QK {o : Oper} {a : Act} {w : World} {K K0 : Act → World → Prop} {Q : Exit → Act → World → Prop} (h : o.wp P a w K (QK K0 Q)) : o.wp P a w K Q := by
  unfold Oper.wp at *
  generalize (execOp a.eval o).run P w = r at *
  cases r with
  | ok n w' => cases n <;> exact h
  | halt x w' => cases x <;> exact h
theorem wpOp_of_list {i : Nat} {o : Oper} {K : Act → World → Prop} {Q : Exit → Act → World → Prop} {a : Act} {w : World} (ho : ops[i]? = some o) (h : wpList P ops (QK K Q) [o] a w) : wpOp P ops Q i K a w := by
  unfold wpOp
  rw [ho]
  simp only [wpList] at h
  show if Region.wanted o (yielded ops a.tmps) = true then _ else _
  split
  · rename_i hw
    rw [if_pos hw] at h
    exact h.imp (fun h => wp_QK h) (fun h => h)
  · rename_i hw
    rw [if_neg hw] at h
    exact h
/-- How many of the first n are not yet done. -/
def cnt (listed : Array Bool) : Nat → Nat
  | 0 => 0
  | k + 1 => cnt listed k + (if listed.getD k false = true then 0 else 1)
theorem cnt_zero {listed : Array Bool} : ∀ {n : Nat}, cnt listed n = 0 → ∀ j, j < n → listed.getD j false = true
  | 0, _, j, hj => absurd hj (Nat.not_lt_zero j)
  | n + 1, h, j, hj => by
    simp only [cnt] at h
    by_cases hjn : j = n
    · subst hjn
      by_cases hb : listed.getD j false = true
      · exact hb
      · rw [if_neg hb] at h; omega
    · exact cnt_zero (n := n) (by omega) j (by omega)
theorem cnt_past {listed : Array Bool} {i : Nat} : ∀ {n : Nat}, n ≤ i → cnt (listed.setIfInBounds i true) n = cnt listed n
  | 0, _ => rfl
  | n + 1, h => by
    simp only [cnt]
    rw [cnt_past (by omega), getD_set_ne false (by omega)]
theorem cnt_set {listed : Array Bool} {i : Nat} (hs : i < listed.size) (hi : listed.getD i false = false) : ∀ {n : Nat}, i < n → cnt (listed.setIfInBounds i true) n + 1 = cnt listed n
  | 0, h => absurd h (Nat.not_lt_zero i)
  | n + 1, h => by
    simp only [cnt]
    by_cases hin : i = n
    · subst hin
      have h1 : (listed.setIfInBounds i true).getD i false = true := by simp [hs]
      rw [cnt_past (Nat.le_refl _), if_pos h1, hi]
      simp
    · rw [getD_set_ne false (by omega)]
      have := cnt_set hs hi (n := n) (by omega)
      omega
/-- Every edge of the first n goes back. -/
def topoB (md : Region.Mode) (ops : Array Oper) (n : Nat) : Bool := (List.range n).all fun i => match ops[i]? with
  | some o => o.after.all fun e => !Region.binds md e || decide (e.on < i)
  | none => false
theorem topo_spec {n i : Nat} {o : Oper} (h : topoB md ops n = true) (hi : i < n) (ho : ops[i]? = some o) : ∀ e ∈ o.after, Region.binds md e = true → e.on < i := by
  have h1 := List.all_eq_true.1 h i (List.mem_range.2 hi)
  simp only [ho, Array.all_eq_true_iff_forall_mem, Bool.or_eq_true, Bool.not_eq_true', decide_eq_true_eq] at h1
  intro e he hb
  rcases h1 e he with h2 | h2
  · rw [hb] at h2; cases h2
  · exact h2
theorem first_ready {n : Nat} {listed : Array Bool} (ht : topoB md ops n = true) (hn : n ≤ ops.size) (hs : listed.size = ops.size) (h : ∃ j, j < n ∧ listed.getD j false = false) : ∃ j, j ∈ Region.ready md ops listed := by
  obtain ⟨j, hj⟩ := h
  induction j using Nat.strongRecOn with
  | _ j ih =>
    obtain ⟨hjn, hjf⟩ := hj
    obtain ⟨o, ho⟩ : ∃ o, ops[j]? = some o := ⟨ops[j]'(by omega), by simp [show j < ops.size by omega]⟩
    by_cases hall : ∀ e ∈ o.after, Region.binds md e = true → listed.getD e.on false = true
    · exact ⟨j, mem_ready.2 ⟨getD_in (by omega) hjf, o, ho, hall⟩⟩
    · obtain ⟨e, he⟩ := Classical.not_forall.1 hall
      obtain ⟨he1, he⟩ := Classical.not_imp.1 he
      obtain ⟨hb, hf⟩ := Classical.not_imp.1 he
      have hlt := topo_spec ht hjn ho e he1 hb
      exact ih e.on hlt ⟨by omega, by simpa using hf⟩

theorem wpAny_inv {n : Nat} {Q : Exit → Act → World → Prop} {B : Act → World → Prop} {G : Nat → Act → World → Prop} (hs : Region.sinkB md ops n = true) (hc : Region.chainB md ops n = true) (hn : n < ops.size) (ht : topoB md ops n = true) (g : Nat)
    (hop : ∀ i o, i < n → ops[i]? = some o → ∀ a w, B a w → (∀ e ∈ o.after, Region.binds md e = true → G e.on a w) → wpOp P ops Q i (fun a' w' => B a' w' ∧ G i a' w' ∧ ∀ j, j < n → j ≠ i → G j a w → G j a' w') a w)
    (htail : ∀ listed a w, HeadInv md ops n listed → (∀ j, j < n → listed.getD j false = true) → B a w → (∀ j, j < n → G j a w) → wpAny P md ops Q g listed a w) :
    ∀ (f : Nat) (listed : Array Bool) (a : Act) (w : World), cnt listed n = f → HeadInv md ops n listed → B a w → (∀ j, j < n → listed.getD j false = true → G j a w) → wpAny P md ops Q (f + g) listed a w := by
  intro f
  induction f with
  | zero =>
    intro listed a w hf inv hB hG
    rw [Nat.zero_add]
    have := cnt_zero hf
    exact htail listed a w inv this hB (fun j hj => hG j hj (this j hj))
  | succ f ih =>
    intro listed a w hf inv hB hG
    rw [show f + 1 + g = (f + g) + 1 by omega]
    have hex : ∃ j, j < n ∧ listed.getD j false = false := by
      refine Classical.byContradiction fun hno => ?_
      have hall : ∀ j, j < n → listed.getD j false = true := fun j hj => by
        by_cases hb : listed.getD j false = true
        · exact hb
        · exact absurd ⟨j, hj, by simpa using hb⟩ hno
      have h0 : ∀ m, m ≤ n → cnt listed m = 0 := by
        intro m
        induction m with
        | zero => intro _; rfl
        | succ m ihm => intro hm; simp only [cnt]; rw [ihm (by omega), hall m (by omega)]; rfl
      have := h0 n (Nat.le_refl _)
      omega
    obtain ⟨r, hr⟩ := first_ready ht (by omega) inv.size hex
    obtain ⟨j0, hj0, hj0f⟩ := hex
    refine ⟨fun h => (by rw [h] at hr; cases hr), fun i hi => ?_⟩
    have hin : i < n := Nat.lt_of_not_le fun h => tail_waits hs hc hn inv _ j0 rfl hj0 (getD_in (by rw [inv.size]; omega) hj0f) i h hi
    obtain ⟨hiu, o, ho, hall⟩ := mem_ready.1 hi
    refine wpOp_mono (fun a' w' h => ?_) (hop i o hin ho a w hB (fun e he hb => hG e.on (by have := topo_spec ht hin ho e he hb; omega) (hall e he hb)))
    have hsz : i < listed.size := by rw [inv.size]; omega
    refine ih (listed.setIfInBounds i true) a' w' ?_ (inv.set hi hin) h.1 (fun j hj hl => ?_)
    · have := cnt_set hsz (getD_both hiu) hin
      omega
    · by_cases hji : j = i
      · subst hji; exact h.2.1
      · rw [getD_set_ne false (Ne.symm hji)] at hl
        exact h.2.2 j hj hji (hG j hj hl)

/-- A region that draws: its first n operations in whatever order, each needing what those that it waits for have brought, the others behind them in one order. -/
theorem wp_region_inv {id : Nat} {Q : Exit → Act → World → Prop} {a : Act} {w : World} {l : List Oper} (n : Nat) (B : Act → World → Prop) (G : Nat → Act → World → Prop) (hm : P.follows .mixedOrders = true)
    (hk : (Region.sinkB .any l.toArray n && Region.chainB .any l.toArray n && decide (n < l.toArray.size) && topoB .any l.toArray n && Region.seqB .any l.toArray (l.toArray.size - n) n (Array.replicate n true ++ Array.replicate (l.toArray.size - n) false)) = true)
    (hB : B a w.drew)
    (hop : ∀ i o, i < n → l[i]? = some o → ∀ a w, B a w → (∀ e ∈ o.after, Region.binds .any e = true → G e.on a w) → wpList P l.toArray (QK (fun a' w' => B a' w' ∧ G i a' w' ∧ ∀ j, j < n → j ≠ i → G j a w → G j a' w') Q) [o] a w)
    (htail : ∀ a w, B a w → (∀ j, j < n → G j a w) → wpList P l.toArray Q (l.drop n) a w) : (Code.region id l.toArray true).wp P Q a w := by
  simp only [Bool.and_eq_true, decide_eq_true_eq] at hk
  obtain ⟨⟨⟨⟨hs, hc⟩, hn⟩, ht⟩, hseq⟩ := hk
  have inv0 : HeadInv .any l.toArray n (Array.replicate l.toArray.size false) :=
    ⟨by simp, fun j oj _ hl => (by rw [getD_replicate_false] at hl; cases hl), fun t _ ht => getD_in (by simpa using ht) (getD_replicate_false _ _)⟩
  have hc0 : ∀ m, cnt (Array.replicate l.toArray.size false) m = m := by
    intro m
    induction m with
    | zero => rfl
    | succ m ih => simp only [cnt]; rw [ih, getD_replicate_false]; rfl
  refine wp_region_any hm ?_
  have hdl : (l.drop n).length = l.toArray.size - n := by simp
  have h := wpAny_inv (Q := Q) (B := B) (G := G) hs hc hn ht (l.toArray.size - n) (fun i o hin ho a w hB hG => wpOp_of_list ho (hop i o hin (by simpa using ho) a w hB hG)) (fun listed a' w' inv hall hB' hG' => by
    have el : listed = Array.replicate n true ++ Array.replicate (l.toArray.size - n) false := by
      apply Array.ext
      · rw [inv.size]; simp; simp at hn; omega
      · intro i h1 h2
        by_cases hin : i < n
        · have := hall i hin
          rw [Array.getElem_append_left (by simpa using hin)]
          simpa [h1] using this
        · have := inv.tail i (by omega) (by rw [← inv.size]; exact h1)
          rw [Array.getElem_append_right (by simpa using hin)]
          simpa [h1] using this
    have := wpAny_of_seq (md := .any) (Q' := Q) (l.drop n) n listed a' w' (fun j => by simp [List.getElem?_drop]) (by rw [hdl, el]; exact hseq) (htail a' w' hB' hG')
    rwa [hdl] at this) n (Array.replicate l.toArray.size false) a w.drew (hc0 n) inv0 hB (fun j hj hl => by rw [getD_replicate_false] at hl; cases hl)
  rw [show n + (l.toArray.size - n) = l.toArray.size by omega] at h
  exact h
end
end Go.Proofs.YtlgpipdeckdmjaaGreat.Ord
/-
  onetime: the first chain whose digit is lower.
-/
set_option linter.unusedVariables false
set_option linter.unusedSimpArgs false
namespace Go.Proofs.YtlgpipdeckdmjaaGreat.One
open Go.RowKit Base Reg Types Slice Sha
/-- The first chain whose digit is lower in b. -/
def lwr (a b : List Nat) : Option Nat := (List.range 35).find? fun c => decide (spd b c < spd a c)
theorem lwr_some {a b : List Nat} {c : Nat} (hc : c < 35) (h1 : spd b c < spd a c) (h2 : ∀ j, j < c → ¬ spd b j < spd a j) : lwr a b = some c := by
  unfold lwr
  rw [List.find?_range_eq_some]
  exact ⟨by simpa using h1, by simpa using hc, fun j hj => by simpa using h2 j hj⟩
theorem lwr_none {a b : List Nat} (h2 : ∀ j, j < 35 → ¬ spd b j < spd a j) : lwr a b = none := by
  unfold lwr
  rw [List.find?_eq_none]
  intro j hj
  simpa using h2 j (by simpa using hj)
def lwV (o : Option Nat) : Value := match o with
  | some c => .tuple #[.int .i64 (c : Int), .bool true]
  | none => .tuple #[.int .i64 0, .bool false]
def At5 (w : World) (a b : List Nat) (W : World) : Prop :=
  blk W w.heap.size (cl .u8 a) 23 ∧ blk W (w.heap.size + 1) (cl .u8 b) 23 ∧ Below w.heap.size w W
theorem At5.drew {w : World} {a b : List Nat} {W : World} (h : At5 w a b W) : At5 w a b W.drew := ⟨blk_drew h.1, blk_drew h.2.1, h.2.2.drew⟩
theorem At5.below {w : World} {a b : List Nat} {W W' : World} (h : At5 w a b W) (hb : Below W.heap.size W W') : At5 w a b W' := ⟨blk_keep h.1 hb, blk_keep h.2.1 hb, bel_trans h.2.2 hb h.2.2.size⟩
theorem sp_getD (d : List Nat) (c : Nat) (hc : c < 35) : (sp d).getD c 0 = spd d c := by
  unfold sp
  rw [List.getD_eq_getElem?_getD, List.getElem?_map, List.getElem?_range hc, Option.map_some, Option.getD_some]
/-- The frame of Lower while both Splits are made. -/
def Fr (w : World) (a b : List Nat) (u6 u7 u9 u10 u11 u12 : Value) : Act :=
  { tmps := #[agg .u8 a, agg .u8 b, .pointer (some ⟨w.heap.size, 0, none⟩), .pointer (some ⟨w.heap.size + 1, 0, none⟩), .int .i64 0, .bool false, u6, u7, undef, u9, u10, u11, u12, undef, undef, undef, undef, undef, undef, undef, undef, undef, undef, undef, undef], defers := [] }
def B5 (w : World) (a b : List Nat) (x : Act) (W : World) : Prop :=
  ∃ u6 u7 u9 u10 u11 u12, x = Fr w a b u6 u7 u9 u10 u11 u12 ∧ At5 w a b W ∧ (∀ p, u6 = .pointer (some ⟨p, 0, none⟩) → w.heap.size + 2 ≤ p ∧ blk W p (cl .i64 (zs 35)) 87) ∧ (∀ p, u7 = .pointer (some ⟨p, 0, none⟩) → w.heap.size + 2 ≤ p ∧ blk W p (cl .i64 (zs 35)) 87) ∧ (∀ p, u6 = .pointer (some ⟨p, 0, none⟩) → u7 = .pointer (some ⟨p, 0, none⟩) → False)
def G5 (a b : List Nat) (i : Nat) (x : Act) (W : World) : Prop := match i with
  | 0 => x.tmps.getD 9 undef = agg .u8 a
  | 1 => x.tmps.getD 10 undef = agg .i64 (sp a)
  | 2 => x.tmps.getD 11 undef = agg .u8 b
  | 3 => x.tmps.getD 12 undef = agg .i64 (sp b)
  | 4 => ∃ p, x.tmps.getD 6 undef = .pointer (some ⟨p, 0, none⟩)
  | 5 => ∃ p, x.tmps.getD 7 undef = .pointer (some ⟨p, 0, none⟩)
  | _ => True































































































































































































end Go.Proofs.YtlgpipdeckdmjaaGreat.One
/-
  The reference of layer 7: Half, head.
-/
set_option linter.unusedVariables false
set_option linter.unusedSimpArgs false
namespace Go.Proofs.YtlgpipdeckdmjaaGreat.Ref
open Go.RowKit Base Reg Types Slice Sha
open Go.Proofs.YtlgpipdeckdmjaaGreat.One
theorem hf_map (M : List Nat) : (List.range 16).map (fun j => (sha M).getD j 0) = hf M := by
  apply List.ext_getElem
  · rw [hf_length]; simp
  · intro i h1 h2
    have h : i < 16 := by simpa using h1
    have h3 : i < (sha M).length := by rw [sha_length]; omega
    simp only [List.getElem_map, List.getElem_range, hf, List.getElem_take]
    exact getD_at _ _ h3
theorem half (w : World) (M : List Nat) (x : Value) (hx : Sl w x M) (hM : M.length ≤ 1000000) :
    Calls Tryz.prog 96 #[x] w fun e w' => e = .returned (agg .u8 (hf M)) ∧ Below w.heap.size w w' := by
  have H := Lib.hid hx
  clear hx
  have hl := sha_length M
  go_enter Tryz.func96, Tryz.ntmps96
  go_wp2_with fail
  refine (Ref.sum_calls _ M x (H.out.keep ((Below.refl _ _).alloc (Nat.le_refl _) _)) hM).mono ?_
  rintro e w1 ⟨rfl, hb1⟩
  have hB1 := Lib.hid (blk_keep (blk_new w (cl .u8 (zs 16)) 84) hb1)
  have hbel1 := Lib.hid (bel_trans ((Below.refl _ w).alloc (Nat.le_refl _) _) hb1 (by simp only [alloc_size]; omega))
  clear hb1
  go_wp2_with fail
  go_loopw [5] (fun i wr => ∃ k : Nat, k ≤ 16 ∧ i = .int .i64 k ∧ blk wr w.heap.size (cl .u8 (zs 16)) 84 ∧ blk wr w1.heap.size (cl .u8 (sha M)) 22 ∧ blk wr (w1.heap.size + 1) (cl .u8 (upto 16 k fun j => (sha M).getD j 0)) 84 ∧ Below w.heap.size w wr) (fun i _ => 16 - (intOf i).toNat)
  case atStart =>
    exact ⟨0, by omega, rfl, blk_alloc (blk_alloc hB1.out _) _, blk_alloc (blk_new _ _ _) _, by rw [upto_zero]; exact blk_at _ _ _ (by simp only [alloc_size]), (hbel1.out.alloc hbel1.out.size _).alloc (by have := hbel1.out.size; simp only [alloc_size]; omega) _⟩
  case round =>
    obtain ⟨k, hk, rfl, hb1, hb2, hb3, hbel⟩ := hrel
    have hl2 : (upto 16 k fun j => (sha M).getD j 0).length = 16 := upto_length _ _ _
    have hw1 := hbel1.out.size
    have hlt := blk_lt hB1.out
    by_cases hk2 : k < 16
    · have c1 : wr.cell? ⟨w1.heap.size, k, none⟩ = some (.int .u8 (((sha M).getD k 0 : Nat) : Int)) := (blk_cell hb2 k).trans (cl_get _ _ _ (by omega))
      have c2 : wr.cell? ⟨w1.heap.size + 1, k, none⟩ = some (.int .u8 (((upto 16 k fun j => (sha M).getD j 0).getD k 0 : Nat) : Int)) := (blk_cell hb3 k).trans (cl_get _ _ _ (by omega))
      have f2 := blk_free hb3 k
      obtain ⟨u, hu⟩ : ∃ u, u = (sha M).getD k 0 := ⟨_, rfl⟩
      rw [← hu] at c1
      have HU := Lib.hid hu
      have H1 := Lib.hid hb1
      have H2 := Lib.hid hb2
      have H3 := Lib.hid hb3
      clear hb1 hb2 hb3 hu
      go_wp2_with fail
      refine ⟨⟨k + 1, by omega, by go_num, blk_setCell_ne H1.out _ (by simp; omega), blk_setCell_ne H2.out _ (by simp), ?_, bel_setCell hbel (by simp; omega) _⟩, by simp [intOf]; omega⟩
      have h := blk_setCell H3.out k (.int .u8 ((u : Nat) : Int))
      rw [HU.out, cl_set, upto_set 16 k (fun j => (sha M).getD j 0) hk2, ← HU.out] at h
      exact h
    · obtain rfl : k = 16 := by omega
      rw [upto_full, hf_map] at hb3
      have hl3 := hf_length M
      have q1 := bk_of hb1
      have q3 := bk_of hb3
      have H1 := Lib.hid hb1
      clear hb1 hb2 hb3 hl2
      go_wp2_with fail
      refine ret_rv rfl rfl (blk_setRow H1.out (cl .u8 (hf M))) hl3 rfl ⟨rfl, bel_setRow hbel (Nat.le_refl _) _⟩
theorem head (w : World) (tag leaf : Nat) (hleaf : leaf ≤ 65535) (htag : tag < 256) :
    Calls Tryz.prog 97 #[.int .u8 (tag : Int), .int .i64 (leaf : Int)] w fun e w' => ∃ v, e = .returned v ∧ Own w' w.heap.size v (hd tag leaf) ∧ Below w.heap.size w w' := by
  go_enter Tryz.func97, Tryz.ntmps97
  go_wp2_with fail
  have ehd : (#[.int .u8 (tag : Int), .int .u8 ((leaf : Int) / 16777216), .int .u8 ((leaf : Int) / 65536 % 256), .int .u8 ((leaf : Int) / 256 % 256), .int .u8 ((leaf : Int) % 256)] : Array Value) = (cl .u8 (hd tag leaf)).toArray := by
    have h1 : (leaf : Int) / 16777216 = ((leaf / 16777216 % 256 : Nat) : Int) := by omega
    have h2 : (leaf : Int) / 65536 % 256 = ((leaf / 65536 % 256 : Nat) : Int) := by omega
    have h3 : (leaf : Int) / 256 % 256 = ((leaf / 256 % 256 : Nat) : Int) := by omega
    have h4 : (leaf : Int) % 256 = ((leaf % 256 : Nat) : Int) := by omega
    rw [h1, h2, h3, h4]
    rfl
  rw [ehd]
  clear ehd
  go_ret
  exact ⟨_, rfl, own_bytes w (hd tag leaf) (by simp [hd]), (Below.refl _ _).alloc (Nat.le_refl _) _⟩
end Go.Proofs.YtlgpipdeckdmjaaGreat.Ref
/-
  Laws for single operations of a region that draws its order: a call by its contract; append onto a slice of the call's own.
-/
set_option linter.unusedVariables false
set_option linter.unusedSimpArgs false
namespace Go.Proofs.YtlgpipdeckdmjaaGreat.Law
open Go.RowKit Base Slice
theorem step_call {P : Program} {ops : Array Oper} {o : Oper} {a : Act} {w : World} {K : Act → World → Prop} {Q : Exit → Act → World → Prop} {X : Prop}
    (hg : o.guard = none) (f : FuncId) (xs : Array Operand) (ts : Array TypeId) (hop : o.op = Op.call { callee := Callee.value (Operand.func f), args := xs, argTypes := ts }) (vs : Array Value) (hv : xs.toList.map a.eval = vs.toList) (hcf : ∀ W, (callFunc f vs).run P W = .ok (.enter f vs) W)
    {E : Ending → World → Prop} (hc : Calls P f vs w E) (hK : ∀ e w', E e w' → ∃ v, e = .returned v ∧ K (a.put o.dst v) w') :
    if Region.wanted o (yielded ops a.tmps) = true then Oper.wp P o a w K Q else X := by
  have hw : Region.wanted o (yielded ops a.tmps) = true := by simp [Region.wanted, hg]
  rw [if_pos hw]
  unfold Oper.wp execOp
  have hvs : xs.map a.eval = vs := by
    apply Array.ext'
    rw [Array.toList_map]
    exact hv
  have hcf' : (callFunc f (vs ++ #[])).run P w = .ok (.enter f vs) w := by rw [Array.append_empty]; exact hcf w
  simp only [hop, resolve, invoke, Sem.run_bind, Sem.run_pure, Result.andThen_ok, hvs, Act.eval, Deferred.ofValue]
  rw [Array.empty_append, hcf']
  refine hc.mono fun e w' he => ?_
  obtain ⟨v, rfl, hk⟩ := hK e w' he
  exact hk
theorem step_append_bytes {ops : Array Oper} {o : Oper} {a : Act} {w : World} {K : Act → World → Prop} {Q : Exit → Act → World → Prop} {X : Prop}
    (hg : o.guard = none) (s y : Operand) (ho : o.op = .call { callee := .builtin .append, args := #[s, y], argTypes := #[97, 97] }) {base : Nat} {v x : Value} {l m : List Nat} (hs : a.eval s = v) (hy : a.eval y = x)
    (hown : Own w base v l) (hx : Sl w x m) (h63 : l.length + m.length ≤ 1099511627776) (hbase : base ≤ w.heap.size)
    (h : ∀ v' w', Own w' base v' (l ++ m) → w.grownBy w' v.ownBlock → K (a.put o.dst v') w') :
    if Region.wanted o (yielded ops a.tmps) = true then Oper.wp Tryz.prog o a w K Q else X := by
  have hw : Region.wanted o (yielded ops a.tmps) = true := by simp [Region.wanted, hg]
  rw [if_pos hw]
  obtain ⟨v', w', h1, h2, h3⟩ := run_append_bytes o.type hown hx h63 hbase
  unfold Oper.wp execOp
  simp only [ho, resolve, invoke, builtin, Sem.run_bind, Sem.run_pure, Result.andThen_ok, List.map_toArray, List.map_cons, List.map_nil, hs, hy, h1]
  exact h _ _ h2 h3
end Go.Proofs.YtlgpipdeckdmjaaGreat.Law
/-
  The reference of layer 7: Secret, Step, Advance.
-/
set_option linter.unusedVariables false
set_option linter.unusedSimpArgs false
namespace Go.Proofs.YtlgpipdeckdmjaaGreat.Ref
open Go.RowKit Base Reg Types Slice Sha Law
open Go.Proofs.YtlgpipdeckdmjaaGreat.One
theorem sl_lit' (w : World) (cs : Array Value) (l : List Nat) (n : Nat) (hcs : cs = (cl .u8 l).toArray) (hn : n = l.length) (h : l.length ≤ 1099511627776) {b : Nat} (hb : b = w.heap.size) : Sl (w.alloc (.cells cs 5)) (.slice (some ⟨b, 0, none⟩) n n) l := by
  subst hcs
  exact sl_lit w l n hn h hb
theorem wrap_u8 (n : Nat) : IntKind.u8.wrap (n : Int) = ((n % 256 : Nat) : Int) := by
  rw [show IntKind.u8.wrap (n : Int) = (n : Int) % 256 by simp [IntKind.wrap, IntKind.bits, IntKind.signed]]
  omega
set_option maxRecDepth 20000 in
set_option maxHeartbeats 4000000 in
theorem step (w : World) (leaf chain i : Nat) (v : List Nat) (hs : v.length = 16) (hleaf : leaf ≤ 65535) (hc : chain ≤ 65535) (hi : i ≤ 65535) :
    Calls Tryz.prog 95 #[.int .i64 (leaf : Int), .int .i64 (chain : Int), .int .i64 (i : Int), agg .u8 v] w fun e w' => e = .returned (agg .u8 (stp leaf chain i v)) ∧ Below w.heap.size w w' := by
  go_enter Tryz.func95, Tryz.ntmps95
  have ec : ((chain : Int) % 256) = ((chain % 256 : Nat) : Int) := by omega
  have ei : ((i : Int) % 256) = ((i % 256 : Nat) : Int) := by omega
  have EC := Lib.hid ec
  have EI := Lib.hid ei
  clear ec ei
  go_wp2_with fail
  obtain ⟨W0, hW0⟩ : ∃ W0, W0 = ((w.alloc (.cells (cl .u8 v).toArray 84)).alloc (.cells (cl .u8 (zs 16)).toArray 84)) := ⟨_, rfl⟩
  have hB0 : blk W0 w.heap.size (cl .u8 v) 84 := by rw [hW0]; exact blk_alloc (blk_new _ _ _) _
  have hB1 : blk W0 (w.heap.size + 1) (cl .u8 (zs 16)) 84 := by rw [hW0]; exact blk_at _ _ _ (by simp only [alloc_size])
  have hbel : Below w.heap.size w W0 := by rw [hW0]; exact ((Below.refl w.heap.size w).alloc (Nat.le_refl _) _).alloc (by simp only [alloc_size]; omega) _
  have hsz : W0.heap.size = w.heap.size + 2 := by rw [hW0]; simp only [alloc_size]
  rw [← hW0]
  have HS := Lib.hid hsz
  have H0 := Lib.hid hB0
  have H1 := Lib.hid hB1
  have HB := Lib.hid hbel
  clear hW0 hB0 hB1 hbel hsz
  have hsl := stp_length leaf chain i v
  go_region_law (first
    | (refine step_call rfl 97 _ _ rfl #[.int .u8 ((3 : Nat) : Int), .int .i64 (leaf : Int)] rfl (fun _ => by kernel_rfl) (head _ 3 leaf hleaf (by omega)) ?_
       rintro e w1 ⟨v1, rfl, ho1, hb1⟩
       refine ⟨_, rfl, ?_⟩
       have ho1' : Own w1 W0.heap.size v1 (hd 3 leaf) := by first | exact own_mono ho1 (Nat.le_refl _) | exact own_mono ho1 (by show _ ≤ (W0.alloc _).heap.size; rw [alloc_size]; exact Nat.le_succ _)
       have hk1 : Below W0.heap.size W0 w1 := by first | exact bel_trans (Below.refl W0.heap.size W0).drew hb1 (Nat.le_refl _) | exact bel_trans ((Below.refl W0.heap.size W0).alloc (Nat.le_refl _) _).drew hb1 (by show _ ≤ (W0.alloc _).heap.size; rw [alloc_size]; exact Nat.le_succ _)
       have HO1 := Lib.hid ho1'
       have HK1 := Lib.hid hk1
       have HB1 := Lib.hid hb1
       clear ho1 ho1' hk1 hb1)
    | ((refine step_append_bytes rfl (.tmp 10) (.tmp 15) rfl (base := W0.heap.size) (l := hd 3 leaf) (m := [chain % 256, i % 256]) rfl rfl ?_ ?_ ?_ ?_ ?_)
       · (first | exact own_keep HO1.out ((Below.refl _ _).alloc (Nat.le_refl _) _) | exact HO1.out)
       · first | ((refine sl_lit' _ _ [chain % 256, i % 256] 2 ?_ rfl (by simp) rfl); rw [wrap_u8, wrap_u8]; rfl) | ((refine ((sl_lit' W0 _ [chain % 256, i % 256] 2 ?_ rfl (by simp) rfl).keep (Below.refl _ _).drew).keep HB1.out); rw [wrap_u8, wrap_u8]; rfl)
       · simp [hd]
       · first | exact HK1.out.size | (rw [alloc_size]; exact Nat.le_succ_of_le HK1.out.size)
       intro v2 w2 ho2 hg2
       have hk2 : Below W0.heap.size W0 w2 := by first | exact HK1.out.grown hg2 HK1.out.size (fun k hk => own_block HO1.out k hk) | exact (HK1.out.alloc HK1.out.size _).grown hg2 (by rw [alloc_size]; exact Nat.le_succ_of_le HK1.out.size) (fun k hk => own_block HO1.out k hk)
       have HO2 := Lib.hid ho2
       have HK2 := Lib.hid hk2
       clear ho2 hg2 hk2)
    | ((refine step_append_bytes rfl (.tmp 16) (.tmp 17) rfl (base := W0.heap.size) (l := hd 3 leaf ++ [chain % 256, i % 256]) (m := v) rfl rfl ?_ ?_ ?_ ?_ ?_)
       · (exact HO2.out)
       · (refine sl_whole (m := 16) (c := 16) (blk_below H0.out HK2.out ?_) ?_ ?_ <;> (have := HS.out; omega))
       · (simp [hd]; omega)
       · exact HK2.out.size
       intro v3 w3 ho3 hg3
       have hk3 : Below W0.heap.size W0 w3 := HK2.out.grown hg3 HK2.out.size (fun k hk => own_block HO2.out k hk)
       have HO3 := Lib.hid ho3
       have HK3 := Lib.hid hk3
       clear ho3 hg3 hk3)
    | (refine step_call rfl 96 _ _ rfl #[v3] rfl (fun _ => by kernel_rfl) (half w3 (hd 3 leaf ++ [chain % 256, i % 256] ++ v) v3 (SlC.of_own HO3.out) (by simp [hd]; omega)) ?_
       rintro e w4 ⟨rfl, hb4⟩
       refine ⟨agg .u8 (stp leaf chain i v), rfl, ?_⟩
       have hk4 := bel_trans HK3.out hb4 HK3.out.size
       have hB4 := blk_below H1.out hk4 (by have := HS.out; omega)
       have k4 := bk_of hB4
       have HK4 := Lib.hid hk4
       have HB4 := Lib.hid hB4
       clear hb4 hk4 hB4)
    | fail)
  all_goals
    go_wp2_with fail
    refine ret_rv rfl rfl (blk_setRow HB4.out (cl .u8 (stp leaf chain i v))) hsl rfl ⟨rfl, bel_setRow (bel_trans HB.out HK4.out HB.out.size) (by omega) _⟩
set_option maxRecDepth 20000 in
set_option maxHeartbeats 4000000 in
theorem secret (w : World) (v : List Nat) (leaf chain : Nat) (hs : v.length = 32) (hleaf : leaf ≤ 65535) (hc : chain ≤ 65535) :
    Calls Tryz.prog 72 #[agg .u8 v, .int .i64 (leaf : Int), .int .i64 (chain : Int)] w fun e w' => e = .returned (agg .u8 (sec v leaf chain)) ∧ Below w.heap.size w w' := by
  go_enter Tryz.func72, Tryz.ntmps72
  have ec : ((chain : Int) % 256) = ((chain % 256 : Nat) : Int) := by omega
  have EC := Lib.hid ec
  clear ec
  go_wp2_with fail
  obtain ⟨W0, hW0⟩ : ∃ W0, W0 = ((w.alloc (.cells (cl .u8 v).toArray 22)).alloc (.cells (cl .u8 (zs 16)).toArray 84)) := ⟨_, rfl⟩
  have hB0 : blk W0 w.heap.size (cl .u8 v) 22 := by rw [hW0]; exact blk_alloc (blk_new _ _ _) _
  have hB1 : blk W0 (w.heap.size + 1) (cl .u8 (zs 16)) 84 := by rw [hW0]; exact blk_at _ _ _ (by simp only [alloc_size])
  have hbel : Below w.heap.size w W0 := by rw [hW0]; exact ((Below.refl w.heap.size w).alloc (Nat.le_refl _) _).alloc (by simp only [alloc_size]; omega) _
  have hsz : W0.heap.size = w.heap.size + 2 := by rw [hW0]; simp only [alloc_size]
  rw [← hW0]
  have HS := Lib.hid hsz
  have H0 := Lib.hid hB0
  have H1 := Lib.hid hB1
  have HB := Lib.hid hbel
  clear hW0 hB0 hB1 hbel hsz
  have hsl := sec_length v leaf chain
  go_region_law (first
    | (refine step_call rfl 97 _ _ rfl #[.int .u8 ((2 : Nat) : Int), .int .i64 (leaf : Int)] rfl (fun _ => by kernel_rfl) (head _ 2 leaf hleaf (by omega)) ?_
       rintro e w1 ⟨v1, rfl, ho1, hb1⟩
       refine ⟨_, rfl, ?_⟩
       have ho1' : Own w1 W0.heap.size v1 (hd 2 leaf) := by first | exact own_mono ho1 (Nat.le_refl _) | exact own_mono ho1 (by show _ ≤ (W0.alloc _).heap.size; rw [alloc_size]; exact Nat.le_succ _)
       have hk1 : Below W0.heap.size W0 w1 := by first | exact bel_trans (Below.refl W0.heap.size W0).drew hb1 (Nat.le_refl _) | exact bel_trans ((Below.refl W0.heap.size W0).alloc (Nat.le_refl _) _).drew hb1 (by show _ ≤ (W0.alloc _).heap.size; rw [alloc_size]; exact Nat.le_succ _)
       have HO1 := Lib.hid ho1'
       have HK1 := Lib.hid hk1
       have HB1 := Lib.hid hb1
       clear ho1 ho1' hk1 hb1)
    | ((refine step_append_bytes rfl (.tmp 8) (.tmp 11) rfl (base := W0.heap.size) (l := hd 2 leaf) (m := [chain % 256]) rfl rfl ?_ ?_ ?_ ?_ ?_)
       · (first | exact own_keep HO1.out ((Below.refl _ _).alloc (Nat.le_refl _) _) | exact HO1.out)
       · first | ((refine sl_lit' _ _ [chain % 256] 1 ?_ rfl (by simp) rfl); rw [wrap_u8]; rfl) | ((refine ((sl_lit' W0 _ [chain % 256] 1 ?_ rfl (by simp) rfl).keep (Below.refl _ _).drew).keep HB1.out); rw [wrap_u8]; rfl)
       · simp [hd]
       · first | exact HK1.out.size | (rw [alloc_size]; exact Nat.le_succ_of_le HK1.out.size)
       intro v2 w2 ho2 hg2
       have hk2 : Below W0.heap.size W0 w2 := by first | exact HK1.out.grown hg2 HK1.out.size (fun k hk => own_block HO1.out k hk) | exact (HK1.out.alloc HK1.out.size _).grown hg2 (by rw [alloc_size]; exact Nat.le_succ_of_le HK1.out.size) (fun k hk => own_block HO1.out k hk)
       have HO2 := Lib.hid ho2
       have HK2 := Lib.hid hk2
       clear ho2 hg2 hk2)
    | ((refine step_append_bytes rfl (.tmp 12) (.tmp 13) rfl (base := W0.heap.size) (l := hd 2 leaf ++ [chain % 256]) (m := v) rfl rfl ?_ ?_ ?_ ?_ ?_)
       · (exact HO2.out)
       · (refine sl_whole (m := 32) (c := 32) (blk_below H0.out HK2.out ?_) ?_ ?_ <;> (have := HS.out; omega))
       · (simp [hd]; omega)
       · exact HK2.out.size
       intro v3 w3 ho3 hg3
       have hk3 : Below W0.heap.size W0 w3 := HK2.out.grown hg3 HK2.out.size (fun k hk => own_block HO2.out k hk)
       have HO3 := Lib.hid ho3
       have HK3 := Lib.hid hk3
       clear ho3 hg3 hk3)
    | (refine step_call rfl 96 _ _ rfl #[v3] rfl (fun _ => by kernel_rfl) (half w3 (hd 2 leaf ++ [chain % 256] ++ v) v3 (SlC.of_own HO3.out) (by simp [hd]; omega)) ?_
       rintro e w4 ⟨rfl, hb4⟩
       refine ⟨agg .u8 (sec v leaf chain), rfl, ?_⟩
       have hk4 := bel_trans HK3.out hb4 HK3.out.size
       have hB4 := blk_below H1.out hk4 (by have := HS.out; omega)
       have k4 := bk_of hB4
       have HK4 := Lib.hid hk4
       have HB4 := Lib.hid hB4
       clear hb4 hk4 hB4)
    | fail)
  all_goals
    go_wp2_with fail
    refine ret_rv rfl rfl (blk_setRow HB4.out (cl .u8 (sec v leaf chain))) hsl rfl ⟨rfl, bel_setRow (bel_trans HB.out HK4.out HB.out.size) (by omega) _⟩
/-- n steps from a value on. -/
theorem advance (w : World) (leaf chain from_ n : Nat) (v : List Nat) (hs : v.length = 16) (hleaf : leaf ≤ 65535) (hc : chain ≤ 65535) (hi : from_ + n ≤ 65535) (to_ : Int) (hto : to_ = ((from_ + n : Nat) : Int)) :
    Calls Tryz.prog 71 #[.int .i64 (leaf : Int), .int .i64 (chain : Int), .int .i64 (from_ : Int), .int .i64 to_, agg .u8 v] w fun e w' => e = .returned (agg .u8 (adv leaf chain from_ n v)) ∧ Below w.heap.size w w' := by
  obtain ⟨T, hT⟩ : ∃ T : Nat, T = from_ + n := ⟨_, rfl⟩
  rw [← hT] at hto
  subst hto
  have HT := Lib.hid hT
  clear hT
  go_enter Tryz.func71, Tryz.ntmps71
  go_wp2_with fail
  go_loopw [11] (fun i wr => ∃ k q : Nat, k ≤ n ∧ q = from_ + k ∧ i = .int .i64 (q : Int) ∧ blk wr w.heap.size (cl .u8 (adv leaf chain from_ k v)) 84 ∧ blk wr (w.heap.size + 1) (cl .u8 (zs 16)) 84 ∧ Below w.heap.size w wr) (fun i _ => T - (intOf i).toNat)
  case atStart => exact ⟨0, from_, by omega, rfl, rfl, blk_alloc (blk_new _ _ _) _, blk_at _ _ _ (by simp only [alloc_size]), ((Below.refl _ _).alloc (Nat.le_refl _) _).alloc (by simp only [alloc_size]; omega) _⟩
  case round =>
    obtain ⟨k, q, hk, hq, rfl, hB0, hB1, hb⟩ := hrel
    have hT := HT.out
    have hq2 : q ≤ 65535 := by omega
    have hal := adv_length leaf chain from_ k v hs
    have hlt := blk_lt hB0
    have hk0 := bk_of hB0
    have G0 := Lib.hid hB0
    have G1 := Lib.hid hB1
    by_cases hkn : k < n
    · have i1 : (q : Int) < (T : Int) := by omega
      have i2 : q < T := by omega
      have HQ := Lib.hid hq
      clear hq hT hB0 hB1
      go_wp2_with fail
      refine (step wr leaf chain q _ hal hleaf hc (by have := HQ.out; omega)).mono ?_
      rintro e w1 ⟨rfl, hb1⟩
      have hB2 := blk_keep G0.out hb1
      have hB3 := blk_keep G1.out hb1
      have hb2 := bel_trans hb hb1 hb.size
      have hk2 := bk_of hB2
      have hsl := stp_length leaf chain q (adv leaf chain from_ k v)
      have K0 := Lib.hid hB2
      have K1 := Lib.hid hB3
      clear hb1 hB2 hB3 hk0
      go_wp2_with fail
      refine ⟨⟨k + 1, q + 1, by omega, by have := HQ.out; omega, by go_num, ?_, blk_setRow_ne K1.out _ (by omega), bel_setRow hb2 (Nat.le_refl _) _⟩, by simp [intOf]; omega⟩
      have e : adv leaf chain from_ (k + 1) v = stp leaf chain q (adv leaf chain from_ k v) := by rw [HQ.out, adv]
      rw [e]
      exact blk_setRow K0.out (cl .u8 (stp leaf chain q (adv leaf chain from_ k v)))
    · obtain rfl : k = n := by omega
      have i1 : ¬ (q : Int) < (T : Int) := by omega
      have hk1 := bk_of hB1
      clear hq hT hB0 hB1
      go_wp2_with fail
      refine ret_rv rfl rfl (blk_setRow G1.out (cl .u8 (adv leaf chain from_ k v))) hal rfl ⟨rfl, bel_setRow hb (by omega) _⟩
end Go.Proofs.YtlgpipdeckdmjaaGreat.Ref
