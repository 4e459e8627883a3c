/-
  Several texts laid into one (merge.py): Rm3, Tab, Tab2, Sgn1, Sgn2.
-/
import Derived.Test.YtlgpipdeckdmjaaGreatVf13
import Derived.Test.YtlgpipdeckdmjaaGreatVf07
import Derived.Below
/-
  The reference of layer 6: Node, Root.
-/
set_option linter.unusedVariables false
set_option linter.unusedSimpArgs false
namespace Go.Proofs.YtlgpipdeckdmjaaGreat.Rm
open Go.RowKit Base Reg Types Slice Sha
open Go.Proofs.YtlgpipdeckdmjaaGreat.One
open Go.Proofs.YtlgpipdeckdmjaaGreat.Str
open Go.Proofs.YtlgpipdeckdmjaaGreat.Mer
theorem ld_rn16 {W : World} {b o i : Nat} {ns : List (List Nat)} (hN : N16 ns) (hk : i < ns.length) (hc : ∀ j u, (cl .u8 ns.flatten)[j]? = some u → W.cell? ⟨b, o + j, none⟩ = some u) :
    (ldA 93 (.pointer (some ⟨b, o + i * 16, none⟩))).run Tryz.prog W = .ok (agg .u8 (ns.getD i [])) W :=
  ld_row16 (d := (Tryz.prog.underlying 93).get (by kernel_rfl)) (by kernel_rfl) (by kernel_rfl) (by kernel_rfl) hN hk hc
theorem row_succ_getD {ns : List (List Nat)} {h m k : Nat} (hl : ns.length = 2 ^ h) (hm : m + 1 ≤ h) (hk : k < 2 ^ (h - (m + 1))) : (row ns (m + 1)).getD k [] = joinN (m + 1) ((row ns m).getD (2 * k) []) ((row ns m).getD (2 * k + 1) []) := by
  rw [row, lv0_getD _ (by rw [row_length hl m (by omega), show h - m = (h - (m + 1)) + 1 by omega, Nat.pow_succ, Nat.mul_div_cancel _ (by omega)]; exact hk)]
  rfl
set_option maxRecDepth 20000 in
set_option maxHeartbeats 4000000 in
theorem node {ns : List (List Nat)} {h : Nat} (hN : N16 ns) (hl : ns.length = 2 ^ h) (hh : h ≤ 8) : ∀ (m : Nat) (w : World) (v : Value) (k : Nat) (mI kI : Int), m ≤ h → k < 2 ^ (h - m) → mI = (m : Int) → kI = (k : Int) → SlN w v ns →
    Calls Tryz.prog 74 #[v, .int .i64 mI, .int .i64 kI] w fun e w' => e = .returned (agg .u8 ((row ns m).getD k [])) ∧ Below w.heap.size w w'
  | 0, w, v, k, mI, kI, hm, hk, em, ek, hv => by
    have hk2 : k < ns.length := by rw [hl]; simpa using hk
    have p8 : ns.length ≤ 256 := by rw [hl]; exact Nat.le_trans (Nat.pow_le_pow_right (by omega) hh) (by decide)
    subst ek
    obtain rfl : mI = 0 := by simpa using em
    rw [row]
    obtain ⟨b, o, c, rfl, hnc, hlt, hcl⟩ := slc_addr hv (by omega)
    have q1 := ld_rn16 (i := k) (W := w.alloc (.cells (cl .u8 (zs 16)).toArray 93)) hN hk2 (fun j u hj => (((Below.refl w.heap.size w).alloc (Nat.le_refl _) _).cell (p := ⟨b, o + j, none⟩) hlt).trans (hcl j u hj))
    have l1 := hN.getD (i := k) hk2
    obtain ⟨x, hx⟩ : ∃ x, x = ns.getD k [] := ⟨_, rfl⟩
    rw [← hx] at q1 l1 ⊢
    obtain ⟨n, hn⟩ : ∃ n, n = ns.length := ⟨_, rfl⟩
    rw [← hn] at hk2 hnc p8 ⊢
    have HX := Lib.hid hx
    have HC := Lib.hid hcl
    have HB := Lib.hid (And.intro (blk_new w (cl .u8 (zs 16)) 93) ((Below.refl w.heap.size w).alloc (Nat.le_refl _) (.cells (cl .u8 (zs 16)).toArray 93)))
    clear hx hcl hv hn hl hk em
    go_enter Tryz.func74, Tryz.ntmps74
    go_wp2_with fail
    refine ret_rn rfl rfl (blk_new w (cl .u8 x) _) l1 rfl ⟨rfl, (Below.refl w.heap.size w).alloc (Nat.le_refl _) _⟩
  | m + 1, w, v, k, mI, kI, hm, hk, em, ek, hv => by
    have hk2 : 2 * k + 1 < 2 ^ (h - m) := by rw [show h - m = (h - (m + 1)) + 1 by omega, Nat.pow_succ]; omega
    have p8 : 2 ^ (h - m) ≤ 256 := Nat.le_trans (Nat.pow_le_pow_right (by omega) (show h - m ≤ 8 by omega)) (by decide)
    have lr := row_length hl m (by omega)
    have l1 := (row_16 hN m).getD (i := 2 * k) (by omega)
    have l2 := (row_16 hN m).getD (i := 2 * k + 1) (by omega)
    have C1 := Lib.hid (fun W hW => node hN hl hh m W v (2 * k) (m : Int) (2 * (k : Int)) (by omega) (by omega) rfl (by omega) hW)
    have C2 := Lib.hid (fun W hW => node hN hl hh m W v (2 * k + 1) (m : Int) (2 * (k : Int) + 1) (by omega) (by omega) rfl (by omega) hW)
    rw [row_succ_getD hl (by omega) hk]
    have k128 : k ≤ 128 := by omega
    obtain ⟨x, hx⟩ : ∃ x, x = (row ns m).getD (2 * k) [] := ⟨_, rfl⟩
    obtain ⟨y, hy⟩ : ∃ y, y = (row ns m).getD (2 * k + 1) [] := ⟨_, rfl⟩
    rw [← hx] at C1 l1 ⊢
    rw [← hy] at C2 l2 ⊢
    subst ek
    obtain rfl : mI = (m : Int) + 1 := by rw [em]; push_cast; rfl
    obtain ⟨A, c, rfl, -⟩ := id hv
    have LN := Lib.hid (joinN_length (m + 1) x y)
    have J := Lib.hid (fun W => join W (m + 1) x y l1 l2 (by omega))
    have HB := Lib.hid (And.intro (blk_new w (cl .u8 (zs 16)) 93) ((Below.refl w.heap.size w).alloc (Nat.le_refl _) (.cells (cl .u8 (zs 16)).toArray 93)))
    have m8 : m ≤ 8 := by omega
    obtain ⟨n, hn⟩ : ∃ n, n = ns.length := ⟨_, rfl⟩
    rw [← hn] at C1 C2 ⊢
    have HV := Lib.hid (show SlN w (.slice A n c) ns by rw [hn]; exact hv)
    clear hx hy hn hv hl lr em hk hk2 p8
    rw [show ((m + 1 : Nat) : Int) = (m : Int) + 1 from by push_cast; rfl] at J
    go_enter Tryz.func74, Tryz.ntmps74
    go_wp2_with fail
    refine (C1.out _ (HV.out.keep ((Below.refl w.heap.size w).alloc (Nat.le_refl _) _))).mono ?_
    rintro e w1 ⟨rfl, hb1⟩
    have D1 := Lib.hid (And.intro (blk_keep HB.out.1 hb1) (bel_trans HB.out.2 hb1 HB.out.2.size))
    clear hb1
    go_wp2_with fail
    refine (C2.out w1 (HV.out.keep D1.out.2)).mono ?_
    rintro e w2 ⟨rfl, hb2⟩
    have D2 := Lib.hid (And.intro (blk_keep D1.out.1 hb2) (bel_trans D1.out.2 hb2 D1.out.2.size))
    clear hb2
    go_wp2_with fail
    refine (J.out w2).mono ?_
    rintro e w3 ⟨rfl, hb3⟩
    have hB3 := blk_keep D2.out.1 hb3
    have hbel := bel_trans D2.out.2 hb3 D2.out.2.size
    obtain ⟨z, hz⟩ : ∃ z, z = joinN (m + 1) x y := ⟨_, rfl⟩
    have lz := LN.out
    rw [← hz] at lz ⊢
    have k3 := bk_of hB3
    have HZ := Lib.hid hz
    clear hb3 hz
    go_wp2_with fail
    refine ret_rn rfl rfl (blk_setRow hB3 (cl .u8 z)) lz rfl ⟨by rw [HZ.out], bel_setRow hbel (Nat.le_refl _) _⟩
theorem root {ns : List (List Nat)} {h : Nat} (hN : N16 ns) (hl : ns.length = 2 ^ h) (hh : h = 1 ∨ h = 2 ∨ h = 3) (w : World) (v : Value) (hv : SlN w v ns) :
    Calls Tryz.prog 54 #[v] w fun e w' => e = .returned (.tuple #[agg .u8 (rootN ns h), .int .i64 0]) ∧ Below w.heap.size w w' := by
  have hh8 : h ≤ 8 := by omega
  have C := Lib.hid (fun W hW => node hN hl hh8 h W v 0 (h : Int) 0 (Nat.le_refl _) (by rw [Nat.sub_self]; decide) rfl rfl hW)
  have HT := Lib.hid (fun W => height W h hh)
  have lr := rootN_length hN hl
  obtain ⟨r, hr⟩ : ∃ r, r = rootN ns h := ⟨_, rfl⟩
  have er : (row ns h).getD 0 [] = r := hr.symm
  rw [er] at C
  rw [← hr] at lr ⊢
  obtain ⟨A, c, rfl, -⟩ := id hv
  obtain ⟨n, hn⟩ : ∃ n, n = ns.length := ⟨_, rfl⟩
  rw [← hl] at HT
  rw [← hn] at C HT ⊢
  have HV := Lib.hid (show SlN w (.slice A n c) ns by rw [hn]; exact hv)
  have HB := Lib.hid (And.intro (blk_new w (cl .u8 (zs 16)) 93) ((Below.refl w.heap.size w).alloc (Nat.le_refl _) (.cells (cl .u8 (zs 16)).toArray 93)))
  clear hr er hv hl hn hh
  go_enter Tryz.func54, Tryz.ntmps54
  go_wp2_with fail
  refine (HT.out _).mono ?_
  rintro e w1 ⟨rfl, rfl⟩
  go_wp2_with fail
  refine (C.out _ (HV.out.keep ((Below.refl w.heap.size w).alloc (Nat.le_refl _) _))).mono ?_
  rintro e w1 ⟨rfl, hb1⟩
  have hB1 := blk_keep HB.out.1 hb1
  have hbel := bel_trans HB.out.2 hb1 HB.out.2.size
  have k1 := bk_of hB1
  clear hb1
  go_wp2_with fail
  refine ret2_rn rfl rfl rfl (blk_setRow hB1 (cl .u8 r)) lr rfl ⟨rfl, bel_setRow hbel (Nat.le_refl _) _⟩
end Go.Proofs.YtlgpipdeckdmjaaGreat.Rm
/-
  A region that draws its order, by a table: operation i writes slot b0 + i, a value of which Pv i holds; what holds only grows with the world. No program.
-/
set_option linter.unusedVariables false
set_option linter.unusedSimpArgs false
namespace Go.Proofs.YtlgpipdeckdmjaaGreat.Ord
open Go.RowKit
section
variable {P : Program}
/-- The slots ahead of the region's own. -/
structure Fix (b0 n : Nat) (base : Nat → Value) (a : Act) : Prop where
  defers : a.defers = []
  size : a.tmps.size = n
  slots : ∀ k, k < b0 → a.tmps.getD k undef = base k
theorem getD_set_other (t : Array Value) {d k : Nat} (v : Value) (h : k ≠ d) : (t.setIfInBounds d v).getD k undef = t.getD k undef := by
  simp only [Array.getD_eq_getD_getElem?]
  rw [Array.getElem?_setIfInBounds_ne (Ne.symm h)]
theorem getD_set_same (t : Array Value) {d : Nat} (v : Value) (h : d < t.size) : (t.setIfInBounds d v).getD d undef = v := by
  simp only [Array.getD_eq_getD_getElem?]
  rw [Array.getElem?_setIfInBounds_self_of_lt h]
  rfl
theorem Fix.put {b0 n : Nat} {base : Nat → Value} {a : Act} (h : Fix b0 n base a) {d : Nat} (hd : b0 ≤ d) (v : Value) : Fix b0 n base (a.put (some d) v) :=
  ⟨h.defers, by show (a.tmps.setIfInBounds d v).size = n; rw [Array.size_setIfInBounds, h.size], fun k hk => (getD_set_other a.tmps v (by omega)).trans (h.slots k hk)⟩
theorem Fix.get {b0 n : Nat} {base : Nat → Value} {a : Act} (h : Fix b0 n base a) {k : Nat} {v : Value} (hk : k < n) (hv : a.tmps.getD k undef = v) : a.tmps[k]? = some v := by
  rw [← hv, Array.getD_eq_getD_getElem?]
  have : k < a.tmps.size := by rw [h.size]; exact hk
  rw [Array.getElem?_eq_getElem this]
  rfl
theorem wp_region_tab {id : Nat} {Q : Exit → Act → World → Prop} {a : Act} {w : World} {l : List Oper} (n b0 N : Nat) (base : Nat → Value) (S : World → Prop) (Pv : Nat → Value → World → Prop) (hm : P.follows .mixedOrders = true)
    (hk : (Region.sinkB .any l.toArray n && Region.chainB .any l.toArray n && decide (n < l.toArray.size) && topoB .any l.toArray n && Region.seqB .any l.toArray (l.toArray.size - n) n (Array.replicate n true ++ Array.replicate (l.toArray.size - n) false)) = true)
    (hN : b0 + n ≤ N) (hS : S w.drew) (hF : Fix b0 N base a)
    (hmono : ∀ i v W W', S W → Below W.heap.size W W' → Pv i v W → Pv i v W')
    (hop : ∀ i o, i < n → l[i]? = some o → ∀ a w (K : Act → World → Prop), S w → Fix b0 N base a → (∀ e ∈ o.after, Region.binds .any e = true → Pv e.on (a.tmps.getD (b0 + e.on) undef) w) → (∀ v w', S w' → Below w.heap.size w w' → Pv i v w' → K (a.put (some (b0 + i)) v) w') → wpList P l.toArray (QK K Q) [o] a w)
    (htail : ∀ a w, S w → Fix b0 N base a → (∀ j, j < n → Pv j (a.tmps.getD (b0 + j) undef) w) → wpList P l.toArray Q (l.drop n) a w) : (Code.region id l.toArray true).wp P Q a w := by
  refine wp_region_inv n (fun a w => S w ∧ Fix b0 N base a) (fun j a w => Pv j (a.tmps.getD (b0 + j) undef) w) hm hk ⟨hS, hF⟩ ?_ (fun a w hB hG => htail a w hB.1 hB.2 hG)
  intro i o hi ho a w hB hG
  refine hop i o hi ho a w _ hB.1 hB.2 hG ?_
  intro v w' hS' hb hv
  refine ⟨⟨hS', hB.2.put (by omega) v⟩, ?_, ?_⟩
  · show Pv i ((a.tmps.setIfInBounds (b0 + i) v).getD (b0 + i) undef) w'
    rw [getD_set_same _ _ (by rw [hB.2.size]; omega)]
    exact hv
  · intro j hj hji hGj
    show Pv j ((a.tmps.setIfInBounds (b0 + i) v).getD (b0 + j) undef) w'
    rw [getD_set_other _ _ (by omega)]
    exact hmono j _ w w' hB.1 hb hGj
end
end Go.Proofs.YtlgpipdeckdmjaaGreat.Ord
/-
  A region that draws its order, by a table: operation i writes slot (ds i), a value of which Pv i holds; what holds only grows with the world; the other slots stay. No program.
-/
set_option linter.unusedVariables false
set_option linter.unusedSimpArgs false
namespace Go.Proofs.YtlgpipdeckdmjaaGreat.Ord
open Go.RowKit
section
variable {P : Program}
/-- The slots that the region does not write. -/
structure Fix2 (ds : List Nat) (base : List Value) (a : Act) : Prop where
  defers : a.defers = []
  size : a.tmps.size = base.length
  slots : ∀ k, k < base.length → k ∉ ds → a.tmps.getD k undef = base.getD k undef
theorem Fix2.put {ds : List Nat} {base : List Value} {a : Act} (h : Fix2 ds base a) {d : Nat} (hd : d ∈ ds) (v : Value) : Fix2 ds base (a.put (some d) v) :=
  ⟨h.defers, by show (a.tmps.setIfInBounds d v).size = _; rw [Array.size_setIfInBounds, h.size], fun k hk hn => (getD_set_other a.tmps v (fun e => hn (by rw [e]; exact hd))).trans (h.slots k hk hn)⟩
theorem Fix2.get {ds : List Nat} {base : List Value} {a : Act} (h : Fix2 ds base a) {k : Nat} {v : Value} (hk : k < base.length) (hv : a.tmps.getD k undef = v) : a.tmps[k]? = some v := by
  rw [← hv, Array.getD_eq_getD_getElem?]
  have : k < a.tmps.size := by rw [h.size]; exact hk
  rw [Array.getElem?_eq_getElem this]
  rfl
theorem Fix2.start (ds : List Nat) (base : List Value) : Fix2 ds base { tmps := base.toArray, defers := [] } :=
  ⟨rfl, by simp, fun k hk _ => by simp [Array.getD_eq_getD_getElem?, List.getD_eq_getElem?_getD]⟩
theorem frame_of {a : Act} {L : List Value} (hd : a.defers = []) (hs : a.tmps.size = L.length) (h : ∀ k, k < L.length → a.tmps.getD k undef = L.getD k undef) : a = { tmps := L.toArray, defers := [] } := by
  obtain ⟨t, d⟩ := a
  obtain rfl : d = [] := hd
  have : t = L.toArray := by
    apply Array.ext
    · simpa using hs
    · intro k h1 h2
      have h3 : k < L.length := by simpa using h2
      have := h k h3
      rw [Array.getD_eq_getD_getElem?, Array.getElem?_eq_getElem h1, List.getD_eq_getElem?_getD, List.getElem?_eq_getElem h3] at this
      simpa using this
  rw [this]
theorem wp_region_tab2 {id : Nat} {Q : Exit → Act → World → Prop} {w : World} {l : List Oper} (n : Nat) (ds : List Nat) (base : List Value) (S : World → Prop) (Pv : Nat → Value → World → Prop) (hm : P.follows .mixedOrders = true)
    (hk : (Region.sinkB .any l.toArray n && Region.chainB .any l.toArray n && decide (n < l.toArray.size) && topoB .any l.toArray n && Region.seqB .any l.toArray (l.toArray.size - n) n (Array.replicate n true ++ Array.replicate (l.toArray.size - n) false)) = true)
    (hds : (decide (ds.length = n) && decide ds.Nodup && ds.all (fun d => decide (d < base.length))) = true) (hS : S w.drew)
    (hmono : ∀ i v W W', S W → Below W.heap.size W W' → Pv i v W → Pv i v W')
    (hop : ∀ i o, i < n → l[i]? = some o → ∀ a w (K : Act → World → Prop), S w → Fix2 ds base a → (∀ e ∈ o.after, Region.binds .any e = true → Pv e.on (a.tmps.getD (ds.getD e.on 0) undef) w) → (∀ v w', S w' → Below w.heap.size w w' → Pv i v w' → K (a.put (some (ds.getD i 0)) v) w') → wpList P l.toArray (QK K Q) [o] a w)
    (htail : ∀ a w, S w → Fix2 ds base a → (∀ j, j < n → Pv j (a.tmps.getD (ds.getD j 0) undef) w) → wpList P l.toArray Q (l.drop n) a w) : (Code.region id l.toArray true).wp P Q { tmps := base.toArray, defers := [] } w := by
  simp only [Bool.and_eq_true, decide_eq_true_eq, List.all_eq_true] at hds
  obtain ⟨⟨hl, hnd⟩, hb⟩ := hds
  have hmem : ∀ j, j < n → ds.getD j 0 ∈ ds := fun j hj => by
    rw [List.getD_eq_getElem?_getD, List.getElem?_eq_getElem (by omega)]
    exact List.getElem_mem _
  refine wp_region_inv n (fun a w => S w ∧ Fix2 ds base a) (fun j a w => Pv j (a.tmps.getD (ds.getD j 0) undef) w) hm hk ⟨hS, Fix2.start _ _⟩ ?_ (fun a w hB hG => htail a w hB.1 hB.2 hG)
  intro i o hi ho a w hB hG
  refine hop i o hi ho a w _ hB.1 hB.2 hG ?_
  intro v w' hS' hb' hv
  refine ⟨⟨hS', hB.2.put (hmem i hi) v⟩, ?_, ?_⟩
  · show Pv i ((a.tmps.setIfInBounds (ds.getD i 0) v).getD (ds.getD i 0) undef) w'
    rw [getD_set_same _ _ (by rw [hB.2.size]; exact hb _ (hmem i hi))]
    exact hv
  · intro j hj hji hGj
    show Pv j ((a.tmps.setIfInBounds (ds.getD i 0) v).getD (ds.getD j 0) undef) w'
    have hne : ds.getD j 0 ≠ ds.getD i 0 := fun e => by
      rw [List.getD_eq_getElem?_getD, List.getD_eq_getElem?_getD, List.getElem?_eq_getElem (by omega), List.getElem?_eq_getElem (by omega)] at e
      have e : ds[j]'(by omega) = ds[i]'(by omega) := by simpa using e
      have hp := List.pairwise_iff_getElem.1 hnd
      rcases Nat.lt_or_gt_of_ne hji with h | h
      · exact hp j i (by omega) (by omega) h e
      · exact hp i j (by omega) (by omega) h e.symm
    rw [getD_set_other _ _ hne]
    exact hmono j _ w w' hB.1 hb' hGj
end
end Go.Proofs.YtlgpipdeckdmjaaGreat.Ord
/-
  signer: the checks of keys and signatures.
-/
set_option linter.unusedVariables false
set_option linter.unusedSimpArgs false
namespace Go.Proofs.YtlgpipdeckdmjaaGreat.Sgn
open Go.RowKit Base Reg Types Slice Sha
open Go.Proofs.YtlgpipdeckdmjaaGreat.One
open Go.Proofs.YtlgpipdeckdmjaaGreat.Str
open Go.Proofs.YtlgpipdeckdmjaaGreat.Mer
section
variable {P : Program} {t : TypeId} {b n : Nat} {w : World} {cs : Array Value}
theorem stGot_sec {s : List Nat} {h : Int} (hc : cs.size = n) (hl : s.length + 1 = n) : stGot P t b n (.agg (secV s h).toArray) w (some cs) = .ok () (w.setRow b (secV s h).toArray) := stGot_agg hc (by rw [secV_size, hl]) (secV_all s h)
theorem stGot_pub {h : Int} {r : List Nat} (hc : cs.size = n) (hl : r.length + 1 = n) : stGot P t b n (.agg (pubV h r).toArray) w (some cs) = .ok () (w.setRow b (pubV h r).toArray) := stGot_agg hc (by rw [pubV_size, hl]) (pubV_all h r)
theorem stGot_sig {l : Int} {c : List Nat} {A : Option Addr} {m k : Nat} (hc : cs.size = n) (hl : c.length + 2 = n) : stGot P t b n (.agg (sigV l c (.slice A m k)).toArray) w (some cs) = .ok () (w.setRow b (sigV l c (.slice A m k)).toArray) := stGot_agg hc (by rw [sigV_size, hl]) (sigV_all l c A m k)
end
attribute [go_sem] secV_length pubV_length sigV_length sgrV_length stGot_sec stGot_pub stGot_sig
theorem height_in (w : World) (n : Int) (h1 : 1 ≤ n) (h2 : n ≤ 8) : Calls Tryz.prog 48 #[.int .i64 n] w fun e w' => e = .returned (.int .i64 0) ∧ w = w' := by
  go_enter Tryz.func48, Tryz.ntmps48
  go_wp2
  go_ret
  exact ⟨rfl, rfl⟩
theorem height_out (w : World) (n : Int) (h : ¬ (1 ≤ n ∧ n ≤ 8)) : Calls Tryz.prog 48 #[.int .i64 n] w fun e w' => e = .returned (.int .i64 2) ∧ w = w' := by
  by_cases h1 : n < 1
  · go_enter Tryz.func48, Tryz.ntmps48
    go_wp2
    go_ret
    exact ⟨rfl, rfl⟩
  · have h2 : 8 < n := by omega
    clear h
    go_enter Tryz.func48, Tryz.ntmps48
    go_wp2
    go_ret
    exact ⟨rfl, rfl⟩
theorem pub_cell0 {W : World} {g : Nat} {h : Int} {r : List Nat} {t : TypeId} (hB : blk W g (pubV h r) t) : W.cell? ⟨g, 0, none⟩ = some (.int .i64 h) := (blk_cell hB 0).trans rfl
theorem sig_leaf {W : World} {g : Nat} {l : Int} {c : List Nat} {p : Value} {t : TypeId} (hB : blk W g (sigV l c p) t) : W.cell? ⟨g, 0, none⟩ = some (.int .i64 l) := (blk_cell hB 0).trans rfl
theorem sig_path {W : World} {g : Nat} {l : Int} {c : List Nat} {p : Value} {t : TypeId} (hc : c.length = 560) (hB : blk W g (sigV l c p) t) : W.cell? ⟨g, 561, none⟩ = some p := by
  rw [blk_cell hB, sigV, List.getElem?_cons_succ, List.getElem?_append_right (by rw [cl_length]; omega), cl_length, hc]
  rfl
theorem secret_check (w : World) (seed : List Nat) (h : Int) (hs : seed.length = 32) (h1 : 1 ≤ h) (h2 : h ≤ 8) :
    Calls Tryz.prog 26 #[.agg (secV seed h).toArray] w fun e w' => e = .returned (.int .i64 0) ∧ Below w.heap.size w w' := by
  have q := sec_height hs (blk_new w (secV seed h) 27)
  go_enter Tryz.func26, Tryz.ntmps26
  go_wp2_with fail
  refine (height_in _ h h1 h2).mono ?_
  rintro e w1 ⟨rfl, rfl⟩
  go_wp2_with fail
  go_ret
  exact ⟨rfl, (Below.refl w.heap.size w).alloc (Nat.le_refl _) _⟩
theorem secret_check_out (w : World) (seed : List Nat) (h : Int) (hs : seed.length = 32) (ho : ¬ (1 ≤ h ∧ h ≤ 8)) :
    Calls Tryz.prog 26 #[.agg (secV seed h).toArray] w fun e w' => e = .returned (.int .i64 2) ∧ Below w.heap.size w w' := by
  have q := sec_height hs (blk_new w (secV seed h) 27)
  have HO := Lib.hid ho
  clear ho
  go_enter Tryz.func26, Tryz.ntmps26
  go_wp2_with fail
  refine (height_out _ h HO.out).mono ?_
  rintro e w1 ⟨rfl, rfl⟩
  go_wp2_with fail
  go_ret
  exact ⟨rfl, (Below.refl w.heap.size w).alloc (Nat.le_refl _) _⟩
theorem public_check (w : World) (r : List Nat) (h : Int) (h1 : 1 ≤ h) (h2 : h ≤ 8) :
    Calls Tryz.prog 25 #[.agg (pubV h r).toArray] w fun e w' => e = .returned (.int .i64 0) ∧ Below w.heap.size w w' := by
  have q := pub_cell0 (blk_new w (pubV h r) 39)
  go_enter Tryz.func25, Tryz.ntmps25
  go_wp2_with fail
  refine (height_in _ h h1 h2).mono ?_
  rintro e w1 ⟨rfl, rfl⟩
  go_wp2_with fail
  go_ret
  exact ⟨rfl, (Below.refl w.heap.size w).alloc (Nat.le_refl _) _⟩
theorem public_check_out (w : World) (r : List Nat) (h : Int) (ho : ¬ (1 ≤ h ∧ h ≤ 8)) :
    Calls Tryz.prog 25 #[.agg (pubV h r).toArray] w fun e w' => e = .returned (.int .i64 2) ∧ Below w.heap.size w w' := by
  have q := pub_cell0 (blk_new w (pubV h r) 39)
  have HO := Lib.hid ho
  clear ho
  go_enter Tryz.func25, Tryz.ntmps25
  go_wp2_with fail
  refine (height_out _ h HO.out).mono ?_
  rintro e w1 ⟨rfl, rfl⟩
  go_wp2_with fail
  go_ret
  exact ⟨rfl, (Below.refl w.heap.size w).alloc (Nat.le_refl _) _⟩
set_option maxRecDepth 20000 in
theorem sig_check (w : World) (l : Int) (ch : List Nat) (A : Option Addr) (n c : Nat) (hc : ch.length = 560) (h1 : 1 ≤ n) (h2 : n ≤ 8) (h3 : 0 ≤ l) (h4 : l < 2 ^ n) :
    Calls Tryz.prog 19 #[.agg (sigV l ch (.slice A n c)).toArray] w fun e w' => e = .returned (.int .i64 0) ∧ Below w.heap.size w w' := by
  obtain ⟨ι, F, hF, hin⟩ := class_of (fun W => blk W w.heap.size (sigV l ch (.slice A n c)) 31 ∧ Below w.heap.size w W)
  have h0 := hin (w.alloc (.cells (sigV l ch (.slice A n c)).toArray 31)).drew ⟨blk_drew (blk_new _ _ _), ((Below.refl _ _).alloc (Nat.le_refl _) _).drew⟩
  have hne : Nonempty ι := ⟨h0.choose⟩
  have q0 : ∀ i, (F i).cell? ⟨w.heap.size, 0, none⟩ = some (.int .i64 l) := fun i => sig_leaf (hF i).1
  have q1 : ∀ i, (F i).cell? ⟨w.heap.size, 561, none⟩ = some (.slice A n c) := fun i => sig_path hc (hF i).1
  have p8' : (2 : Int) ^ n ≤ 256 := by
    have p8 : 2 ^ n ≤ 2 ^ 8 := Nat.pow_le_pow_right (by omega) h2
    exact_mod_cast p8
  have h5 : decide (l < 0) = false := by simp; omega
  have h6 : decide ((2 : Int) ^ n ≤ l) = false := by simp; omega
  have HF := Lib.hid hF
  have HI := Lib.hid hin
  have HH := Lib.hid h0
  clear hF hin h0
  go_enter Tryz.func19, Tryz.ntmps19
  go_wp2_with fail
  refine wp_region_all F (by kernel_rfl) (by kernel_rfl) HH.out ?_
  repeat (go_big_quiet_step ((go_at_call 48; exact quiet_still (height_in _ (n : Int) (by omega) (by omega)))))
  refine wpQuiet_nil ?_
  intro i
  go_wp2_with fail
  go_ret
  exact ⟨rfl, (HF.out i).2⟩
set_option maxRecDepth 20000 in
theorem sig_check_out (w : World) (l : Int) (ch : List Nat) (A : Option Addr) (n c : Nat) (hc : ch.length = 560) (ho : ¬ ((1 ≤ n ∧ n ≤ 8) ∧ 0 ≤ l ∧ l < 2 ^ n)) :
    Calls Tryz.prog 19 #[.agg (sigV l ch (.slice A n c)).toArray] w fun e w' => e = .returned (.int .i64 2) ∧ Below w.heap.size w w' := by
  obtain ⟨ι, F, hF, hin⟩ := class_of (fun W => blk W w.heap.size (sigV l ch (.slice A n c)) 31 ∧ Below w.heap.size w W)
  have h0 := hin (w.alloc (.cells (sigV l ch (.slice A n c)).toArray 31)).drew ⟨blk_drew (blk_new _ _ _), ((Below.refl _ _).alloc (Nat.le_refl _) _).drew⟩
  have hne : Nonempty ι := ⟨h0.choose⟩
  have q0 : ∀ i, (F i).cell? ⟨w.heap.size, 0, none⟩ = some (.int .i64 l) := fun i => sig_leaf (hF i).1
  have q1 : ∀ i, (F i).cell? ⟨w.heap.size, 561, none⟩ = some (.slice A n c) := fun i => sig_path hc (hF i).1
  have HF := Lib.hid hF
  have HI := Lib.hid hin
  have HH := Lib.hid h0
  have HO := Lib.hid ho
  clear hF hin h0 ho
  by_cases hn : 1 ≤ n ∧ n ≤ 8
  · have p8' : (2 : Int) ^ n ≤ 256 := by
      have p8 : 2 ^ n ≤ 2 ^ 8 := Nat.pow_le_pow_right (by omega) hn.2
      exact_mod_cast p8
    have p9 : (0 : Int) ≤ 2 ^ n := Int.le_of_lt (Int.pow_pos (by decide))
    by_cases hl : l < 0
    · have h5 : decide (l < 0) = true := by simp; omega
      clear hl
      go_enter Tryz.func19, Tryz.ntmps19
      go_wp2_with fail
      refine wp_region_all F (by kernel_rfl) (by kernel_rfl) HH.out ?_
      repeat (go_big_quiet_step ((go_at_call 48; exact quiet_still (height_in _ (n : Int) (by omega) (by omega)))))
      refine wpQuiet_nil ?_
      intro i
      go_wp2_with fail
      go_ret
      exact ⟨rfl, (HF.out i).2⟩
    · have h5 : decide (l < 0) = false := by simp; omega
      have h6 : decide ((2 : Int) ^ n ≤ l) = true := by
        have := HO.out
        simp
        omega
      clear hl
      go_enter Tryz.func19, Tryz.ntmps19
      go_wp2_with fail
      refine wp_region_all F (by kernel_rfl) (by kernel_rfl) HH.out ?_
      repeat (go_big_quiet_step ((go_at_call 48; exact quiet_still (height_in _ (n : Int) (by omega) (by omega)))))
      refine wpQuiet_nil ?_
      intro i
      go_wp2_with fail
      go_ret
      exact ⟨rfl, (HF.out i).2⟩
  · go_enter Tryz.func19, Tryz.ntmps19
    have HN := Lib.hid hn
    clear hn
    go_wp2_with fail
    refine wp_region_all F (by kernel_rfl) (by kernel_rfl) HH.out ?_
    repeat (go_big_quiet_step ((go_at_call 48; exact quiet_still (height_out _ (n : Int) (by have := HN.out; omega)))))
    refine wpQuiet_nil ?_
    intro i
    go_wp2_with fail
    go_ret
    exact ⟨rfl, (HF.out i).2⟩
end Go.Proofs.YtlgpipdeckdmjaaGreat.Sgn
/-
  signer: the public key of a secret key; its bytes.
-/
set_option linter.unusedVariables false
set_option linter.unusedSimpArgs false
namespace Go.Proofs.YtlgpipdeckdmjaaGreat.Sgn
open Go.RowKit Base Reg Types Slice Sha
open Go.Proofs.YtlgpipdeckdmjaaGreat.One
open Go.Proofs.YtlgpipdeckdmjaaGreat.Str
open Go.Proofs.YtlgpipdeckdmjaaGreat.Mer
def leavesN (seed : List Nat) (h : Nat) : List (List Nat) := lv0 (nodeF seed) (2 ^ h)
theorem leavesN_length (seed : List Nat) (h : Nat) : (leavesN seed h).length = 2 ^ h := lv0_length _ _
theorem leavesN_16 (seed : List Nat) (h : Nat) : N16 (leavesN seed h) := lv0_16 (nodeF_length seed) _
/-- The root of a key. -/
def keyRoot (seed : List Nat) (h : Nat) : List Nat := rootN (leavesN seed h) h
theorem keyRoot_length (seed : List Nat) (h : Nat) : (keyRoot seed h).length = 16 := rootN_length (leavesN_16 seed h) (leavesN_length seed h)
set_option maxRecDepth 20000 in
theorem secret_public (w : World) (seed : List Nat) (h : Nat) (hs : seed.length = 32) (hh : h = 1 ∨ h = 2 ∨ h = 3) :
    Calls Tryz.prog 12 #[.agg (secV seed (h : Int)).toArray] w fun e w' => e = .returned (.tuple #[.agg (pubV (h : Int) (keyRoot seed h)).toArray, .int .i64 0]) ∧ Below w.heap.size w w' := by
  obtain ⟨R, hR⟩ : ∃ R, R = keyRoot seed h := ⟨_, rfl⟩
  have lR : R.length = 16 := by rw [hR]; exact keyRoot_length _ _
  have c1 := Lib.hid fun W => secret_check W seed (h : Int) hs (by omega) (by omega)
  have c2 := Lib.hid fun W => tree W seed h hs hh
  have c3 : Hid (∀ W x base, OwnN 81 W base x (leavesN seed h) → Calls Tryz.prog 39 #[x] W fun e w' => e = .returned (.tuple #[agg .u8 R, .int .i64 0]) ∧ Below W.heap.size W w') := Lib.hid fun W x base ho => by
    rw [hR]
    exact mroot W x (leavesN seed h) h (SlC.of_own ho) (leavesN_16 seed h) (leavesN_length seed h) (by omega)
  have HR := Lib.hid hR
  rw [← hR]
  clear hR
  obtain ⟨W0, hW0⟩ : ∃ W0, W0 = (w.alloc (.cells (secV seed (h : Int)).toArray 27)).alloc (.cells (pubV 0 (zs 16)).toArray 39) := ⟨_, rfl⟩
  have b0 : blk W0 w.heap.size (secV seed (h : Int)) 27 := by rw [hW0]; exact blk_alloc (blk_new _ _ _) _
  have b1 : blk W0 (w.heap.size + 1) (pubV 0 (zs 16)) 39 := by rw [hW0]; exact blk_at _ _ _ (by simp only [alloc_size])
  have bl : Below w.heap.size w W0 := by rw [hW0]; exact ((Below.refl w.heap.size w).alloc (Nat.le_refl _) _).alloc (by simp only [alloc_size]; omega) _
  have S0 := Lib.hid (And.intro b0 (And.intro b1 bl))
  have HW := Lib.hid hW0
  clear b0 b1 bl hW0
  go_enter Tryz.func12, Tryz.ntmps12
  go_wp2_with fail
  rw [← HW.out]
  refine (c1.out _).mono ?_
  rintro e w1 ⟨rfl, hb1⟩
  have S1 := Lib.hid (And.intro (blk_keep S0.out.1 hb1) (And.intro (blk_keep S0.out.2.1 hb1) (bel_trans S0.out.2.2 hb1 S0.out.2.2.size)))
  have k1 := bk_of S1.out.1
  clear hb1
  go_wp2_with fail
  refine (c2.out _).mono ?_
  rintro e w2 ⟨x, rfl, ho2, hb2⟩
  have HO2 := Lib.hid ho2
  have S2 := Lib.hid (And.intro (blk_keep S1.out.1 hb2) (And.intro (blk_keep S1.out.2.1 hb2) (bel_trans S1.out.2.2 hb2 S1.out.2.2.size)))
  clear hb2 k1 ho2
  go_wp2_with fail
  refine (c3.out _ x _ HO2.out).mono ?_
  rintro e w3 ⟨rfl, hb3⟩
  have S3 := Lib.hid (And.intro (blk_keep S2.out.1 hb3) (And.intro (blk_keep S2.out.2.1 hb3) (bel_trans S2.out.2.2 hb3 S2.out.2.2.size)))
  have q3 := (blk_cell (blk_alloc S3.out.1 (.cells (cl .u8 R).toArray 81)) 32).symm.trans (blk_cell (blk_alloc S3.out.1 (.cells (cl .u8 R).toArray 81)) 32)
  have q4 := sec_height hs (blk_alloc S3.out.1 (.cells (cl .u8 R).toArray 81))
  have k3 := bk_of S3.out.2.1
  have lt3 := blk_lt S3.out.2.1
  have lt4 := blk_lt S3.out.1
  clear hb3 q3
  go_wp2_with fail
  have hb4 := bel_setRow S3.out.2.2 (by omega : w.heap.size ≤ w.heap.size + 1) (pubV (h : Int) R).toArray
  refine ret2_pub rfl rfl rfl (blk_alloc (blk_setRow S3.out.2.1 (pubV (h : Int) R)) _) (by rw [pubV_length, lR]) rfl ⟨rfl, hb4.alloc hb4.size _⟩
/-- The bytes of a public key. -/
def pubB (h : Nat) (r : List Nat) : List Nat := h % 256 :: r
set_option maxRecDepth 20000 in
theorem pub_bytes (w : World) (r : List Nat) (h : Nat) (hr : r.length = 16) (hh : h ≤ 255) :
    Calls Tryz.prog 53 #[.agg (pubV (h : Int) r).toArray] w fun e w' => ∃ v, e = .returned v ∧ Own w' w.heap.size v (pubB h r) ∧ Below w.heap.size w w' := by
  have hB := blk_new w (pubV (h : Int) r) 39
  have q := pub_cell0 (blk_drew hB)
  have q2 := pub_cell0 (blk_drew (blk_alloc hB (.cells #[.int .u8 (IntKind.u8.wrap (h : Int))] 5)))
  have eh : (#[.int .u8 (IntKind.u8.wrap (h : Int))] : Array Value) = (cl .u8 [h % 256]).toArray := by rw [Ref.wrap_u8]; rfl
  have ho : Own ((w.alloc (.cells (pubV (h : Int) r).toArray 39)).alloc (.cells #[.int .u8 (IntKind.u8.wrap (h : Int))] 5)).drew w.heap.size (.slice (some ⟨w.heap.size + 1, 0, none⟩) 1 1) [h % 256] := by
    rw [eh]
    have h1 := own_bytes (w.alloc (.cells (pubV (h : Int) r).toArray 39)) [h % 256] (by simp)
    have h2 := own_keep h1 (Below.refl _ _).drew
    rw [alloc_size] at h2
    exact own_mono h2 (by omega)
  have hs : Sl ((w.alloc (.cells (pubV (h : Int) r).toArray 39)).alloc (.cells #[.int .u8 (IntKind.u8.wrap (h : Int))] 5)).drew (.slice (some ⟨w.heap.size, 1, none⟩) 16 16) r := by
    have h1 := SlC.of_blk (n := 16) (size := 1) (c := 16) (o := 1) (xs := cl .u8 r) (blk_drew (blk_alloc hB (.cells #[.int .u8 (IntKind.u8.wrap (h : Int))] 5))) (Nat.le_refl _) (by rw [cl_length, hr]) (fun j u hj => by
      rw [Nat.add_comm, pubV, List.getElem?_cons_succ]; exact hj)
    unfold Sl
    rw [hr]
    exact h1
  have HO := Lib.hid ho
  have HS := Lib.hid hs
  have HLE : Hid (([h % 256] : List Nat).length + r.length ≤ 1099511627776) := Lib.hid (by rw [hr, List.length_singleton]; omega)
  have hb : Below w.heap.size w ((w.alloc (.cells (pubV (h : Int) r).toArray 39)).alloc (.cells #[.int .u8 (IntKind.u8.wrap (h : Int))] 5)).drew := (((Below.refl w.heap.size w).alloc (Nat.le_refl _) _).alloc (by simp only [alloc_size]; omega) _).drew
  have HB := Lib.hid hb
  clear hB eh ho hs hb
  go_enter Tryz.func53, Tryz.ntmps53
  go_wp2_with fail
  go_region_law (first
    | (refine Law.step_append_bytes rfl (.tmp 6) (.tmp 8) rfl (base := w.heap.size) (l := [h % 256]) (m := r) rfl rfl HO.out HS.out HLE.out HB.out.size ?_
       intro v2 w2 ho2 hg2
       have hb2 := HB.out.grown hg2 HB.out.size (fun k hk => own_block HO.out k hk)
       have HO2 := Lib.hid ho2
       have HB2 := Lib.hid hb2
       clear ho2 hg2 hb2)
    | fail)
  all_goals
    go_wp2_with fail
    go_ret
    exact ⟨_, rfl, HO2.out, HB2.out⟩
end Go.Proofs.YtlgpipdeckdmjaaGreat.Sgn
