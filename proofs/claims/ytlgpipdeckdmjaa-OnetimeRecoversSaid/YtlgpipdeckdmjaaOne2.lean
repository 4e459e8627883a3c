/-
  onetime: the hash of a tag, a leaf and further bytes; the first value and the next value of a chain.
-/
import Derived.Test.YtlgpipdeckdmjaaOne1
set_option linter.unusedVariables false
set_option linter.unusedSimpArgs false
namespace Go.Proofs.Ytlgpipdeckdmjaa.One
open Go.RowKit Base Reg Types Slice Sha
theorem take_flat (ls : List (List Nat)) (k : Nat) : (ls.take (k + 1)).flatten = (ls.take k).flatten ++ ls.getD k [] := by
  rw [List.take_add_one, List.flatten_append, List.getD_eq_getElem?_getD]
  cases ls[k]? <;> simp
theorem take_flat_le (ls : List (List Nat)) : ∀ k, (ls.take k).flatten.length ≤ ls.flatten.length := by
  induction ls with
  | nil => simp
  | cons a l ih =>
    intro k
    cases k with
    | zero => simp
    | succ k => have := ih k; simp at this ⊢; omega
set_option maxRecDepth 20000 in
set_option maxHeartbeats 4000000 in
theorem hash (w : World) (tag leaf b o c : Nat) (n : Nat) (vs : List Value) (ls : List (List Nat)) (hn : n = vs.length) (hnl : n = ls.length) (hlt : b < w.heap.size) (hn63 : n ≤ 1000000)
    (hv : ∀ k, k < n → w.cell? ⟨b, o + k, none⟩ = some (vs.getD k undef)) (hl : ∀ k, k < n → Sl w (vs.getD k undef) (ls.getD k [])) (hm : ls.flatten.length ≤ 999000) (hleaf : leaf ≤ 4294967295) (htag : tag < 256) :
    Calls Try.prog 88 #[.int .u8 (tag : Int), .int .i64 (leaf : Int), .slice (some ⟨b, o, none⟩) n c] w fun e w' => e = .returned (agg .u8 (hf (hd tag leaf ++ ls.flatten))) ∧ Below w.heap.size w w' := by
  have HV := Lib.hid hv
  have HL := Lib.hid hl
  have HM := Lib.hid hm
  have HN := Lib.hid hnl
  clear hv hl hm hn hnl
  go_enter Try.func88, Try.ntmps88
  go_wp2_with fail
  have ehd : (#[.int .u8 (tag : Int), .int .u8 ((leaf : Int) / 16777216), .int .u8 ((leaf : Int) / 65536 % 256), .int .u8 ((leaf : Int) / 256 % 256), .int .u8 ((leaf : Int) % 256)] : Array Value) = (cl .u8 (hd tag leaf)).toArray := by
    have h1 : (leaf : Int) / 16777216 = ((leaf / 16777216 % 256 : Nat) : Int) := by omega
    have h2 : (leaf : Int) / 65536 % 256 = ((leaf / 65536 % 256 : Nat) : Int) := by omega
    have h3 : (leaf : Int) / 256 % 256 = ((leaf / 256 % 256 : Nat) : Int) := by omega
    have h4 : (leaf : Int) % 256 = ((leaf % 256 : Nat) : Int) := by omega
    rw [h1, h2, h3, h4]
    rfl
  rw [ehd]
  clear ehd
  have ho0 : Own ((w.alloc (.cells (cl .u8 (zs 16)).toArray 22)).alloc (.cells (cl .u8 (hd tag leaf)).toArray 5)) (w.heap.size + 1) (.slice (some ⟨w.heap.size + 1, 0, none⟩) 5 5) (hd tag leaf) := by
    have h := own_bytes (w.alloc (.cells (cl .u8 (zs 16)).toArray 22)) (hd tag leaf) (by simp [hd])
    rw [alloc_size] at h
    exact h
  have hB := blk_alloc (blk_new w (cl .u8 (zs 16)) 22) (.cells (cl .u8 (hd tag leaf)).toArray 5)
  have hbel := (((Below.refl w.heap.size w).alloc (Nat.le_refl _) (.cells (cl .u8 (zs 16)).toArray 22)).alloc (by simp only [alloc_size]; omega) (.cells (cl .u8 (hd tag leaf)).toArray 5))
  go_loopw [7, 25] (fun v i wr => ∃ k : Nat, k ≤ n ∧ i = .int .i64 k ∧ Own wr (w.heap.size + 1) v (hd tag leaf ++ (ls.take k).flatten) ∧ blk wr w.heap.size (cl .u8 (zs 16)) 22 ∧ Below w.heap.size w wr ∧ w.heap.size + 1 ≤ wr.heap.size) (fun _ i _ => n - (intOf i).toNat)
  case atStart => exact ⟨0, by omega, rfl, by simpa using ho0, hB, hbel, by simp only [alloc_size]; omega⟩
  case round =>
    clear ho0 hB hbel
    obtain ⟨k, hk, rfl, ho, hB, hb, hsz⟩ := hrel
    by_cases hkn : k < n
    · have hcell := (hb.cell (p := ⟨b, o + k, none⟩) hlt).trans (HV.out k hkn)
      have hsl := (HL.out k hkn).keep hb
      obtain ⟨L, hL⟩ : ∃ L, L = hd tag leaf ++ (ls.take k).flatten := ⟨_, rfl⟩
      rw [← hL] at ho
      have hle : L.length + (ls.getD k []).length ≤ 1000000 := by
        have h1 := take_flat_le ls (k + 1)
        rw [take_flat, List.length_append] at h1
        have h2 := HM.out
        rw [hL, List.length_append]
        simp only [hd, List.length_cons, List.length_nil]
        omega
      obtain ⟨u, hu⟩ : ∃ u, u = vs.getD k undef := ⟨_, rfl⟩
      rw [← hu] at hcell hsl
      have HO := Lib.hid ho
      have HS := Lib.hid hsl
      have HB := Lib.hid hB
      have HE := Lib.hid hle
      have HLL := Lib.hid hL
      obtain ⟨Au, cu, rfl, -⟩ := id hsl
      clear ho hsl hB hle hL hu
      go_wp2_with (
        at_builtin
        refine wpList_append_bytes rfl (.tmp 29) (.tmp 30) rfl rfl rfl HO.out HS.out (by have := HE.out; omega) hsz ?_
        intro v1 w2 ho1 hg1)
      have hb2 := hb.grown hg1 hb.size (fun k hk => by have := own_block HO.out k (by simpa [Act.eval] using hk); omega)
      have hB2 := blk_grown HB.out hg1 (by intro e; have := own_block HO.out w.heap.size (by simpa [Act.eval] using e.symm); omega)
      have hs2 := hg1.size
      clear hg1
      go_roundw
      case rel =>
        refine ⟨k + 1, by omega, by go_num, ?_, hB2, hb2, by omega⟩
        rw [take_flat, ← List.append_assoc, ← HLL.out]
        exact ho1
      case measure => simp [intOf]; omega
    · obtain rfl : k = n := by omega
      rw [HN.out, List.take_length] at ho
      have hle : (hd tag leaf ++ ls.flatten).length ≤ 1000000 := by
        have h2 := HM.out
        rw [List.length_append]
        simp only [hd, List.length_cons, List.length_nil]
        omega
      have HS := Lib.hid (SlC.of_own ho)
      have HB := Lib.hid hB
      clear ho hB
      go_wp2_with fail
      refine (sumHalf wr _ _ HS.out hle).mono ?_
      rintro e w3 ⟨rfl, hb3⟩
      have hB3 := blk_keep HB.out hb3
      have hk3 := bk_of hB3
      have hfl := hf_length (hd tag leaf ++ ls.flatten)
      have hbel3 := bel_trans hb hb3 hb.size
      clear hb3
      go_wp2_with fail
      refine ret_b16 rfl rfl (blk_setRow hB3 (cl .u8 (hf (hd tag leaf ++ ls.flatten)))) hfl rfl ⟨rfl, bel_setRow hbel3 (Nat.le_refl _) _⟩
theorem sl_blk {w : World} {b o m c : Nat} {l l' : List Nat} {t : TypeId} (h : blk w b (cl .u8 l) t) (hm : m = l'.length) (hmc : m ≤ c) (hl : ∀ j, j < l'.length → (cl .u8 l)[o + j]? = some (.int .u8 ((l'.getD j 0 : Nat) : Int))) : Sl w (.slice (some ⟨b, o, none⟩) m c) l' := by
  subst hm
  refine SlC.of_blk h hmc (by rw [cl_length, Nat.mul_one]) (fun j u hj => ?_)
  have hjl : j < l'.length := by
    have := (List.getElem?_eq_some_iff.1 hj).1
    rwa [cl_length] at this
  rw [cl_get _ _ _ hjl] at hj
  rw [← hj]
  exact hl j hjl
theorem sl_whole {w : World} {b m c : Nat} {l : List Nat} {t : TypeId} (h : blk w b (cl .u8 l) t) (hm : m = l.length) (hmc : m ≤ c) : Sl w (.slice (some ⟨b, 0, none⟩) m c) l :=
  sl_blk h hm hmc (fun j hj => by rw [Nat.zero_add]; exact cl_get _ _ _ hj)
theorem hash2 {w : World} {tag leaf b : Nat} {v1 v2 : Value} {l1 l2 : List Nat} {t : TypeId} (hB : blk w b [v1, v2] t) (h1 : Sl w v1 l1) (h2 : Sl w v2 l2) (hm : l1.length + l2.length ≤ 999000) (hleaf : leaf ≤ 4294967295) (htag : tag < 256) :
    Calls Try.prog 88 #[.int .u8 (tag : Int), .int .i64 (leaf : Int), .slice (some ⟨b, 0, none⟩) 2 2] w fun e w' => e = .returned (agg .u8 (hf (hd tag leaf ++ (l1 ++ l2)))) ∧ Below w.heap.size w w' := by
  have h := hash w tag leaf b 0 2 2 [v1, v2] [l1, l2] rfl rfl (blk_lt hB) (by omega) (fun k hk => by
      rw [Nat.zero_add, blk_cell hB]
      match k, hk with
      | 0, _ => rfl
      | 1, _ => rfl) (fun k hk => by
      match k, hk with
      | 0, _ => exact h1
      | 1, _ => exact h2) (by simpa using hm) hleaf htag
  have e : [l1, l2].flatten = l1 ++ l2 := by simp
  rwa [e] at h
theorem hash1 {w : World} {tag leaf b : Nat} {v1 : Value} {l1 : List Nat} {t : TypeId} (hB : blk w b [v1] t) (h1 : Sl w v1 l1) (hm : l1.length ≤ 999000) (hleaf : leaf ≤ 4294967295) (htag : tag < 256) :
    Calls Try.prog 88 #[.int .u8 (tag : Int), .int .i64 (leaf : Int), .slice (some ⟨b, 0, none⟩) 1 1] w fun e w' => e = .returned (agg .u8 (hf (hd tag leaf ++ l1))) ∧ Below w.heap.size w w' := by
  have h := hash w tag leaf b 0 1 1 [v1] [l1] rfl rfl (blk_lt hB) (by omega) (fun k hk => by
      rw [Nat.zero_add, blk_cell hB]
      match k, hk with
      | 0, _ => rfl) (fun k hk => by
      match k, hk with
      | 0, _ => exact h1) (by simpa using hm) hleaf htag
  have e : [l1].flatten = l1 := by simp
  rwa [e] at h
theorem secret (w : World) (seed : List Nat) (leaf chain : Nat) (hs : seed.length = 32) (hleaf : leaf ≤ 65535) (hc : chain ≤ 65535) :
    Calls Try.prog 63 #[agg .u8 seed, .int .i64 (leaf : Int), .int .i64 (chain : Int)] w fun e w' => e = .returned (agg .u8 (sec seed leaf chain)) ∧ Below w.heap.size w w' := by
  go_enter Try.func63, Try.ntmps63
  go_wp2_with fail
  have ec : ((chain : Int) % 256) = ((chain % 256 : Nat) : Int) := by omega
  rw [ec]
  have B0 := blk_alloc (blk_alloc (blk_alloc (blk_new w (cl .u8 seed) 31) (.cells (cl .u8 (zs 16)).toArray 22)) (.cells (cl .u8 [chain % 256]).toArray 5)) (.cells #[.slice (some ⟨w.heap.size + 1 + 1, 0, none⟩) 1 1, .slice (some ⟨w.heap.size, 0, none⟩) 32 32] 99)
  have B1 := blk_alloc (blk_alloc (blk_at (w.alloc (.cells (cl .u8 seed).toArray 31)) (cl .u8 (zs 16)) 22 (b := w.heap.size + 1) (by simp only [alloc_size])) (.cells (cl .u8 [chain % 256]).toArray 5)) (.cells #[.slice (some ⟨w.heap.size + 1 + 1, 0, none⟩) 1 1, .slice (some ⟨w.heap.size, 0, none⟩) 32 32] 99)
  have B2 := blk_alloc (blk_at ((w.alloc (.cells (cl .u8 seed).toArray 31)).alloc (.cells (cl .u8 (zs 16)).toArray 22)) (cl .u8 [chain % 256]) 5 (b := w.heap.size + 1 + 1) (by simp only [alloc_size])) (.cells #[.slice (some ⟨w.heap.size + 1 + 1, 0, none⟩) 1 1, .slice (some ⟨w.heap.size, 0, none⟩) 32 32] 99)
  have B3 := blk_at (((w.alloc (.cells (cl .u8 seed).toArray 31)).alloc (.cells (cl .u8 (zs 16)).toArray 22)).alloc (.cells (cl .u8 [chain % 256]).toArray 5)) [.slice (some ⟨w.heap.size + 1 + 1, 0, none⟩) 1 1, .slice (some ⟨w.heap.size, 0, none⟩) 32 32] 99 (b := w.heap.size + 1 + 1 + 1) (by simp only [alloc_size])
  have hbel := ((((Below.refl w.heap.size w).alloc (Nat.le_refl _) (.cells (cl .u8 seed).toArray 31)).alloc (by simp only [alloc_size]; omega) (.cells (cl .u8 (zs 16)).toArray 22)).alloc (by simp only [alloc_size]; omega) (.cells (cl .u8 [chain % 256]).toArray 5)).alloc (by simp only [alloc_size]; omega) (.cells #[.slice (some ⟨w.heap.size + 1 + 1, 0, none⟩) 1 1, .slice (some ⟨w.heap.size, 0, none⟩) 32 32] 99)
  refine (hash2 (tag := 2) B3 (sl_whole (l := [chain % 256]) B2 rfl (Nat.le_refl _)) (sl_whole B0 (by omega) (Nat.le_refl _)) (by simp; omega) (by omega) (by omega)).mono ?_
  rintro e w1 ⟨rfl, hb1⟩
  have hB1 := blk_keep B1 hb1
  have hk := bk_of hB1
  have hfl := sec_length seed leaf chain
  have es : hf (hd 2 leaf ++ ([chain % 256] ++ seed)) = sec seed leaf chain := by rw [sec, List.append_assoc]
  rw [es]
  have hbel1 := bel_trans hbel hb1 hbel.size
  clear es ec B0 B1 B2 B3 hbel hb1
  go_wp2_with fail
  refine ret_b16 rfl rfl (blk_setRow hB1 (cl .u8 (sec seed leaf chain))) hfl rfl ⟨rfl, bel_setRow hbel1 (by omega) _⟩
theorem step (w : World) (leaf chain i : Nat) (v : List Nat) (hs : v.length = 16) (hleaf : leaf ≤ 65535) (hc : chain ≤ 65535) (hi : i ≤ 65535) :
    Calls Try.prog 67 #[.int .i64 (leaf : Int), .int .i64 (chain : Int), .int .i64 (i : Int), agg .u8 v] w fun e w' => e = .returned (agg .u8 (stp leaf chain i v)) ∧ Below w.heap.size w w' := by
  go_enter Try.func67, Try.ntmps67
  go_wp2_with fail
  have ec : ((chain : Int) % 256) = ((chain % 256 : Nat) : Int) := by omega
  have ei : ((i : Int) % 256) = ((i % 256 : Nat) : Int) := by omega
  rw [ec, ei]
  have B0 := blk_alloc (blk_alloc (blk_alloc (blk_new w (cl .u8 v) 22) (.cells (cl .u8 (zs 16)).toArray 22)) (.cells (cl .u8 [chain % 256, i % 256]).toArray 5)) (.cells #[.slice (some ⟨w.heap.size + 1 + 1, 0, none⟩) 2 2, .slice (some ⟨w.heap.size, 0, none⟩) 16 16] 99)
  have B1 := blk_alloc (blk_alloc (blk_at (w.alloc (.cells (cl .u8 v).toArray 22)) (cl .u8 (zs 16)) 22 (b := w.heap.size + 1) (by simp only [alloc_size])) (.cells (cl .u8 [chain % 256, i % 256]).toArray 5)) (.cells #[.slice (some ⟨w.heap.size + 1 + 1, 0, none⟩) 2 2, .slice (some ⟨w.heap.size, 0, none⟩) 16 16] 99)
  have B2 := blk_alloc (blk_at ((w.alloc (.cells (cl .u8 v).toArray 22)).alloc (.cells (cl .u8 (zs 16)).toArray 22)) (cl .u8 [chain % 256, i % 256]) 5 (b := w.heap.size + 1 + 1) (by simp only [alloc_size])) (.cells #[.slice (some ⟨w.heap.size + 1 + 1, 0, none⟩) 2 2, .slice (some ⟨w.heap.size, 0, none⟩) 16 16] 99)
  have B3 := blk_at (((w.alloc (.cells (cl .u8 v).toArray 22)).alloc (.cells (cl .u8 (zs 16)).toArray 22)).alloc (.cells (cl .u8 [chain % 256, i % 256]).toArray 5)) [.slice (some ⟨w.heap.size + 1 + 1, 0, none⟩) 2 2, .slice (some ⟨w.heap.size, 0, none⟩) 16 16] 99 (b := w.heap.size + 1 + 1 + 1) (by simp only [alloc_size])
  have hbel := ((((Below.refl w.heap.size w).alloc (Nat.le_refl _) (.cells (cl .u8 v).toArray 22)).alloc (by simp only [alloc_size]; omega) (.cells (cl .u8 (zs 16)).toArray 22)).alloc (by simp only [alloc_size]; omega) (.cells (cl .u8 [chain % 256, i % 256]).toArray 5)).alloc (by simp only [alloc_size]; omega) (.cells #[.slice (some ⟨w.heap.size + 1 + 1, 0, none⟩) 2 2, .slice (some ⟨w.heap.size, 0, none⟩) 16 16] 99)
  refine (hash2 (tag := 3) B3 (sl_whole (l := [chain % 256, i % 256]) B2 rfl (Nat.le_refl _)) (sl_whole B0 (by omega) (Nat.le_refl _)) (by simp; omega) (by omega) (by omega)).mono ?_
  rintro e w1 ⟨rfl, hb1⟩
  have hB1 := blk_keep B1 hb1
  have hk := bk_of hB1
  have hfl := stp_length leaf chain i v
  have es : hf (hd 3 leaf ++ ([chain % 256, i % 256] ++ v)) = stp leaf chain i v := by rw [stp, List.append_assoc]
  rw [es]
  have hbel1 := bel_trans hbel hb1 hbel.size
  clear es ec ei B0 B1 B2 B3 hbel hb1
  go_wp2_with fail
  refine ret_b16 rfl rfl (blk_setRow hB1 (cl .u8 (stp leaf chain i v))) hfl rfl ⟨rfl, bel_setRow hbel1 (by omega) _⟩
/-- n steps from a value on. -/
theorem advance (w : World) (leaf chain from_ n : Nat) (v : List Nat) (hs : v.length = 16) (hleaf : leaf ≤ 65535) (hc : chain ≤ 65535) (hi : from_ + n ≤ 65535) (to_ : Int) (hto : to_ = ((from_ + n : Nat) : Int)) :
    Calls Try.prog 68 #[.int .i64 (leaf : Int), .int .i64 (chain : Int), .int .i64 (from_ : Int), .int .i64 to_, agg .u8 v] w fun e w' => e = .returned (agg .u8 (adv leaf chain from_ n v)) ∧ Below w.heap.size w w' := by
  obtain ⟨T, hT⟩ : ∃ T : Nat, T = from_ + n := ⟨_, rfl⟩
  rw [← hT] at hto
  subst hto
  have HT := Lib.hid hT
  clear hT
  go_enter Try.func68, Try.ntmps68
  go_wp2_with fail
  go_loopw [11] (fun i wr => ∃ k q : Nat, k ≤ n ∧ q = from_ + k ∧ i = .int .i64 (q : Int) ∧ blk wr w.heap.size (cl .u8 (adv leaf chain from_ k v)) 22 ∧ blk wr (w.heap.size + 1) (cl .u8 (zs 16)) 22 ∧ Below w.heap.size w wr) (fun i _ => T - (intOf i).toNat)
  case atStart => exact ⟨0, from_, by omega, rfl, rfl, blk_alloc (blk_new _ _ _) _, blk_at _ _ _ (by simp only [alloc_size]), ((Below.refl _ _).alloc (Nat.le_refl _) _).alloc (by simp only [alloc_size]; omega) _⟩
  case round =>
    obtain ⟨k, q, hk, hq, rfl, hB0, hB1, hb⟩ := hrel
    have hT := HT.out
    have hq2 : q ≤ 65535 := by omega
    have hal := adv_length leaf chain from_ k v hs
    have hlt := blk_lt hB0
    have hk0 := bk_of hB0
    have G0 := Lib.hid hB0
    have G1 := Lib.hid hB1
    by_cases hkn : k < n
    · have i1 : (q : Int) < (T : Int) := by omega
      have i2 : q < T := by omega
      have HQ := Lib.hid hq
      clear hq hT hB0 hB1
      go_wp2_with fail
      refine (step wr leaf chain q _ hal hleaf hc (by have := HQ.out; omega)).mono ?_
      rintro e w1 ⟨rfl, hb1⟩
      have hB2 := blk_keep G0.out hb1
      have hB3 := blk_keep G1.out hb1
      have hb2 := bel_trans hb hb1 hb.size
      have hk2 := bk_of hB2
      have hsl := stp_length leaf chain q (adv leaf chain from_ k v)
      have K0 := Lib.hid hB2
      have K1 := Lib.hid hB3
      clear hb1 hB2 hB3 hk0
      go_wp2_with fail
      refine ⟨⟨k + 1, q + 1, by omega, by have := HQ.out; omega, by go_num, ?_, blk_setRow_ne K1.out _ (by omega), bel_setRow hb2 (Nat.le_refl _) _⟩, by simp [intOf]; omega⟩
      have e : adv leaf chain from_ (k + 1) v = stp leaf chain q (adv leaf chain from_ k v) := by rw [HQ.out, adv]
      rw [e]
      exact blk_setRow K0.out (cl .u8 (stp leaf chain q (adv leaf chain from_ k v)))
    · obtain rfl : k = n := by omega
      have i1 : ¬ (q : Int) < (T : Int) := by omega
      have hk1 := bk_of hB1
      clear hq hT hB0 hB1
      go_wp2_with fail
      refine ret_b16 rfl rfl (blk_setRow G1.out (cl .u8 (adv leaf chain from_ k v))) hal rfl ⟨rfl, bel_setRow hb (by omega) _⟩
end Go.Proofs.Ytlgpipdeckdmjaa.One
