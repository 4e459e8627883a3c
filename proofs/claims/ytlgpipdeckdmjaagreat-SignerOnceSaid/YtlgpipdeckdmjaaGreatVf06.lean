/-
  Several texts laid into one (merge.py): One1, One2, One3, One4.
-/
import Derived.Test.YtlgpipdeckdmjaaGreatVf05
import Derived.Laws.Cover3
import Derived.Laws.EntriesVeiled
/-
  onetime: the hash of a tag, a leaf and further bytes; ranges; the first value and the next value of a chain.
-/
set_option linter.unusedVariables false
set_option linter.unusedSimpArgs false
namespace Go.Proofs.YtlgpipdeckdmjaaGreat.One
open Go.RowKit Base Reg Types Slice Sha
/-- The first half of a digest. -/
def hf (M : List Nat) : List Nat := (sha M).take 16
theorem sha_length (M : List Nat) : (sha M).length = 32 := by simp [sha, outs]
theorem hf_length (M : List Nat) : (hf M).length = 16 := by simp [hf, sha_length]
/-- A tag and a leaf. -/
def hd (tag leaf : Nat) : List Nat := [tag, leaf / 16777216 % 256, leaf / 65536 % 256, leaf / 256 % 256, leaf % 256]
def sec (seed : List Nat) (leaf chain : Nat) : List Nat := hf (hd 2 leaf ++ [chain % 256] ++ seed)
def stp (leaf chain i : Nat) (v : List Nat) : List Nat := hf (hd 3 leaf ++ [chain % 256, i % 256] ++ v)
def adv (leaf chain from_ : Nat) : Nat → List Nat → List Nat
  | 0, v => v
  | n + 1, v => stp leaf chain (from_ + n) (adv leaf chain from_ n v)
def cmp (leaf : Nat) (ends : List Nat) : List Nat := hf (hd 4 leaf ++ ends)
theorem sec_length (s : List Nat) (a b : Nat) : (sec s a b).length = 16 := hf_length _
theorem stp_length (a b c : Nat) (v : List Nat) : (stp a b c v).length = 16 := hf_length _
theorem adv_length (a b c n : Nat) (v : List Nat) (h : v.length = 16) : (adv a b c n v).length = 16 := by
  cases n with
  | zero => exact h
  | succ n => exact stp_length _ _ _ _
theorem cmp_length (a : Nat) (v : List Nat) : (cmp a v).length = 16 := hf_length _
set_option maxRecDepth 20000 in
theorem sumHalf (w : World) (M : List Nat) (x : Value) (hx : Sl w x M) (hM : M.length ≤ 1000000) :
    Calls Tryz.prog 52 #[x] w fun e w' => e = .returned (agg .u8 (hf M)) ∧ Below w.heap.size w w' := by
  have H := Lib.hid hx
  clear hx
  go_enter Tryz.func52, Tryz.ntmps52
  go_wp2_with fail
  refine (sum_all _ M x (H.out.keep ((Below.refl _ _).alloc (Nat.le_refl _) _)) hM).mono ?_
  rintro e w1 ⟨rfl, hb1⟩
  have hB1 := blk_keep (blk_new w (cl .u8 (zs 16)) 100) hb1
  have hbel1 := bel_trans ((Below.refl _ w).alloc (Nat.le_refl _) _) hb1 (by simp only [alloc_size]; omega)
  have hlt := blk_lt hB1
  have hk := bk_of hB1
  have hl := sha_length M
  have HB1 := Lib.hid hB1
  have q1 : ldGot Tryz.prog 100 w1.heap.size 16 (w1.alloc (.cells (cl .u8 (sha M)).toArray 137)) (some (cl .u8 (sha M)).toArray) = .ok (agg .u8 (hf M)) (w1.alloc (.cells (cl .u8 (sha M)).toArray 137)) := by
    have h := ld_part (P := Tryz.prog) (ty := 100) (n := 16) (d := (Tryz.prog.underlying 100).get (by kernel_rfl)) (blk_new w1 (cl .u8 (sha M)) 137) (by kernel_rfl) (by kernel_rfl) (by kernel_rfl) (by rw [cl_length, hl]; omega)
    rw [bk_of (blk_new w1 (cl .u8 (sha M)) 137), cl_take] at h
    exact h
  have hl2 := hf_length M
  have q2 : ∀ W, (Instr.arrayAt 100 (.slice (some ⟨w1.heap.size, 0, none⟩) 16 32)).run Tryz.prog W = .ok (.pointer (some ⟨w1.heap.size, 0, none⟩)) W := fun W => run_arrayAt W 100 5 16 _ 16 32 (by kernel_rfl) (by omega)
  clear hB1 hb1
  go_wp2_with fail
  refine ret_half rfl rfl (blk_alloc (blk_setRow HB1.out (cl .u8 (hf M))) _) hl2 rfl ⟨rfl, (bel_setRow hbel1 (Nat.le_refl _) _).alloc (by simp; omega) _⟩
theorem within (n m : Int) (w : World) : Calls Tryz.prog 59 #[.int .i64 n, .int .i64 m] w fun e w' => e = .returned (.bool (decide (0 ≤ n ∧ n ≤ m))) ∧ w = w' := by
  go_enter Tryz.func59, Tryz.ntmps59
  by_cases h : 0 ≤ n
  · go_wp2
    go_ret
    exact ⟨by simp [h], rfl⟩
  · go_wp2
    go_ret
    exact ⟨by simp; omega, rfl⟩















end Go.Proofs.YtlgpipdeckdmjaaGreat.One
/-
  onetime: the hash of a tag, a leaf and further bytes; the first value and the next value of a chain.
-/
set_option linter.unusedVariables false
set_option linter.unusedSimpArgs false
namespace Go.Proofs.YtlgpipdeckdmjaaGreat.One
open Go.RowKit Base Reg Types Slice Sha
theorem take_flat (ls : List (List Nat)) (k : Nat) : (ls.take (k + 1)).flatten = (ls.take k).flatten ++ ls.getD k [] := by
  rw [List.take_add_one, List.flatten_append, List.getD_eq_getElem?_getD]
  cases ls[k]? <;> simp
theorem take_flat_le (ls : List (List Nat)) : ∀ k, (ls.take k).flatten.length ≤ ls.flatten.length := by
  induction ls with
  | nil => simp
  | cons a l ih =>
    intro k
    cases k with
    | zero => simp
    | succ k => have := ih k; simp at this ⊢; omega
set_option maxRecDepth 20000 in
set_option maxHeartbeats 4000000 in
theorem hash (w : World) (tag leaf b o c : Nat) (n : Nat) (vs : List Value) (ls : List (List Nat)) (hn : n = vs.length) (hnl : n = ls.length) (hlt : b < w.heap.size) (hn63 : n ≤ 1000000)
    (hv : ∀ k, k < n → w.cell? ⟨b, o + k, none⟩ = some (vs.getD k undef)) (hl : ∀ k, k < n → Sl w (vs.getD k undef) (ls.getD k [])) (hm : ls.flatten.length ≤ 999000) (hleaf : leaf ≤ 4294967295) (htag : tag < 256) :
    Calls Tryz.prog 90 #[.int .u8 (tag : Int), .int .i64 (leaf : Int), .slice (some ⟨b, o, none⟩) n c] w fun e w' => e = .returned (agg .u8 (hf (hd tag leaf ++ ls.flatten))) ∧ Below w.heap.size w w' := by
  have HV := Lib.hid hv
  have HL := Lib.hid hl
  have HM := Lib.hid hm
  have HN := Lib.hid hnl
  clear hv hl hm hn hnl
  go_enter Tryz.func90, Tryz.ntmps90
  go_wp2_with fail
  have ehd : (#[.int .u8 (tag : Int), .int .u8 ((leaf : Int) / 16777216), .int .u8 ((leaf : Int) / 65536 % 256), .int .u8 ((leaf : Int) / 256 % 256), .int .u8 ((leaf : Int) % 256)] : Array Value) = (cl .u8 (hd tag leaf)).toArray := by
    have h1 : (leaf : Int) / 16777216 = ((leaf / 16777216 % 256 : Nat) : Int) := by omega
    have h2 : (leaf : Int) / 65536 % 256 = ((leaf / 65536 % 256 : Nat) : Int) := by omega
    have h3 : (leaf : Int) / 256 % 256 = ((leaf / 256 % 256 : Nat) : Int) := by omega
    have h4 : (leaf : Int) % 256 = ((leaf % 256 : Nat) : Int) := by omega
    rw [h1, h2, h3, h4]
    rfl
  rw [ehd]
  clear ehd
  have ho0 : Own ((w.alloc (.cells (cl .u8 (zs 16)).toArray 23)).alloc (.cells (cl .u8 (hd tag leaf)).toArray 5)) (w.heap.size + 1) (.slice (some ⟨w.heap.size + 1, 0, none⟩) 5 5) (hd tag leaf) := by
    have h := own_bytes (w.alloc (.cells (cl .u8 (zs 16)).toArray 23)) (hd tag leaf) (by simp [hd])
    rw [alloc_size] at h
    exact h
  have hB := blk_alloc (blk_new w (cl .u8 (zs 16)) 23) (.cells (cl .u8 (hd tag leaf)).toArray 5)
  have hbel := (((Below.refl w.heap.size w).alloc (Nat.le_refl _) (.cells (cl .u8 (zs 16)).toArray 23)).alloc (by simp only [alloc_size]; omega) (.cells (cl .u8 (hd tag leaf)).toArray 5))
  go_loopw [7, 25] (fun v i wr => ∃ k : Nat, k ≤ n ∧ i = .int .i64 k ∧ Own wr (w.heap.size + 1) v (hd tag leaf ++ (ls.take k).flatten) ∧ blk wr w.heap.size (cl .u8 (zs 16)) 23 ∧ Below w.heap.size w wr ∧ w.heap.size + 1 ≤ wr.heap.size) (fun _ i _ => n - (intOf i).toNat)
  case atStart => exact ⟨0, by omega, rfl, by simpa using ho0, hB, hbel, by simp only [alloc_size]; omega⟩
  case round =>
    clear ho0 hB hbel
    obtain ⟨k, hk, rfl, ho, hB, hb, hsz⟩ := hrel
    by_cases hkn : k < n
    · have hcell := (hb.cell (p := ⟨b, o + k, none⟩) hlt).trans (HV.out k hkn)
      have hsl := (HL.out k hkn).keep hb
      obtain ⟨L, hL⟩ : ∃ L, L = hd tag leaf ++ (ls.take k).flatten := ⟨_, rfl⟩
      rw [← hL] at ho
      have hle : L.length + (ls.getD k []).length ≤ 1000000 := by
        have h1 := take_flat_le ls (k + 1)
        rw [take_flat, List.length_append] at h1
        have h2 := HM.out
        rw [hL, List.length_append]
        simp only [hd, List.length_cons, List.length_nil]
        omega
      obtain ⟨u, hu⟩ : ∃ u, u = vs.getD k undef := ⟨_, rfl⟩
      rw [← hu] at hcell hsl
      have HO := Lib.hid ho
      have HS := Lib.hid hsl
      have HB := Lib.hid hB
      have HE := Lib.hid hle
      have HLL := Lib.hid hL
      obtain ⟨Au, cu, rfl, -⟩ := id hsl
      clear ho hsl hB hle hL hu
      go_wp2_with (
        at_builtin
        refine wpList_append_bytes rfl (.tmp 29) (.tmp 30) rfl rfl rfl HO.out HS.out (by have := HE.out; omega) hsz ?_
        intro v1 w2 ho1 hg1)
      have hb2 := hb.grown hg1 hb.size (fun k hk => by have := own_block HO.out k (by simpa [Act.eval] using hk); omega)
      have hB2 := blk_grown HB.out hg1 (by intro e; have := own_block HO.out w.heap.size (by simpa [Act.eval] using e.symm); omega)
      have hs2 := hg1.size
      clear hg1
      go_roundw
      case rel =>
        refine ⟨k + 1, by omega, by go_num, ?_, hB2, hb2, by omega⟩
        rw [take_flat, ← List.append_assoc, ← HLL.out]
        exact ho1
      case measure => simp [intOf]; omega
    · obtain rfl : k = n := by omega
      rw [HN.out, List.take_length] at ho
      have hle : (hd tag leaf ++ ls.flatten).length ≤ 1000000 := by
        have h2 := HM.out
        rw [List.length_append]
        simp only [hd, List.length_cons, List.length_nil]
        omega
      have HS := Lib.hid (SlC.of_own ho)
      have HB := Lib.hid hB
      clear ho hB
      go_wp2_with fail
      refine (sumHalf wr _ _ HS.out hle).mono ?_
      rintro e w3 ⟨rfl, hb3⟩
      have hB3 := blk_keep HB.out hb3
      have hk3 := bk_of hB3
      have hfl := hf_length (hd tag leaf ++ ls.flatten)
      have hbel3 := bel_trans hb hb3 hb.size
      clear hb3
      go_wp2_with fail
      refine ret_b16 rfl rfl (blk_setRow hB3 (cl .u8 (hf (hd tag leaf ++ ls.flatten)))) hfl rfl ⟨rfl, bel_setRow hbel3 (Nat.le_refl _) _⟩
theorem sl_blk {w : World} {b o m c : Nat} {l l' : List Nat} {t : TypeId} (h : blk w b (cl .u8 l) t) (hm : m = l'.length) (hmc : m ≤ c) (hl : ∀ j, j < l'.length → (cl .u8 l)[o + j]? = some (.int .u8 ((l'.getD j 0 : Nat) : Int))) : Sl w (.slice (some ⟨b, o, none⟩) m c) l' := by
  subst hm
  refine SlC.of_blk h hmc (by rw [cl_length, Nat.mul_one]) (fun j u hj => ?_)
  have hjl : j < l'.length := by
    have := (List.getElem?_eq_some_iff.1 hj).1
    rwa [cl_length] at this
  rw [cl_get _ _ _ hjl] at hj
  rw [← hj]
  exact hl j hjl
theorem sl_whole {w : World} {b m c : Nat} {l : List Nat} {t : TypeId} (h : blk w b (cl .u8 l) t) (hm : m = l.length) (hmc : m ≤ c) : Sl w (.slice (some ⟨b, 0, none⟩) m c) l :=
  sl_blk h hm hmc (fun j hj => by rw [Nat.zero_add]; exact cl_get _ _ _ hj)
theorem hash2 {w : World} {tag leaf b : Nat} {v1 v2 : Value} {l1 l2 : List Nat} {t : TypeId} (hB : blk w b [v1, v2] t) (h1 : Sl w v1 l1) (h2 : Sl w v2 l2) (hm : l1.length + l2.length ≤ 999000) (hleaf : leaf ≤ 4294967295) (htag : tag < 256) :
    Calls Tryz.prog 90 #[.int .u8 (tag : Int), .int .i64 (leaf : Int), .slice (some ⟨b, 0, none⟩) 2 2] w fun e w' => e = .returned (agg .u8 (hf (hd tag leaf ++ (l1 ++ l2)))) ∧ Below w.heap.size w w' := by
  have h := hash w tag leaf b 0 2 2 [v1, v2] [l1, l2] rfl rfl (blk_lt hB) (by omega) (fun k hk => by
      rw [Nat.zero_add, blk_cell hB]
      match k, hk with
      | 0, _ => rfl
      | 1, _ => rfl) (fun k hk => by
      match k, hk with
      | 0, _ => exact h1
      | 1, _ => exact h2) (by simpa using hm) hleaf htag
  have e : [l1, l2].flatten = l1 ++ l2 := by simp
  rwa [e] at h
theorem hash1 {w : World} {tag leaf b : Nat} {v1 : Value} {l1 : List Nat} {t : TypeId} (hB : blk w b [v1] t) (h1 : Sl w v1 l1) (hm : l1.length ≤ 999000) (hleaf : leaf ≤ 4294967295) (htag : tag < 256) :
    Calls Tryz.prog 90 #[.int .u8 (tag : Int), .int .i64 (leaf : Int), .slice (some ⟨b, 0, none⟩) 1 1] w fun e w' => e = .returned (agg .u8 (hf (hd tag leaf ++ l1))) ∧ Below w.heap.size w w' := by
  have h := hash w tag leaf b 0 1 1 [v1] [l1] rfl rfl (blk_lt hB) (by omega) (fun k hk => by
      rw [Nat.zero_add, blk_cell hB]
      match k, hk with
      | 0, _ => rfl) (fun k hk => by
      match k, hk with
      | 0, _ => exact h1) (by simpa using hm) hleaf htag
  have e : [l1].flatten = l1 := by simp
  rwa [e] at h
theorem secret (w : World) (seed : List Nat) (leaf chain : Nat) (hs : seed.length = 32) (hleaf : leaf ≤ 65535) (hc : chain ≤ 65535) :
    Calls Tryz.prog 64 #[agg .u8 seed, .int .i64 (leaf : Int), .int .i64 (chain : Int)] w fun e w' => e = .returned (agg .u8 (sec seed leaf chain)) ∧ Below w.heap.size w w' := by
  go_enter Tryz.func64, Tryz.ntmps64
  go_wp2_with fail
  have ec : ((chain : Int) % 256) = ((chain % 256 : Nat) : Int) := by omega
  rw [ec]
  have B0 := blk_alloc (blk_alloc (blk_alloc (blk_new w (cl .u8 seed) 22) (.cells (cl .u8 (zs 16)).toArray 23)) (.cells (cl .u8 [chain % 256]).toArray 5)) (.cells #[.slice (some ⟨w.heap.size + 1 + 1, 0, none⟩) 1 1, .slice (some ⟨w.heap.size, 0, none⟩) 32 32] 97)
  have B1 := blk_alloc (blk_alloc (blk_at (w.alloc (.cells (cl .u8 seed).toArray 22)) (cl .u8 (zs 16)) 23 (b := w.heap.size + 1) (by simp only [alloc_size])) (.cells (cl .u8 [chain % 256]).toArray 5)) (.cells #[.slice (some ⟨w.heap.size + 1 + 1, 0, none⟩) 1 1, .slice (some ⟨w.heap.size, 0, none⟩) 32 32] 97)
  have B2 := blk_alloc (blk_at ((w.alloc (.cells (cl .u8 seed).toArray 22)).alloc (.cells (cl .u8 (zs 16)).toArray 23)) (cl .u8 [chain % 256]) 5 (b := w.heap.size + 1 + 1) (by simp only [alloc_size])) (.cells #[.slice (some ⟨w.heap.size + 1 + 1, 0, none⟩) 1 1, .slice (some ⟨w.heap.size, 0, none⟩) 32 32] 97)
  have B3 := blk_at (((w.alloc (.cells (cl .u8 seed).toArray 22)).alloc (.cells (cl .u8 (zs 16)).toArray 23)).alloc (.cells (cl .u8 [chain % 256]).toArray 5)) [.slice (some ⟨w.heap.size + 1 + 1, 0, none⟩) 1 1, .slice (some ⟨w.heap.size, 0, none⟩) 32 32] 97 (b := w.heap.size + 1 + 1 + 1) (by simp only [alloc_size])
  have hbel := ((((Below.refl w.heap.size w).alloc (Nat.le_refl _) (.cells (cl .u8 seed).toArray 22)).alloc (by simp only [alloc_size]; omega) (.cells (cl .u8 (zs 16)).toArray 23)).alloc (by simp only [alloc_size]; omega) (.cells (cl .u8 [chain % 256]).toArray 5)).alloc (by simp only [alloc_size]; omega) (.cells #[.slice (some ⟨w.heap.size + 1 + 1, 0, none⟩) 1 1, .slice (some ⟨w.heap.size, 0, none⟩) 32 32] 97)
  refine (hash2 (tag := 2) B3 (sl_whole (l := [chain % 256]) B2 rfl (Nat.le_refl _)) (sl_whole B0 (by omega) (Nat.le_refl _)) (by simp; omega) (by omega) (by omega)).mono ?_
  rintro e w1 ⟨rfl, hb1⟩
  have hB1 := blk_keep B1 hb1
  have hk := bk_of hB1
  have hfl := sec_length seed leaf chain
  have es : hf (hd 2 leaf ++ ([chain % 256] ++ seed)) = sec seed leaf chain := by rw [sec, List.append_assoc]
  rw [es]
  have hbel1 := bel_trans hbel hb1 hbel.size
  clear es ec B0 B1 B2 B3 hbel hb1
  go_wp2_with fail
  refine ret_b16 rfl rfl (blk_setRow hB1 (cl .u8 (sec seed leaf chain))) hfl rfl ⟨rfl, bel_setRow hbel1 (by omega) _⟩
theorem step (w : World) (leaf chain i : Nat) (v : List Nat) (hs : v.length = 16) (hleaf : leaf ≤ 65535) (hc : chain ≤ 65535) (hi : i ≤ 65535) :
    Calls Tryz.prog 89 #[.int .i64 (leaf : Int), .int .i64 (chain : Int), .int .i64 (i : Int), agg .u8 v] w fun e w' => e = .returned (agg .u8 (stp leaf chain i v)) ∧ Below w.heap.size w w' := by
  go_enter Tryz.func89, Tryz.ntmps89
  go_wp2_with fail
  have ec : ((chain : Int) % 256) = ((chain % 256 : Nat) : Int) := by omega
  have ei : ((i : Int) % 256) = ((i % 256 : Nat) : Int) := by omega
  rw [ec, ei]
  have B0 := blk_alloc (blk_alloc (blk_alloc (blk_new w (cl .u8 v) 23) (.cells (cl .u8 (zs 16)).toArray 23)) (.cells (cl .u8 [chain % 256, i % 256]).toArray 5)) (.cells #[.slice (some ⟨w.heap.size + 1 + 1, 0, none⟩) 2 2, .slice (some ⟨w.heap.size, 0, none⟩) 16 16] 97)
  have B1 := blk_alloc (blk_alloc (blk_at (w.alloc (.cells (cl .u8 v).toArray 23)) (cl .u8 (zs 16)) 23 (b := w.heap.size + 1) (by simp only [alloc_size])) (.cells (cl .u8 [chain % 256, i % 256]).toArray 5)) (.cells #[.slice (some ⟨w.heap.size + 1 + 1, 0, none⟩) 2 2, .slice (some ⟨w.heap.size, 0, none⟩) 16 16] 97)
  have B2 := blk_alloc (blk_at ((w.alloc (.cells (cl .u8 v).toArray 23)).alloc (.cells (cl .u8 (zs 16)).toArray 23)) (cl .u8 [chain % 256, i % 256]) 5 (b := w.heap.size + 1 + 1) (by simp only [alloc_size])) (.cells #[.slice (some ⟨w.heap.size + 1 + 1, 0, none⟩) 2 2, .slice (some ⟨w.heap.size, 0, none⟩) 16 16] 97)
  have B3 := blk_at (((w.alloc (.cells (cl .u8 v).toArray 23)).alloc (.cells (cl .u8 (zs 16)).toArray 23)).alloc (.cells (cl .u8 [chain % 256, i % 256]).toArray 5)) [.slice (some ⟨w.heap.size + 1 + 1, 0, none⟩) 2 2, .slice (some ⟨w.heap.size, 0, none⟩) 16 16] 97 (b := w.heap.size + 1 + 1 + 1) (by simp only [alloc_size])
  have hbel := ((((Below.refl w.heap.size w).alloc (Nat.le_refl _) (.cells (cl .u8 v).toArray 23)).alloc (by simp only [alloc_size]; omega) (.cells (cl .u8 (zs 16)).toArray 23)).alloc (by simp only [alloc_size]; omega) (.cells (cl .u8 [chain % 256, i % 256]).toArray 5)).alloc (by simp only [alloc_size]; omega) (.cells #[.slice (some ⟨w.heap.size + 1 + 1, 0, none⟩) 2 2, .slice (some ⟨w.heap.size, 0, none⟩) 16 16] 97)
  refine (hash2 (tag := 3) B3 (sl_whole (l := [chain % 256, i % 256]) B2 rfl (Nat.le_refl _)) (sl_whole B0 (by omega) (Nat.le_refl _)) (by simp; omega) (by omega) (by omega)).mono ?_
  rintro e w1 ⟨rfl, hb1⟩
  have hB1 := blk_keep B1 hb1
  have hk := bk_of hB1
  have hfl := stp_length leaf chain i v
  have es : hf (hd 3 leaf ++ ([chain % 256, i % 256] ++ v)) = stp leaf chain i v := by rw [stp, List.append_assoc]
  rw [es]
  have hbel1 := bel_trans hbel hb1 hbel.size
  clear es ec ei B0 B1 B2 B3 hbel hb1
  go_wp2_with fail
  refine ret_b16 rfl rfl (blk_setRow hB1 (cl .u8 (stp leaf chain i v))) hfl rfl ⟨rfl, bel_setRow hbel1 (by omega) _⟩
/-- n steps from a value on. -/
theorem advance (w : World) (leaf chain from_ n : Nat) (v : List Nat) (hs : v.length = 16) (hleaf : leaf ≤ 65535) (hc : chain ≤ 65535) (hi : from_ + n ≤ 65535) (to_ : Int) (hto : to_ = ((from_ + n : Nat) : Int)) :
    Calls Tryz.prog 63 #[.int .i64 (leaf : Int), .int .i64 (chain : Int), .int .i64 (from_ : Int), .int .i64 to_, agg .u8 v] w fun e w' => e = .returned (agg .u8 (adv leaf chain from_ n v)) ∧ Below w.heap.size w w' := by
  obtain ⟨T, hT⟩ : ∃ T : Nat, T = from_ + n := ⟨_, rfl⟩
  rw [← hT] at hto
  subst hto
  have HT := Lib.hid hT
  clear hT
  go_enter Tryz.func63, Tryz.ntmps63
  go_wp2_with fail
  go_loopw [11] (fun i wr => ∃ k q : Nat, k ≤ n ∧ q = from_ + k ∧ i = .int .i64 (q : Int) ∧ blk wr w.heap.size (cl .u8 (adv leaf chain from_ k v)) 23 ∧ blk wr (w.heap.size + 1) (cl .u8 (zs 16)) 23 ∧ Below w.heap.size w wr) (fun i _ => T - (intOf i).toNat)
  case atStart => exact ⟨0, from_, by omega, rfl, rfl, blk_alloc (blk_new _ _ _) _, blk_at _ _ _ (by simp only [alloc_size]), ((Below.refl _ _).alloc (Nat.le_refl _) _).alloc (by simp only [alloc_size]; omega) _⟩
  case round =>
    obtain ⟨k, q, hk, hq, rfl, hB0, hB1, hb⟩ := hrel
    have hT := HT.out
    have hq2 : q ≤ 65535 := by omega
    have hal := adv_length leaf chain from_ k v hs
    have hlt := blk_lt hB0
    have hk0 := bk_of hB0
    have G0 := Lib.hid hB0
    have G1 := Lib.hid hB1
    by_cases hkn : k < n
    · have i1 : (q : Int) < (T : Int) := by omega
      have i2 : q < T := by omega
      have HQ := Lib.hid hq
      clear hq hT hB0 hB1
      go_wp2_with fail
      refine (step wr leaf chain q _ hal hleaf hc (by have := HQ.out; omega)).mono ?_
      rintro e w1 ⟨rfl, hb1⟩
      have hB2 := blk_keep G0.out hb1
      have hB3 := blk_keep G1.out hb1
      have hb2 := bel_trans hb hb1 hb.size
      have hk2 := bk_of hB2
      have hsl := stp_length leaf chain q (adv leaf chain from_ k v)
      have K0 := Lib.hid hB2
      have K1 := Lib.hid hB3
      clear hb1 hB2 hB3 hk0
      go_wp2_with fail
      refine ⟨⟨k + 1, q + 1, by omega, by have := HQ.out; omega, by go_num, ?_, blk_setRow_ne K1.out _ (by omega), bel_setRow hb2 (Nat.le_refl _) _⟩, by simp [intOf]; omega⟩
      have e : adv leaf chain from_ (k + 1) v = stp leaf chain q (adv leaf chain from_ k v) := by rw [HQ.out, adv]
      rw [e]
      exact blk_setRow K0.out (cl .u8 (stp leaf chain q (adv leaf chain from_ k v)))
    · obtain rfl : k = n := by omega
      have i1 : ¬ (q : Int) < (T : Int) := by omega
      have hk1 := bk_of hB1
      clear hq hT hB0 hB1
      go_wp2_with fail
      refine ret_b16 rfl rfl (blk_setRow G1.out (cl .u8 (adv leaf chain from_ k v))) hal rfl ⟨rfl, bel_setRow hb (by omega) _⟩
end Go.Proofs.YtlgpipdeckdmjaaGreat.One
/-
  onetime: Secret, Step, Advance.
-/
set_option linter.unusedVariables false
set_option linter.unusedSimpArgs false
namespace Go.Proofs.YtlgpipdeckdmjaaGreat.One
open Go.RowKit Base Reg Types Slice Sha




































































































































end Go.Proofs.YtlgpipdeckdmjaaGreat.One
/-
  onetime: the digits of a digest.
-/
set_option linter.unusedVariables false
set_option linter.unusedSimpArgs false
namespace Go.Proofs.YtlgpipdeckdmjaaGreat.One
open Go.RowKit Base Reg Types Slice Sha
/-- Digit c. -/
def dg (d : List Nat) (c : Nat) : Nat := if c % 2 = 0 then d.getD (c / 2) 0 / 16 else d.getD (c / 2) 0 % 16
def sm (d : List Nat) : Nat → Nat
  | 0 => 0
  | k + 1 => sm d k + (15 - dg d k)
def spd (d : List Nat) (c : Nat) : Nat := if c < 32 then dg d c else sm d 32 / 2 ^ (4 * (34 - c)) % 16
def sp (d : List Nat) : List Nat := (List.range 35).map (spd d)
theorem sp_length (d : List Nat) : (sp d).length = 35 := by simp [sp]
/-- Bytes. -/
def By (d : List Nat) : Prop := ∀ j, d.getD j 0 < 256
theorem dg_le {d : List Nat} (h : By d) (c : Nat) : dg d c ≤ 15 := by
  have := h (c / 2)
  unfold dg
  split <;> omega
theorem sm_le (d : List Nat) : ∀ k, sm d k ≤ 15 * k
  | 0 => by simp [sm]
  | k + 1 => by have := sm_le d k; simp only [sm]; omega
theorem spd_le {d : List Nat} (h : By d) (c : Nat) : spd d c ≤ 15 := by
  have := dg_le h c
  unfold spd
  split
  · omega
  · omega
theorem digit (w : World) (d : List Nat) (c g : Nat) (hd : d.length = 16) (hb : By d) (hc : c < 32) (hB : blk w g (cl .u8 d) 23) :
    Calls Tryz.prog 86 #[.int .i64 (c : Int), .pointer (some ⟨g, 0, none⟩)] w fun e w' => e = .returned (.int .i64 (dg d c : Nat)) ∧ w = w' := by
  have hcl := (blk_cell hB (c / 2)).trans (cl_get _ _ _ (by omega))
  have hby := hb (c / 2)
  obtain ⟨x, hx⟩ : ∃ x, x = d.getD (c / 2) 0 := ⟨_, rfl⟩
  rw [← hx] at hcl hby
  have HX := Lib.hid hx
  clear hB hx
  go_enter Tryz.func86, Tryz.ntmps86
  by_cases h : c % 2 = 0
  · have i1 : ((c : Int) % 2) = 0 := by omega
    go_wp2_with fail
    go_ret
    exact ⟨by rw [dg, if_pos h, ← HX.out]; simp, rfl⟩
  · have i1 : ((c : Int) % 2) = 1 := by omega
    go_wp2_with fail
    go_ret
    exact ⟨by rw [dg, if_neg h, ← HX.out]; simp, rfl⟩
/-- Digit c, or c's digit of the checksum. -/
theorem digits (w : World) (d : List Nat) (c g g1 g2 : Nat) (hd : d.length = 16) (hb : By d) (hc : c < 35) (hB : blk w g (cl .u8 d) 23)
    (h1 : w.cell? ⟨g1, 0, none⟩ = some (.func (.func 86) #[] #[.pointer (some ⟨g, 0, none⟩)])) (h2 : w.cell? ⟨g2, 0, none⟩ = some (.int .i64 (sm d 32 : Nat))) :
    Calls Tryz.prog 88 #[.int .i64 (c : Int), .pointer (some ⟨g1, 0, none⟩), .pointer (some ⟨g2, 0, none⟩)] w fun e w' => e = .returned (.int .i64 (spd d c : Nat)) ∧ w = w' := by
  have hs := sm_le d 32
  obtain ⟨x, hx⟩ : ∃ x, x = sm d 32 := ⟨_, rfl⟩
  rw [← hx] at h2 hs
  have HX := Lib.hid hx
  have HB := Lib.hid hB
  clear hB hx
  go_enter Tryz.func88, Tryz.ntmps88
  by_cases h : c < 32
  · go_wp2_with fail
    refine (digit w d c g hd hb h HB.out).mono ?_
    rintro e w1 ⟨rfl, rfl⟩
    go_wp2_with fail
    go_ret
    exact ⟨by rw [spd, if_pos h]; rfl, rfl⟩
  · go_wp2_with fail
    go_ret
    refine ⟨?_, rfl⟩
    have e : ((x : Int) / 2 ^ (4 * (34 - c))).tmod 16 = ((spd d c : Nat) : Int) := by
      rw [spd, if_neg h, ← HX.out]
      have : ((x : Int) / 2 ^ (4 * (34 - c))) = ((x / 2 ^ (4 * (34 - c)) : Nat) : Int) := by rw [Int.natCast_ediv, Int.natCast_pow]; rfl
      rw [this, Int.tmod_eq_emod_of_nonneg (Int.natCast_nonneg _)]
      omega
    simp [e]
/-- All digits of a function of the chain's number. -/
theorem each_int (w : World) (F : Nat → Nat) (v1 v2 : Value) (hF : ∀ c : Nat, c < 35 → ∀ W, Below w.heap.size w W → Calls Tryz.prog 88 #[.int .i64 (c : Int), v1, v2] W fun e w' => e = .returned (.int .i64 (F c : Nat)) ∧ W = w') :
    Calls Tryz.prog 87 #[.func (.func 88) #[] #[v1, v2]] w fun e w' => e = .returned (agg .i64 ((List.range 35).map F)) ∧ Below w.heap.size w w' := by
  have HF := Lib.hid hF
  clear hF
  go_enter Tryz.func87, Tryz.ntmps87
  go_wp2_with fail
  go_loopw [5] (fun i wr => ∃ k : Nat, k ≤ 35 ∧ i = .int .i64 k ∧ blk wr w.heap.size (cl .i64 (zs 35)) 87 ∧ blk wr (w.heap.size + 1) (cl .i64 (upto 35 k F)) 87 ∧ Below w.heap.size w wr) (fun i _ => 35 - (intOf i).toNat)
  case atStart => exact ⟨0, by omega, rfl, blk_alloc (blk_new _ _ _) _, by rw [upto_zero]; exact blk_at _ _ _ (by simp), ((Below.refl _ _).alloc (Nat.le_refl _) _).alloc (by simp) _⟩
  case round =>
    obtain ⟨k, hk, rfl, hb1, hb2, hbel⟩ := hrel
    have hl : (upto 35 k F).length = 35 := upto_length _ _ _
    by_cases hk2 : k < 35
    · have cb : wr.cell? ⟨w.heap.size + 1, k, none⟩ = some (.int .i64 (((upto 35 k F).getD k 0 : Nat) : Int)) := (blk_cell hb2 k).trans (cl_get _ _ _ (by omega))
      have fb : wr.frozen? ⟨w.heap.size + 1, k, none⟩ = false := blk_free hb2 k
      have HB1 := Lib.hid hb1
      have HB2 := Lib.hid hb2
      clear hb1 hb2
      go_wp2_with fail
      refine (HF.out k hk2 wr hbel).mono ?_
      rintro e w1 ⟨rfl, rfl⟩
      go_wp2_with fail
      refine ⟨⟨k + 1, by omega, by go_num, blk_setCell_ne HB1.out _ (by simp), ?_, bel_setCell hbel (by simp) _⟩, by simp [intOf]; omega⟩
      have h := blk_setCell HB2.out k (.int .i64 ((F k : Nat) : Int))
      rw [cl_set, upto_set 35 k F hk2] at h
      exact h
    · obtain rfl : k = 35 := by omega
      rw [upto_full 35 F] at hb2
      have hl : ((List.range 35).map F).length = 35 := by simp
      have hb3 := bk_of hb1
      have hb4 := bk_of hb2
      go_wp2_with fail
      refine ret_i35 rfl rfl (blk_setRow hb1 (cl .i64 ((List.range 35).map F))) hl rfl ⟨rfl, bel_setRow hbel (Nat.le_refl _) _⟩
/-- What is known of the memory while the sum is made. -/
def At4 (w : World) (d : List Nat) (x : Nat) (t : TypeId) (W : World) : Prop :=
  blk W w.heap.size (cl .u8 d) 23 ∧ blk W (w.heap.size + 1) (cl .i64 (zs 35)) 87 ∧ blk W (w.heap.size + 1 + 1) [.int .i64 (x : Int)] 3 ∧ blk W (w.heap.size + 1 + 1 + 1) [.func (.func 86) #[] #[.pointer (some ⟨w.heap.size, 0, none⟩)]] t ∧ Below w.heap.size w W
theorem At4.drew {w : World} {d : List Nat} {x : Nat} {t : TypeId} {W : World} (h : At4 w d x t W) : At4 w d x t W.drew := ⟨blk_drew h.1, blk_drew h.2.1, blk_drew h.2.2.1, blk_drew h.2.2.2.1, h.2.2.2.2.drew⟩
set_option maxRecDepth 20000 in
theorem split (w : World) (d : List Nat) (hd : d.length = 16) (hb : By d) :
    Calls Tryz.prog 60 #[agg .u8 d] w fun e w' => e = .returned (agg .i64 (sp d)) ∧ Below w.heap.size w w' := by
  go_enter Tryz.func60, Tryz.ntmps60
  go_wp2_with fail
  go_loopw [7] (fun i wr => ∃ (k : Nat) (t : TypeId), k ≤ 32 ∧ i = .int .i64 k ∧ At4 w d (sm d k) t wr) (fun i _ => 32 - (intOf i).toNat)
  case atStart =>
    exact ⟨0, _, by omega, rfl, blk_alloc (blk_alloc (blk_alloc (blk_new _ _ _) _) _) _, blk_alloc (blk_alloc (blk_at _ _ _ (by simp only [alloc_size])) _) _, blk_alloc (blk_at _ [.int .i64 0] _ (by simp only [alloc_size])) _, blk_at _ [.func (.func 86) #[] #[.pointer (some ⟨w.heap.size, 0, none⟩)]] _ (by simp only [alloc_size]),
      (((((Below.refl w.heap.size w).alloc (Nat.le_refl _) _).alloc (by simp only [alloc_size]; omega) _).alloc (by simp only [alloc_size]; omega) _).alloc (by simp only [alloc_size]; omega) _)⟩
  case round =>
    obtain ⟨k, t, hk, rfl, hA⟩ := hrel
    by_cases hk2 : k < 32
    · obtain ⟨ι, F, hF, hin⟩ := class_of (At4 w d (sm d k) t)
      have hs := sm_le d k
      have hdg := dg_le hb k
      have q1 : ∀ i, (F i).cell? ⟨w.heap.size + 1 + 1, 0, none⟩ = some (.int .i64 ((sm d k : Nat) : Int)) := fun i => (blk_cell (hF i).2.2.1 0).trans rfl
      have q2 : ∀ i, (F i).frozen? ⟨w.heap.size + 1 + 1, 0, none⟩ = false := fun i => blk_free (hF i).2.2.1 0
      have q3 : ∀ i, (F i).cell? ⟨w.heap.size + 1 + 1 + 1, 0, none⟩ = some (.func (.func 86) #[] #[.pointer (some ⟨w.heap.size, 0, none⟩)]) := fun i => (blk_cell (hF i).2.2.2.1 0).trans rfl
      have h0 := hin _ hA.drew
      have hne : Nonempty ι := ⟨h0.choose⟩
      have HF := Lib.hid hF
      have HI := Lib.hid hin
      have H0 := Lib.hid h0
      clear hF hin hA h0
      go_wp2_with fail
      refine wp_region_tail F 6 (by kernel_rfl) (by kernel_rfl) H0.out ?_
      simp only [List.take_succ_cons, List.take_zero, List.drop_succ_cons, List.drop_zero]
      repeat (go_big_quiet_step ((go_at_call 86; exact quiet_still (digit _ d k w.heap.size hd hb hk2 (HF.out _).1))))
      refine wpQuiet_nil ?_
      intro i
      go_wp2_with fail
      have hA := HF.out i
      have ev : ((sm d k : Nat) : Int) + (15 - ((dg d k : Nat) : Int)) = ((sm d (k + 1) : Nat) : Int) := by simp only [sm]; omega
      rw [ev]
      exact ⟨⟨k + 1, t, by omega, by go_num, blk_setCell_ne hA.1 _ (by simp; omega), blk_setCell_ne hA.2.1 _ (by simp), blk_setCell hA.2.2.1 0 (.int .i64 ((sm d (k + 1) : Nat) : Int)), blk_setCell_ne hA.2.2.2.1 _ (by simp), bel_setCell hA.2.2.2.2 (by simp; omega) _⟩, by simp [intOf]; omega⟩
    · obtain rfl : k = 32 := by omega
      have HA := Lib.hid hA
      clear hA
      go_wp2_with fail
      refine (each_int wr (spd d) _ _ (fun c hc W hb' => digits W d c w.heap.size _ _ hd hb hc (blk_keep HA.out.1 hb') ((blk_cell (blk_keep HA.out.2.2.2.1 hb') 0).trans rfl) ((blk_cell (blk_keep HA.out.2.2.1 hb') 0).trans rfl))).mono ?_
      rintro e w1 ⟨rfl, hb1⟩
      have hB1 := blk_keep HA.out.2.1 hb1
      have hbel := bel_trans HA.out.2.2.2.2 hb1 HA.out.2.2.2.2.size
      have hk1 := bk_of hB1
      have hl := sp_length d
      rw [show (List.range 35).map (spd d) = sp d from rfl]
      clear hb1
      go_wp2_with fail
      refine ret_i35 rfl rfl (blk_setRow hB1 (cl .i64 (sp d))) hl rfl ⟨rfl, bel_setRow hbel (by omega) _⟩
end Go.Proofs.YtlgpipdeckdmjaaGreat.One
