/-
  SHA-256 as the program has it: the digest of what has been written.
-/
import Derived.Test.YtlgpipdeckdmjaaSha6
set_option linter.unusedVariables false
set_option linter.unusedSimpArgs false
namespace Go.Proofs.Ytlgpipdeckdmjaa.Sha
open Go.RowKit Base Reg Types Slice
/-- How many zeros follow. -/
def zc (n : Nat) : Nat := (119 - n % 64) % 64
theorem zc_at (n : Nat) : (n + (zc n + 1)) % 64 = 56 := by unfold zc; omega
theorem zc_before (n k : Nat) (h : k < zc n) : (n + (k + 1)) % 64 ≠ 56 := by unfold zc at h; omega
theorem zc_le (n : Nat) : zc n < 64 := by unfold zc; omega
/-- Byte i of the length in bits. -/
def lb (n i : Nat) : Nat := n * 8 / 2 ^ (8 * i) % 256
/-- The bytes of the length, from the seventh on: k of them. -/
def lbs (n k : Nat) : List Nat := (List.range k).map fun j => lb n (7 - j)
def zeros (n k : Nat) : List Nat := 128 :: List.replicate k 0
def pad (n : Nat) : List Nat := zeros n (zc n) ++ lbs n 8
theorem zeros_succ (n k : Nat) : zeros n k ++ [0] = zeros n (k + 1) := by simp [zeros, List.replicate_succ']
theorem zeros_length (n k : Nat) : (zeros n k).length = k + 1 := by simp [zeros]
theorem lbs_succ (n k : Nat) : lbs n k ++ [lb n (7 - k)] = lbs n (k + 1) := by simp [lbs, List.range_succ]
theorem lbs_length (n k : Nat) : (lbs n k).length = k := by simp [lbs]
/-- Byte i of a digest. -/
def ob (s : List Nat) (i : Nat) : Nat := s.getD (i / 4) 0 / 2 ^ (24 - 8 * (i % 4)) % 256
theorem ob0 (s : List Nat) (k : Nat) (h : k < s.length) : ((s[k] : Nat) : Int) / 16777216 % 256 = ((ob s (4 * k) : Nat) : Int) := by
  have e : ob s (4 * k) = s[k] / 16777216 % 256 := by unfold ob; rw [show 4 * k / 4 = k by omega, show 4 * k % 4 = 0 by omega, List.getD_eq_getElem?_getD, List.getElem?_eq_getElem h]; rfl
  rw [e]; omega
theorem ob1 (s : List Nat) (k : Nat) (h : k < s.length) : ((s[k] : Nat) : Int) / 65536 % 256 = ((ob s (4 * k + 1) : Nat) : Int) := by
  have e : ob s (4 * k + 1) = s[k] / 65536 % 256 := by unfold ob; rw [show (4 * k + 1) / 4 = k by omega, show (4 * k + 1) % 4 = 1 by omega, List.getD_eq_getElem?_getD, List.getElem?_eq_getElem h]; rfl
  rw [e]; omega
theorem ob2 (s : List Nat) (k : Nat) (h : k < s.length) : ((s[k] : Nat) : Int) / 256 % 256 = ((ob s (4 * k + 2) : Nat) : Int) := by
  have e : ob s (4 * k + 2) = s[k] / 256 % 256 := by unfold ob; rw [show (4 * k + 2) / 4 = k by omega, show (4 * k + 2) % 4 = 2 by omega, List.getD_eq_getElem?_getD, List.getElem?_eq_getElem h]; rfl
  rw [e]; omega
theorem ob3 (s : List Nat) (k : Nat) (h : k < s.length) : ((s[k] : Nat) : Int) % 256 = ((ob s (4 * k + 3) : Nat) : Int) := by
  have e : ob s (4 * k + 3) = s[k] % 256 := by
    unfold ob; rw [show (4 * k + 3) / 4 = k by omega, show (4 * k + 3) % 4 = 3 by omega, List.getD_eq_getElem?_getD, List.getElem?_eq_getElem h]
    show s[k] / 1 % 256 = _
    rw [Nat.div_one]
  rw [e]; omega
def outs (s : List Nat) : List Nat := (List.range 32).map (ob s)
/-- SHA-256. -/
def sha (M : List Nat) : List Nat := outs (absorb ini (M ++ pad M.length)).1
theorem sl_lit (w : World) (l : List Nat) (n : Nat) (hn : n = l.length) (h : l.length ≤ 1099511627776) {b : Nat} (hb : b = w.heap.size) : Sl (w.alloc (.cells (cl .u8 l).toArray 5)) (.slice (some ⟨b, 0, none⟩) n n) l := by
  subst hb; subst hn
  exact SlC.of_own (own_bytes w l h)
theorem sum_calls (w : World) (base g : Nat) (M : List Nat) (h : HM w base g M) (hM : M.length ≤ 1000000) :
    Calls Try.prog 133 #[.pointer (some ⟨g, 0, none⟩)] w fun e w' => e = .returned (agg .u8 (sha M)) ∧ Below w.heap.size w w' := by
  have H := Lib.hid h
  clear h
  go_enter Try.func133, Try.ntmps133
  go_wp2_with fail
  refine (clone_calls _ base g M (H.out.keep ((Below.refl _ _).alloc (Nat.le_refl _) _))).mono ?_
  rintro e w1 ⟨g1, rfl, h1, hb1⟩
  have hB1 := blk_keep (blk_new w (cl .u8 (zs 32)) 179) hb1
  have hbel1 := bel_trans ((Below.refl _ w).alloc (Nat.le_refl _) _) hb1 (by simp only [alloc_size]; omega)
  clear hb1
  go_wp2_with fail
  have hP0 : Own (w1.alloc (.cells (cl .u8 [128]).toArray 5)) w1.heap.size (.slice (some ⟨w1.heap.size, 0, none⟩) 1 1) [128] := own_bytes w1 [128] (by simp)
  have hbz := zc_le M.length
  have HH1 := Lib.hid h1
  have HB1 := Lib.hid hB1
  clear h1 hB1
  go_loopw [4] (fun v wr => ∃ k, k ≤ zc M.length ∧ Own wr w1.heap.size v (zeros M.length k) ∧ Below w1.heap.size w1 wr) (fun v _ => zc M.length + 1 - slen v)
  case atStart => exact ⟨0, by omega, hP0, (Below.refl _ _).alloc (Nat.le_refl _) _⟩
  case round =>
    obtain ⟨k, hk, ho, hb⟩ := hrel
    clear hP0
    obtain ⟨A, c, rfl⟩ := own_slice ho
    have HO := Lib.hid ho
    obtain ⟨r, hr1, -⟩ := HH1.out.keep hb
    have c9 := hr1.c9 (absorb_state _ ini M rfl ini_length)
    clear hr1 ho
    by_cases hkz : k < zc M.length
    · have ht : ((M.length : Int) + ((zeros M.length k).length : Int)) % 64 ≠ 56 := by rw [zeros_length]; have := zc_before M.length k hkz; omega
      have hl := zeros_length M.length k
      go_wp2_with (
        at_builtin
        go_loud (refine wpList_append_bytes rfl (.tmp 25) (.tmp 26) rfl rfl rfl (own_keep HO.out ((Below.refl _ _).alloc (Nat.le_refl _) _)) (sl_lit wr [0] 1 rfl (by simp) rfl) (by simp [zeros_length]; omega) (by simp only [alloc_size]; have := hb.size; omega) ?_; intro v1 w2 ho1 hg1))
      have hb2 := (bel_trans hb ((Below.refl _ wr).alloc (Nat.le_refl _) (.cells #[.int .u8 0] 5)) hb.size).grown hg1 (by simp only [alloc_size]; have := hb.size; omega) (fun k hk => own_block HO.out k (by simpa [Act.eval] using hk))
      rw [zeros_succ] at ho1
      refine ⟨⟨k + 1, by omega, ho1, hb2⟩, ?_⟩
      rw [slen_own ho1, slen_own HO.out]
      simp only [zeros_length]
      omega
    · obtain rfl : k = zc M.length := by omega
      have ht : ((M.length : Int) + ((zc M.length : Int) + 1)) % 64 = 56 := by have := zc_at M.length; omega
      have hl := zeros_length M.length (zc M.length)
      clear hkz
      go_wp2_with fail
      go_loopw [4, 5] (fun v i wr => ∃ k : Nat, k ≤ 8 ∧ i = .int .i64 (7 - (k : Int)) ∧ Own wr w1.heap.size v (zeros M.length (zc M.length) ++ lbs M.length k) ∧ Below w1.heap.size w1 wr) (fun _ i _ => (intOf i + 1).toNat)
      case atStart => exact ⟨0, by omega, rfl, by simpa [lbs] using HO.out, hb⟩
      case round =>
        clear HO hb ht hl c9 hk
        obtain ⟨k, hk, rfl, ho, hb⟩ := hrel
        obtain ⟨A2, c2, rfl⟩ := own_slice ho
        have HO := Lib.hid ho
        obtain ⟨r, hr1, -⟩ := HH1.out.keep hb
        have c9 := hr1.c9 (absorb_state _ ini M rfl ini_length)
        have hl : (zeros M.length (zc M.length) ++ lbs M.length k).length = zc M.length + 1 + k := by simp [zeros_length, lbs_length]
        obtain ⟨L, hL⟩ : ∃ L, L = zeros M.length (zc M.length) ++ lbs M.length k := ⟨_, rfl⟩
        rw [← hL] at HO hl
        rw [← hL]
        clear hr1 ho
        by_cases hk8 : k < 8
        · have i1 : (0 : Int) ≤ 7 - (k : Int) := by omega
          have hlb : ((M.length : Int) * 8 / 2 ^ (8 * (7 - k)) % 256) = ((lb M.length (7 - k) : Nat) : Int) := by simp [lb]
          go_wp2_with (
            at_builtin
            go_loud (refine wpList_append_bytes rfl (.tmp 32) (.tmp 43) rfl rfl rfl (own_keep HO.out ((Below.refl _ _).alloc (Nat.le_refl _) _)) (sl_lit wr [lb M.length (7 - k)] 1 rfl (by simp) rfl) (by simp only [List.length_cons, List.length_nil]; omega) (by simp only [alloc_size]; have := hb.size; omega) ?_; intro v1 w2 ho1 hg1))
          have hb2 := (bel_trans hb ((Below.refl _ wr).alloc (Nat.le_refl _) (.cells #[.int .u8 ((lb M.length (7 - k) : Nat) : Int)] 5)) hb.size).grown hg1 (by simp only [alloc_size]; have := hb.size; omega) (fun k hk => own_block HO.out k (by simpa [Act.eval] using hk))
          rw [hL, List.append_assoc, lbs_succ] at ho1
          go_roundw
          case rel => exact ⟨k + 1, by omega, by go_num, ho1, hb2⟩
          case measure => simp [intOf]; omega
        · obtain rfl : k = 8 := by omega
          rw [show zeros M.length (zc M.length) ++ lbs M.length 8 = pad M.length from rfl] at hL
          have HL := Lib.hid hL
          have HN := Lib.hid hl
          clear hL hl
          have i1 : (7 : Int) - ((8 : Nat) : Int) = -1 := by omega
          obtain ⟨r2, h2, h3, h4, h5⟩ := HH1.out.keep hb
          go_wp2_with fail
          go_wp2_with fail
          have hT1 : (absorb ini M).2.length + L.length ≤ 1048576 := by have := absorb_rest _ ini M rfl; have := HN.out; omega
          have hT2 : Sl wr (.slice A2 L.length c2) L := SlC.of_own HO.out
          have hT3 := absorb_state _ ini M rfl ini_length
          have hT := take_calls g1 (absorb ini M).1 hT3 r2 (.slice A2 L.length c2) M.length (absorb ini M).2 L wr h2 h3 hT2 hT1
          refine hT.mono ?_
          rintro e w2 ⟨rfl, hg2, r3, H1, H2, H4⟩
          rw [← absorb_append _ ini M _ rfl, HL.out] at H1
          obtain ⟨s1, hs1⟩ : ∃ s1, s1 = (absorb ini (M ++ pad M.length)).1 := ⟨_, rfl⟩
          have es : sha M = outs s1 := by rw [hs1]; rfl
          rw [← hs1] at H1
          have hl8 : s1.length = 8 := by rw [hs1]; exact absorb_state _ ini _ rfl ini_length
          clear hs1 h2 h3 h4 c9 H2 H4 hT hT1 hT2 hT3 i1
          have hbel2 : Below w.heap.size w w2 := by
            have hx : Below (w.heap.size + 1) wr w2 := ⟨hg2.os, hg2.tape, hg2.output, hg2.size, fun k hk => hg2.block k (by have := blk_lt HB1.out; have := hb.size; omega) (by simp at h5 ⊢; omega)⟩
            exact (bel_trans hbel1 hb hbel1.size).trans (hx.mono (by omega))
          have hB2 : blk w2 w.heap.size (cl .u8 (zs 32)) 179 := (hg2.block _ (by have := blk_lt HB1.out; have := hb.size; omega) (by simp at h5 ⊢; omega)).trans (blk_below HB1.out hb (blk_lt HB1.out))
          have hlt1 := blk_lt H1
          have q1 : ldGot Try.prog 197 g1 8 (w2.alloc (.cells (cl .u8 (zs 32)).toArray 179)) (bk w2 g1) = .ok (agg .u32 s1) (w2.alloc (.cells (cl .u8 (zs 32)).toArray 179)) := by
            have h := HB.ld (w := w2.alloc (.cells (cl .u8 (zs 32)).toArray 179)) (blk_alloc H1 _) hl8
            rwa [bk_alloc_past _ (blk_lt H1)] at h
          have HBB := Lib.hid hB2
          clear hB2 HO H1
          go_wp2_with fail
          have e68 : Value.agg #[.int .u32 (s1[0] : Nat), .int .u32 (s1[1] : Nat), .int .u32 (s1[2] : Nat), .int .u32 (s1[3] : Nat), .int .u32 (s1[4] : Nat), .int .u32 (s1[5] : Nat), .int .u32 (s1[6] : Nat), .int .u32 (s1[7] : Nat)] = agg .u32 s1 := by
            match s1, hl8 with
            | [a, b, c, d, e, f, g, h], _ => rfl
          rw [e68]
          clear e68 q1
          go_loopw [69] (fun i wr => ∃ k : Nat, k ≤ 8 ∧ i = .int .i64 k ∧ blk wr w2.heap.size (cl .u8 (upto 32 (4 * k) (ob s1))) 179 ∧ Below w2.heap.size w2 wr) (fun i _ => 8 - (intOf i).toNat)
          case atStart => exact ⟨0, by omega, rfl, by rw [show 4 * 0 = 0 from rfl, upto_zero]; exact blk_alloc (blk_new _ _ _) _, (((Below.refl _ _).alloc (Nat.le_refl _) _).alloc (by simp only [alloc_size]; omega) _)⟩
          case round =>
            obtain ⟨k, hk, rfl, hbk, hbel3⟩ := hrel
            by_cases hk8 : k < 8
            · have hu : (upto 32 (4 * k) (ob s1)).length = 32 := upto_length _ _ _
              have f0 := blk_free hbk (4 * k)
              have f1 := blk_free hbk (4 * k + 1)
              have f2 := blk_free hbk (4 * k + 2)
              have f3 := blk_free hbk (4 * k + 3)
              have c0 := (blk_cell hbk (4 * k)).trans (cl_get _ _ _ (by omega))
              have c1 := (blk_cell hbk (4 * k + 1)).trans (cl_get _ _ _ (by omega))
              have c2 := (blk_cell hbk (4 * k + 2)).trans (cl_get _ _ _ (by omega))
              have c3 := (blk_cell hbk (4 * k + 3)).trans (cl_get _ _ _ (by omega))
              have HK := Lib.hid hbk
              clear hbk
              go_wp2
              rw [ob0 s1 k (by omega), ob1 s1 k (by omega), ob2 s1 k (by omega), ob3 s1 k (by omega)]
              refine ⟨⟨k + 1, by omega, by go_num, ?_, bel_setCell (bel_setCell (bel_setCell (bel_setCell hbel3 (by simp) _) (by simp) _) (by simp) _) (by simp) _⟩, by simp [intOf]; omega⟩
              have h := blk_setCell (blk_setCell (blk_setCell (blk_setCell HK.out (4 * k) (.int .u8 ((ob s1 (4 * k) : Nat) : Int))) (4 * k + 1) (.int .u8 ((ob s1 (4 * k + 1) : Nat) : Int))) (4 * k + 2) (.int .u8 ((ob s1 (4 * k + 2) : Nat) : Int))) (4 * k + 3) (.int .u8 ((ob s1 (4 * k + 3) : Nat) : Int))
              rw [cl_set, upto_set 32 _ _ (by omega), cl_set, upto_set 32 _ _ (by omega), cl_set, upto_set 32 _ _ (by omega), cl_set, upto_set 32 _ _ (by omega)] at h
              exact h
            · obtain rfl : k = 8 := by omega
              rw [show 4 * 8 = 32 from rfl, upto_full, show (List.range 32).map (ob s1) = outs s1 from rfl] at hbk
              have hou : (outs s1).length = 32 := by simp [outs]
              have hb3 := bk_of hbk
              have hb4 := bk_of (blk_below HBB.out hbel3 (blk_lt HBB.out))
              go_wp2_with fail
              refine ret_dig rfl rfl (blk_setRow (blk_below HBB.out hbel3 (blk_lt HBB.out)) (cl .u8 (outs s1))) hou rfl ⟨by rw [es], bel_setRow (bel_trans hbel2 hbel3 hbel2.size) (Nat.le_refl _) _⟩
/-- sha256.Sum. -/
theorem sum_all (w : World) (M : List Nat) (x : Value) (hx : Sl w x M) (hM : M.length ≤ 1000000) :
    Calls Try.prog 123 #[x] w fun e w' => e = .returned (agg .u8 (sha M)) ∧ Below w.heap.size w w' := by
  have H := Lib.hid hx
  clear hx
  go_enter Try.func123, Try.ntmps123
  go_wp2_with fail
  refine (new_calls _).mono ?_
  rintro e w1 ⟨g1, rfl, h1, hb1⟩
  have hB1 := blk_keep (blk_new w (cl .u8 (zs 32)) 179) hb1
  have hbel1 := bel_trans ((Below.refl _ w).alloc (Nat.le_refl _) _) hb1 (by simp only [alloc_size]; omega)
  have HH := Lib.hid h1
  have HB1 := Lib.hid hB1
  have hs1 := hb1.size
  clear h1 hB1 hb1
  go_wp2_with fail
  refine (write_calls w1 _ g1 [] M x HH.out (H.out.keep hbel1) (by simp; omega) hs1).mono ?_
  rintro e w2 ⟨rfl, h2, hb2⟩
  rw [alloc_size] at hb2
  rw [List.nil_append] at h2
  have hB2 := blk_below HB1.out hb2 (by omega)
  have hbel2 := hbel1.trans (hb2.mono (by omega))
  have HH2 := Lib.hid h2
  have HB2 := Lib.hid hB2
  clear h2 hB2 hb2 HH HB1
  go_wp2_with fail
  refine (sum_calls w2 _ g1 M HH2.out hM).mono ?_
  rintro e w3 ⟨rfl, hb3⟩
  have hB3 := blk_keep HB2.out hb3
  have hbel3 := bel_trans hbel2 hb3 hbel2.size
  have hb := bk_of hB3
  have hl : (sha M).length = 32 := by simp [sha, outs]
  clear hb3
  go_wp2_with fail
  refine ret_dig rfl rfl (blk_setRow hB3 (cl .u8 (sha M))) hl rfl ⟨rfl, bel_setRow hbel3 (Nat.le_refl _) _⟩
end Go.Proofs.Ytlgpipdeckdmjaa.Sha
