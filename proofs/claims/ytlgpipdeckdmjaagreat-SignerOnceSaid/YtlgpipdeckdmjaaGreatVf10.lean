/-
  Several texts laid into one (merge.py): Mer1, Mer2, Mer3, Mer4.
-/
import Derived.Test.YtlgpipdeckdmjaaGreatVf09
import Derived.Lib.AppendZeros
import Derived.Great.BuildSlice
/-
  merkle: the hash of bytes; a leaf's node.
-/
set_option linter.unusedVariables false
set_option linter.unusedSimpArgs false
namespace Go.Proofs.YtlgpipdeckdmjaaGreat.Mer
open Go.RowKit Base Reg Types Slice Sha
open Go.Proofs.YtlgpipdeckdmjaaGreat.One
def leafN (i : Nat) (v : List Nat) : List Nat := hf (hd 0 i ++ v)
def joinN (lv : Nat) (a b : List Nat) : List Nat := hf ([1, lv % 256] ++ a ++ b)
theorem leafN_length (i : Nat) (v : List Nat) : (leafN i v).length = 16 := hf_length _
theorem joinN_length (lv : Nat) (a b : List Nat) : (joinN lv a b).length = 16 := hf_length _
theorem mhash (w : World) (M : List Nat) (x : Value) (hx : Sl w x M) (hM : M.length ≤ 1000000) :
    Calls Tryz.prog 80 #[x] w fun e w' => e = .returned (agg .u8 (hf M)) ∧ Below w.heap.size w w' := by
  have H := Lib.hid hx
  clear hx
  go_enter Tryz.func80, Tryz.ntmps80
  go_wp2_with fail
  refine (sumHalf _ M x (H.out.keep ((Below.refl _ _).alloc (Nat.le_refl _) _)) hM).mono ?_
  rintro e w1 ⟨rfl, hb1⟩
  have hB1 := blk_keep (blk_new w (cl .u8 (zs 16)) 81) hb1
  have hbel1 := bel_trans ((Below.refl _ w).alloc (Nat.le_refl _) _) hb1 (by simp only [alloc_size]; omega)
  have hl := hf_length M
  have k1 := bk_of hB1
  clear hb1
  go_wp2_with fail
  refine ret_node rfl rfl (blk_setRow hB1 (cl .u8 (hf M))) hl rfl ⟨rfl, bel_setRow hbel1 (Nat.le_refl _) _⟩
set_option maxRecDepth 20000 in
theorem mleaf (w : World) (i : Nat) (b : List Nat) (x : Value) (hx : Sl w x b) (hb : b.length ≤ 999000) (hi : i ≤ 65535) :
    Calls Tryz.prog 46 #[.int .i64 (i : Int), x] w fun e w' => e = .returned (agg .u8 (leafN i b)) ∧ Below w.heap.size w w' := by
  have H := Lib.hid hx
  clear hx
  go_enter Tryz.func46, Tryz.ntmps46
  have eh : ∀ W : World, W.alloc (.cells #[.int .u8 0, .int .u8 ((i : Int) / 16777216), .int .u8 ((i : Int) / 65536), .int .u8 ((i : Int) / 256), .int .u8 ((i : Int) % 256)] 5) = W.alloc (.cells (cl .u8 (hd 0 i)).toArray 5) := by
    intro W
    have h1 : (i : Int) / 16777216 = ((i / 16777216 % 256 : Nat) : Int) := by omega
    have h2 : (i : Int) / 65536 = ((i / 65536 % 256 : Nat) : Int) := by omega
    have h3 : (i : Int) / 256 = ((i / 256 % 256 : Nat) : Int) := by omega
    have h4 : (i : Int) % 256 = ((i % 256 : Nat) : Int) := by omega
    rw [h1, h2, h3, h4]
    rfl
  have EH := Lib.hid eh
  clear eh
  go_wp2_with (
    at_builtin
    rw [EH.out]
    refine wpList_append_bytes rfl (.tmp 19) (.tmp 20) rfl rfl rfl (base := w.heap.size + 1) (l := hd 0 i) ?_ ((H.out.keep ((Below.refl _ _).alloc (Nat.le_refl _) (.cells (cl .u8 (zs 16)).toArray 81))).keep ((Below.refl _ _).alloc (Nat.le_refl _) _)) (by simp [hd]; omega) (by simp only [alloc_size]; omega) ?_
    · have h := own_bytes (w.alloc (.cells (cl .u8 (zs 16)).toArray 81)) (hd 0 i) (by simp [hd])
      rw [alloc_size] at h
      exact h
    intro v1 w1 ho1 hg1)
  have hB0 := blk_alloc (blk_new w (cl .u8 (zs 16)) 81) (.cells (cl .u8 (hd 0 i)).toArray 5)
  have hb0 := (((Below.refl w.heap.size w).alloc (Nat.le_refl _) (.cells (cl .u8 (zs 16)).toArray 81)).alloc (by simp only [alloc_size]; omega) (.cells (cl .u8 (hd 0 i)).toArray 5))
  have hb1 := hb0.grown hg1 hb0.size (fun k hk => by simp [Act.eval, Value.ownBlock] at hk; omega)
  have hB1 := blk_grown hB0 hg1 (by simp [Act.eval, Value.ownBlock])
  have hsl := SlC.of_own ho1
  have HB1 := Lib.hid hB1
  clear hb0 hB0 hg1 ho1 hB1
  go_wp2_with fail
  refine (mhash _ (hd 0 i ++ b) _ hsl (by simp [hd]; omega)).mono ?_
  rintro e w2 ⟨rfl, hb2⟩
  have hB2 := blk_keep HB1.out hb2
  have k2 := bk_of hB2
  have hbel := bel_trans hb1 hb2 hb1.size
  have hl := leafN_length i b
  rw [show hf (hd 0 i ++ b) = leafN i b from rfl]
  clear hb2 hsl
  go_wp2_with fail
  refine ret_node rfl rfl (blk_setRow hB2 (cl .u8 (leafN i b))) hl rfl ⟨rfl, bel_setRow hbel (Nat.le_refl _) _⟩
theorem mcheck (w : World) (A : Option Addr) (n c : Nat) (hn : n = 1 ∨ n = 2 ∨ n = 4 ∨ n = 8 ∨ n = 16 ∨ n = 32 ∨ n = 64 ∨ n = 128 ∨ n = 256) :
    Calls Tryz.prog 65 #[.slice A n c] w fun e w' => e = .returned (.int .i64 0) ∧ w = w' := by
  rcases hn with rfl | rfl | rfl | rfl | rfl | rfl | rfl | rfl | rfl
  all_goals
    go_enter Tryz.func65, Tryz.ntmps65
    go_wp2
    go_ret
    exact ⟨rfl, rfl⟩
end Go.Proofs.YtlgpipdeckdmjaaGreat.Mer
/-
  slices.Grow and slices.Concat at bytes; merkle.Join.
-/
set_option linter.unusedVariables false
set_option linter.unusedSimpArgs false
namespace Go.Proofs.YtlgpipdeckdmjaaGreat.Mer
open Go.RowKit Base Reg Types Slice Sha
open Go.Proofs.YtlgpipdeckdmjaaGreat.One
theorem grow (w : World) (n : Nat) (h0 : 0 < n) (hn : n ≤ 1000000) :
    Calls Tryz.prog 118 #[.slice none 0 0, .int .i64 (n : Int)] w fun e w' => ∃ v, e = .returned v ∧ Own w' w.heap.size v [] ∧ Below w.heap.size w w' := by
  have hrz : ∀ ty, (Builtin.append_ #[97, 3] ty #[.slice none 0 0, .int .i64 (n : Int)]).run Tryz.prog w = _ := fun ty =>
    Lib.run_append_nil_zeros (P := Tryz.prog) w 97 3 ty 5 ((Tryz.prog.info? 5).get (by kernel_rfl)) (.int .u8 0) .i64 .i64 Tryz.underlying97 Tryz.underlying3 (by kernel_rfl) (by kernel_rfl) n h0 (by rw [show ((Tryz.prog.info? 5).get (by kernel_rfl)).size = 1 from by kernel_rfl]; omega) (by omega) (by
      rw [show ((Tryz.prog.info? 5).get (by kernel_rfl)).bytes = 1 from by kernel_rfl]; omega)
  obtain ⟨G, hG⟩ : ∃ G, G = grownCap w n 0 5 := ⟨_, rfl⟩
  have hGn : n ≤ G := by rw [hG]; exact grownCap_ge w _ _ _
  have hG63 : G ≤ maxLen := by rw [hG]; exact grownCap_le_maxLen w n 0 5 (by unfold maxLen; omega)
  rw [← hG] at hrz
  have hcs : Builtin.zeroCells (Value.int .u8 0).cells n ++ Builtin.zeroCells (Value.int .u8 0).cells (G - n) = (cl .u8 (zs G)).toArray := by
    apply Array.ext'
    have e : ∀ m, (Builtin.zeroCells (Value.int .u8 0).cells m).toList = cl .u8 (zs m) := by
      intro m
      apply List.ext_getElem (by simp [Builtin.zeroCells, Value.cells, cl, zs])
      intro j h1 h2
      simp [Builtin.zeroCells, Value.cells, cl, zs, Nat.mod_one]
    rw [Array.toList_append, e, e, cl_append]
    congr 1
    simp [zs]
    omega
  rw [hcs] at hrz
  have hown : Own (w.drew.alloc (.cells (cl .u8 (zs G)).toArray 5)) w.heap.size (.slice (some ⟨w.heap.size, 0, none⟩) 0 G) [] := by
    have h := World.ownsRow_made (e := 5) (size := 1) (base := w.heap.size) w.drew (cl .u8 (zs G)).toArray G (Nat.le_refl _) hG63 (by simp [cl_length, zs_length])
    exact h
  have HO := Lib.hid hown
  have HG := Lib.hid hG63
  clear hG hcs hG63 hown
  have hG64 : G ≤ 9223372036854775807 := by have := HG.out; unfold maxLen at this; omega
  go_enter Tryz.func118, Tryz.ntmps118
  go_wp2_with (at_builtin; refine Lib.wpList_append_run _ rfl _ _ _ _ rfl _ _ rfl rfl _ _ (hrz _) ?_)
  go_ret
  exact ⟨_, rfl, HO.out, (bel_drewN (Below.refl w.heap.size w) 1).alloc (Nat.le_refl _) _⟩
set_option maxRecDepth 20000 in
set_option maxHeartbeats 4000000 in
theorem concat (w : World) (b o c : Nat) (n : Nat) (vs : List Value) (ls : List (List Nat)) (hn : n = vs.length) (hnl : n = ls.length) (hlt : b < w.heap.size) (hn63 : n ≤ 1000000)
    (hv : ∀ k, k < n → w.cell? ⟨b, o + k, none⟩ = some (vs.getD k undef)) (hl : ∀ k, k < n → Sl w (vs.getD k undef) (ls.getD k [])) (hm : ls.flatten.length ≤ 999000) (h0 : 0 < ls.flatten.length) :
    Calls Tryz.prog 111 #[.slice (some ⟨b, o, none⟩) n c] w fun e w' => ∃ v, e = .returned v ∧ Own w' w.heap.size v ls.flatten ∧ Below w.heap.size w w' := by
  have HV := Lib.hid hv
  have HL := Lib.hid hl
  have HM := Lib.hid hm
  have HN := Lib.hid hnl
  have H0 := Lib.hid h0
  clear hv hl hm hn hnl h0
  go_enter Tryz.func111, Tryz.ntmps111
  go_wp2_with fail
  go_loop [3, 11] (fun t i => ∃ k : Nat, k ≤ n ∧ i = .int .i64 k ∧ t = .int .i64 (((ls.take k).flatten.length : Nat) : Int)) (fun _ i => n - (intOf i).toNat)
  case atStart => exact ⟨0, by omega, rfl, rfl⟩
  case round =>
    obtain ⟨k, hk, rfl, rfl⟩ := hrel
    by_cases hkn : k < n
    · have hcell := HV.out k hkn
      have hsl := HL.out k hkn
      have h1 := take_flat_le ls (k + 1)
      have h1' := h1
      rw [take_flat, List.length_append] at h1
      have h2 := HM.out
      obtain ⟨T, hT⟩ : ∃ T, T = (ls.take k).flatten.length := ⟨_, rfl⟩
      obtain ⟨m, hm⟩ : ∃ m, m = (ls.getD k []).length := ⟨_, rfl⟩
      have e : (ls.take (k + 1)).flatten.length = T + m := by rw [take_flat, List.length_append, hT, hm]
      have hTm : T + m ≤ 999000 := by omega
      rw [← hT]
      have hs2 : ∃ A cc, vs.getD k undef = .slice A m cc := by
        obtain ⟨A, cc, h, -⟩ := hsl
        exact ⟨A, cc, by rw [h, hm]⟩
      obtain ⟨A, cc, hA⟩ := hs2
      rw [hA] at hcell
      have E := Lib.hid e
      clear hsl h1 h1' h2 hT hm e hA
      go_wp2_with fail
      refine ⟨⟨k + 1, by omega, by go_num, ?_⟩, by simp [intOf]; omega⟩
      rw [E.out]
      go_num
    · obtain rfl : k = n := by omega
      have e : (ls.take k).flatten.length = ls.flatten.length := by rw [HN.out, List.take_length]
      rw [e]
      clear e
      obtain ⟨T, hT⟩ : ∃ T, T = ls.flatten.length := ⟨_, rfl⟩
      have h0 : 0 < T := by rw [hT]; exact H0.out
      have hm : T ≤ 999000 := by rw [hT]; exact HM.out
      rw [← hT]
      have HT := Lib.hid hT
      clear hT
      go_wp2_with fail
      refine (grow w T h0 (by omega)).mono ?_
      rintro e w1 ⟨v1, rfl, ho1, hb1⟩
      have S0 := Lib.hid (And.intro ho1 hb1)
      clear ho1 hb1
      go_wp2_with fail
      go_loopw [6, 27] (fun v i wr => ∃ j : Nat, j ≤ k ∧ i = .int .i64 j ∧ Own wr w.heap.size v (ls.take j).flatten ∧ Below w.heap.size w wr ∧ w.heap.size ≤ wr.heap.size) (fun _ i _ => k - (intOf i).toNat)
      case atStart => exact ⟨0, by omega, rfl, S0.out.1, S0.out.2, S0.out.2.size⟩
      case round =>
        clear S0
        obtain ⟨j, hj, rfl, ho, hb, hsz⟩ := hrel
        by_cases hjn : j < k
        · have hcell := (hb.cell (p := ⟨b, o + j, none⟩) hlt).trans (HV.out j hjn)
          have hsl := (HL.out j hjn).keep hb
          obtain ⟨L, hL⟩ : ∃ L, L = (ls.take j).flatten := ⟨_, rfl⟩
          rw [← hL] at ho
          have hle : L.length + (ls.getD j []).length ≤ 1000000 := by
            have h1 := take_flat_le ls (j + 1)
            rw [take_flat, List.length_append] at h1
            have h2 := HM.out
            rw [hL]
            omega
          obtain ⟨u, hu⟩ : ∃ u, u = vs.getD j undef := ⟨_, rfl⟩
          rw [← hu] at hcell hsl
          have HO := Lib.hid ho
          have HS := Lib.hid hsl
          have HE := Lib.hid hle
          have HLL := Lib.hid hL
          obtain ⟨Au, cu, rfl, -⟩ := id hsl
          clear ho hsl hle hL hu
          go_wp2_with (
            at_builtin
            refine wpList_append_bytes rfl (.tmp 31) (.tmp 32) rfl rfl rfl HO.out HS.out (by have := HE.out; omega) hsz ?_
            intro v1 w2 ho1 hg1)
          have hb2 := hb.grown hg1 hb.size (fun k hk => by have := own_block HO.out k (by simpa [Act.eval] using hk); omega)
          have hs2 := hg1.size
          clear hg1
          go_roundw
          case rel =>
            refine ⟨j + 1, by omega, by go_num, ?_, hb2, by omega⟩
            rw [take_flat, ← HLL.out]
            exact ho1
          case measure => simp [intOf]; omega
        · obtain rfl : j = k := by omega
          rw [HN.out, List.take_length] at ho
          have HO := Lib.hid ho
          clear ho
          go_wp2_with fail
          go_ret
          exact ⟨_, rfl, HO.out, hb⟩
end Go.Proofs.YtlgpipdeckdmjaaGreat.Mer
/-
  merkle.Join.
-/
set_option linter.unusedVariables false
set_option linter.unusedSimpArgs false
namespace Go.Proofs.YtlgpipdeckdmjaaGreat.Mer
open Go.RowKit Base Reg Types Slice Sha
open Go.Proofs.YtlgpipdeckdmjaaGreat.One
/-- The frame of Join while its pieces are gathered. -/
def FrJ (w : World) (lv : Nat) (a b : List Nat) (u7 u8 u9 u10 u11 : Value) : Act :=
  { tmps := #[.int .i64 (lv : Int), agg .u8 a, agg .u8 b, undef, .pointer (some ⟨w.heap.size, 0, none⟩), .pointer (some ⟨w.heap.size + 1, 0, none⟩), .pointer (some ⟨w.heap.size + 1 + 1, 0, none⟩), u7, u8, u9, u10, u11, undef, undef, undef], defers := [] }
def BJ (w : World) (lv : Nat) (a b : List Nat) (x : Act) (W : World) : Prop :=
  ∃ u7 u8 u9 u10 u11, x = FrJ w lv a b u7 u8 u9 u10 u11 ∧ blk W w.heap.size (cl .u8 a) 81 ∧ blk W (w.heap.size + 1) (cl .u8 b) 81 ∧ blk W (w.heap.size + 1 + 1) (cl .u8 (zs 16)) 81 ∧ Below w.heap.size w W
def GJ (w : World) (lv : Nat) (i : Nat) (x : Act) (W : World) : Prop := match i with
  | 0 => x.tmps.getD 7 undef = .int .i64 (lv : Int)
  | 1 => x.tmps.getD 8 undef = .int .u8 (lv : Int)
  | 2 => ∃ p, x.tmps.getD 9 undef = .slice (some ⟨p, 0, none⟩) 2 2 ∧ w.heap.size + 1 + 1 < p ∧ blk W p [.int .u8 1, .int .u8 (lv : Int)] 5
  | 3 => x.tmps.getD 10 undef = .slice (some ⟨w.heap.size, 0, none⟩) 16 16
  | 4 => x.tmps.getD 11 undef = .slice (some ⟨w.heap.size + 1, 0, none⟩) 16 16
  | _ => True
set_option maxRecDepth 20000 in
set_option maxHeartbeats 4000000 in
theorem join (w : World) (lv : Nat) (a b : List Nat) (ha : a.length = 16) (hb : b.length = 16) (hlv : lv ≤ 200) :
    Calls Tryz.prog 92 #[.int .i64 (lv : Int), agg .u8 a, agg .u8 b] w fun e w' => e = .returned (agg .u8 (joinN lv a b)) ∧ Below w.heap.size w w' := by
  go_enter Tryz.func92, Tryz.ntmps92
  go_wp2_with fail
  refine Ord.wp_region_inv 5 (BJ w lv a b) (GJ w lv) (by kernel_rfl) (by kernel_rfl) ⟨undef, undef, undef, undef, undef, rfl, blk_drew (blk_alloc (blk_alloc (blk_new _ _ _) _) _), blk_drew (blk_alloc (blk_at _ _ _ (by simp only [alloc_size])) _), blk_drew (blk_at _ _ _ (by simp only [alloc_size])), ((((Below.refl w.heap.size w).alloc (Nat.le_refl _) _).alloc (by simp only [alloc_size]; omega) _).alloc (by simp only [alloc_size]; omega) _).drew⟩ ?_ ?_
  · intro i op hi ho x W hB hG
    obtain ⟨u7, u8, u9, u10, u11, rfl, hA⟩ := hB
    have HA := Lib.hid hA
    clear hA
    match i, hi with
    | 0, _ =>
      cases ho
      clear hG
      unfold FrJ
      go_wp2_with fail
      refine ⟨⟨_, u8, u9, u10, u11, rfl, HA.out⟩, rfl, ?_⟩
      intro j hj hji h
      match j, hj with
      | 0, _ => exact absurd rfl hji
      | 1, _ => exact h
      | 2, _ => exact h
      | 3, _ => exact h
      | 4, _ => exact h
    | 1, _ =>
      cases ho
      have g : u7 = .int .i64 (lv : Int) := hG ⟨0, .data⟩ (by simp) rfl
      subst g
      clear hG
      unfold FrJ
      go_wp2_with fail
      refine ⟨⟨_, _, u9, u10, u11, rfl, HA.out⟩, rfl, ?_⟩
      intro j hj hji h
      match j, hj with
      | 0, _ => exact h
      | 1, _ => exact absurd rfl hji
      | 2, _ => exact h
      | 3, _ => exact h
      | 4, _ => exact h
    | 2, _ =>
      cases ho
      have g : u8 = .int .u8 (lv : Int) := hG ⟨1, .data⟩ (by simp) rfl
      subst g
      clear hG
      unfold FrJ
      go_wp2_with fail
      have hk : Below W.heap.size W (W.alloc (.cells #[.int .u8 1, .int .u8 (lv : Int)] 5)) := (Below.refl _ _).alloc (Nat.le_refl _) _
      refine ⟨⟨u7, _, _, u10, u11, rfl, blk_keep HA.out.1 hk, blk_keep HA.out.2.1 hk, blk_keep HA.out.2.2.1 hk, bel_trans HA.out.2.2.2 hk HA.out.2.2.2.size⟩, ⟨_, rfl, by have := blk_lt HA.out.2.2.1; omega, blk_new W [.int .u8 1, .int .u8 (lv : Int)] _⟩, ?_⟩
      intro j hj hji h
      match j, hj with
      | 0, _ => exact h
      | 1, _ => exact h
      | 2, _ => exact absurd rfl hji
      | 3, _ => exact h
      | 4, _ => exact h
    | 3, _ =>
      cases ho
      clear hG
      unfold FrJ
      go_wp2_with fail
      refine ⟨⟨u7, u8, u9, _, u11, rfl, HA.out⟩, rfl, ?_⟩
      intro j hj hji h
      match j, hj with
      | 0, _ => exact h
      | 1, _ => exact h
      | 2, _ => exact h
      | 3, _ => exact absurd rfl hji
      | 4, _ => exact h
    | 4, _ =>
      cases ho
      clear hG
      unfold FrJ
      go_wp2_with fail
      refine ⟨⟨u7, u8, u9, u10, _, rfl, HA.out⟩, rfl, ?_⟩
      intro j hj hji h
      match j, hj with
      | 0, _ => exact h
      | 1, _ => exact h
      | 2, _ => exact h
      | 3, _ => exact h
      | 4, _ => exact absurd rfl hji
  · intro x W hB hG
    obtain ⟨u7, u8, u9, u10, u11, rfl, hA⟩ := hB
    have g0 : u7 = .int .i64 (lv : Int) := hG 0 (by omega)
    have g1 : u8 = .int .u8 (lv : Int) := hG 1 (by omega)
    obtain ⟨p, g2, hp, hP⟩ : ∃ p, u9 = .slice (some ⟨p, 0, none⟩) 2 2 ∧ w.heap.size + 1 + 1 < p ∧ blk W p [.int .u8 1, .int .u8 (lv : Int)] 5 := hG 2 (by omega)
    have g3 : u10 = .slice (some ⟨w.heap.size, 0, none⟩) 16 16 := hG 3 (by omega)
    have g4 : u11 = .slice (some ⟨w.heap.size + 1, 0, none⟩) 16 16 := hG 4 (by omega)
    subst g0 g1 g2 g3 g4
    have HA := Lib.hid hA
    have HP := Lib.hid hP
    clear hG hA hP
    unfold FrJ
    go_wp2_with fail
    obtain ⟨W1, hW1⟩ : ∃ W1, W1 = W.alloc (.cells #[.slice (some ⟨p, 0, none⟩) 2 2, .slice (some ⟨w.heap.size, 0, none⟩) 16 16, .slice (some ⟨w.heap.size + 1, 0, none⟩) 16 16] 97) := ⟨_, rfl⟩
    have hk : Below W.heap.size W W1 := by rw [hW1]; exact (Below.refl _ _).alloc (Nat.le_refl _) _
    have hV : blk W1 W.heap.size [.slice (some ⟨p, 0, none⟩) 2 2, .slice (some ⟨w.heap.size, 0, none⟩) 16 16, .slice (some ⟨w.heap.size + 1, 0, none⟩) 16 16] 97 := by rw [hW1]; exact blk_new W _ _
    have e1 : cl .u8 [1, lv] = [.int .u8 1, .int .u8 (lv : Int)] := rfl
    have s0 : Sl W1 (.slice (some ⟨p, 0, none⟩) 2 2) [1, lv] := sl_whole (t := 5) (by rw [e1]; exact blk_keep HP.out hk) rfl (Nat.le_refl _)
    have s1 : Sl W1 (.slice (some ⟨w.heap.size, 0, none⟩) 16 16) a := sl_whole (blk_keep HA.out.1 hk) ha.symm (Nat.le_refl _)
    have s2 : Sl W1 (.slice (some ⟨w.heap.size + 1, 0, none⟩) 16 16) b := sl_whole (blk_keep HA.out.2.1 hk) hb.symm (Nat.le_refl _)
    have hR := blk_keep HA.out.2.2.1 hk
    have hbel := bel_trans HA.out.2.2.2 hk HA.out.2.2.2.size
    have hlen : ([[1, lv], a, b] : List (List Nat)).flatten.length = 34 := by simp [ha, hb]
    rw [← hW1]
    clear hW1 hk
    refine (concat W1 W.heap.size 0 3 3 [.slice (some ⟨p, 0, none⟩) 2 2, .slice (some ⟨w.heap.size, 0, none⟩) 16 16, .slice (some ⟨w.heap.size + 1, 0, none⟩) 16 16] [[1, lv], a, b] rfl rfl (blk_lt hV) (by omega) (fun k hk => by
      rw [Nat.zero_add, blk_cell hV]
      match k, hk with
      | 0, _ => rfl
      | 1, _ => rfl
      | 2, _ => rfl) (fun k hk => by
      match k, hk with
      | 0, _ => exact s0
      | 1, _ => exact s1
      | 2, _ => exact s2) (by omega) (by omega)).mono ?_
    rintro e w1 ⟨v1, rfl, ho1, hb1⟩
    have hS1 := SlC.of_own ho1
    have hR1 := Lib.hid (blk_keep hR hb1)
    have hB1 := bel_trans hbel hb1 hbel.size
    clear hb1 hV s0 s1 s2 hR hbel e1 ho1
    go_wp2_with fail
    refine (mhash w1 _ v1 hS1 (by omega)).mono ?_
    rintro e w2 ⟨rfl, hb2⟩
    have ej : hf ([[1, lv], a, b] : List (List Nat)).flatten = joinN lv a b := by
      unfold joinN
      rw [Nat.mod_eq_of_lt (by omega)]
      congr 1
      simp
    rw [ej]
    have hR2 := blk_keep hR1.out hb2
    have k2 := bk_of hR2
    have hB2 := bel_trans hB1 hb2 hB1.size
    have lj := joinN_length lv a b
    clear hb2 hS1 ej hlen
    go_wp2_with fail
    refine ret_node rfl rfl (blk_setRow hR2 (cl .u8 (joinN lv a b))) lj rfl ⟨rfl, bel_setRow hB2 (by omega) _⟩
end Go.Proofs.YtlgpipdeckdmjaaGreat.Mer
/-
  Slices of nodes: append; the leaves of a key.
-/
set_option linter.unusedVariables false
set_option linter.unusedSimpArgs false
namespace Go.Proofs.YtlgpipdeckdmjaaGreat.Mer
open Go.RowKit Base Reg Types Slice Sha
open Go.Proofs.YtlgpipdeckdmjaaGreat.One
/-- All of 16 bytes. -/
def N16 (ns : List (List Nat)) : Prop := ∀ x ∈ ns, x.length = 16
theorem flatten_length : ∀ {ns : List (List Nat)}, N16 ns → ns.flatten.length = 16 * ns.length
  | [], _ => rfl
  | x :: r, h => by
    rw [List.flatten_cons, List.length_append, flatten_length (fun y hy => h y (List.mem_cons_of_mem _ hy)), h x List.mem_cons_self, List.length_cons]
    omega
theorem N16.append {a b : List (List Nat)} (ha : N16 a) (hb : N16 b) : N16 (a ++ b) := fun x hx => by
  rcases List.mem_append.1 hx with h | h
  · exact ha x h
  · exact hb x h
theorem N16.one {x : List Nat} (h : x.length = 16) : N16 [x] := fun y hy => by
  rw [List.mem_singleton] at hy
  rw [hy]; exact h
theorem N16.take {a : List (List Nat)} (ha : N16 a) (k : Nat) : N16 (a.take k) := fun x hx => ha x (List.mem_of_mem_take hx)
/-- A slice of values of 16 bytes. -/
abbrev SlN (w : World) (v : Value) (ns : List (List Nat)) : Prop := SlC w 16 v ns.length (cl .u8 ns.flatten)
abbrev OwnN (e : TypeId) (w : World) (base : Nat) (v : Value) (ns : List (List Nat)) : Prop := w.ownsRow base e 16 v ns.length (cl .u8 ns.flatten)
theorem ownN_nil (e : TypeId) (w : World) (base : Nat) : OwnN e w base (.slice none 0 0) [] := World.ownsRow_nil _ _ _ _
theorem ownN_slice {e : TypeId} {w : World} {base : Nat} {v : Value} {ns : List (List Nat)} (h : OwnN e w base v ns) : ∃ A c, v = .slice A ns.length c := by
  rcases h.2 with ⟨rfl, h2⟩ | ⟨g, cap, cur, rfl, _⟩
  · exact ⟨none, 0, by rw [h2]⟩
  · exact ⟨_, _, rfl⟩
theorem own_blockN {e : TypeId} {w : World} {base : Nat} {v : Value} {ns : List (List Nat)} (h : OwnN e w base v ns) : ∀ k, v.ownBlock = some k → base ≤ k := by
  rcases h.2 with ⟨rfl, _⟩ | ⟨g, cap, cur, rfl, hb, _⟩
  · intro k hk; cases hk
  · intro k hk; cases hk; exact hb
/-- append(v, x): v nil or the call's own, x one value in memory. -/
theorem run_append_one {w : World} {base b : Nat} {v : Value} {ns : List (List Nat)} {x : List Nat} {t e ty te : TypeId} (i : TypeInfo) (z : Value) (ht : Tryz.prog.underlying t = some (.slice e)) (hi : Tryz.prog.info? e = some i) (hz : i.zero = some z) (hsize : i.size = 16) (hby : i.bytes = 16) (hzs : z.cells.size = 16)
    (hown : OwnN e w base v ns) (hx : x.length = 16) (hb : blk w b (cl .u8 x) te) (h63 : ns.length ≤ 1000000) (hbase : base ≤ w.heap.size) :
    ∃ v' w', (Builtin.append_ #[t, t] ty #[v, .slice (some ⟨b, 0, none⟩) 1 1]).run Tryz.prog w = .ok v' w' ∧ OwnN e w' base v' (ns ++ [x]) ∧ w.grownBy w' v.ownBlock := by
  have h := run_append (P := Tryz.prog) t ty i z 16 ht hi hz hsize hby hzs (by omega) hown (SlC.of_blk (n := 1) (size := 16) (c := 1) (o := 0) hb (Nat.le_refl _) (by rw [cl_length, hx]) (fun j u hj => by rw [Nat.zero_add]; exact hj)) (cl_one .u8 _) (by unfold maxLen; omega) (by omega) hbase
  obtain ⟨v', w', h1, h2, h3⟩ := h
  refine ⟨v', w', h1, ?_, h3⟩
  rw [cl_append] at h2
  unfold OwnN
  rw [List.length_append, List.flatten_append, List.flatten_singleton]
  exact h2
theorem wpList_append_one {w : World} {ops : Array Oper} {rest : List Oper} {o : Oper} {a : Act} {Q : Exit → Act → World → Prop} {base b : Nat} {v : Value} {ns : List (List Nat)} {x : List Nat} {t e te : TypeId} (hgd : o.guard = none) (s y : Operand)
    (ho : o.op = .call { callee := .builtin .append, args := #[s, y], argTypes := #[t, t] }) (i : TypeInfo) (z : Value) (ht : Tryz.prog.underlying t = some (.slice e)) (hi : Tryz.prog.info? e = some i) (hz : i.zero = some z) (hsize : i.size = 16) (hby : i.bytes = 16) (hzs : z.cells.size = 16)
    (hs : a.eval s = v) (hy : a.eval y = .slice (some ⟨b, 0, none⟩) 1 1)
    (hown : OwnN e w base v ns) (hx : x.length = 16) (hb : blk w b (cl .u8 x) te) (h63 : ns.length ≤ 1000000) (hbase : base ≤ w.heap.size)
    (h : ∀ v' w', OwnN e w' base v' (ns ++ [x]) → w.grownBy w' v.ownBlock → wpList Tryz.prog ops Q rest (a.put o.dst v') w') : wpList Tryz.prog ops Q (o :: rest) a w := by
  obtain ⟨v', w', h1, h2, h3⟩ := run_append_one (ty := o.type) i z ht hi hz hsize hby hzs hown hx hb h63 hbase
  exact Lib.wpList_append_run w hgd s y t t ho _ _ hs hy v' w' h1 (h v' w' h2 h3)
/-- .. at nodes. -/
theorem wpList_append_node {w : World} {ops : Array Oper} {rest : List Oper} {o : Oper} {a : Act} {Q : Exit → Act → World → Prop} {base b : Nat} {v : Value} {ns : List (List Nat)} {x : List Nat} {te : TypeId} (hgd : o.guard = none) (s y : Operand)
    (ho : o.op = .call { callee := .builtin .append, args := #[s, y], argTypes := #[77, 77] }) (hs : a.eval s = v) (hy : a.eval y = .slice (some ⟨b, 0, none⟩) 1 1)
    (hown : OwnN 81 w base v ns) (hx : x.length = 16) (hb : blk w b (cl .u8 x) te) (h63 : ns.length ≤ 1000000) (hbase : base ≤ w.heap.size)
    (h : ∀ v' w', OwnN 81 w' base v' (ns ++ [x]) → w.grownBy w' v.ownBlock → wpList Tryz.prog ops Q rest (a.put o.dst v') w') : wpList Tryz.prog ops Q (o :: rest) a w :=
  wpList_append_one hgd s y ho ((Tryz.prog.info? 81).get (by kernel_rfl)) (((Tryz.prog.info? 81).get (by kernel_rfl)).zero.get (by kernel_rfl)) Tryz.underlying77 (by kernel_rfl) (by kernel_rfl) (by kernel_rfl) (by kernel_rfl) (by kernel_rfl) hs hy hown hx hb h63 hbase h
theorem wpList_append_val {w : World} {ops : Array Oper} {rest : List Oper} {o : Oper} {a : Act} {Q : Exit → Act → World → Prop} {base b : Nat} {v : Value} {ns : List (List Nat)} {x : List Nat} {te : TypeId} (hgd : o.guard = none) (s y : Operand)
    (ho : o.op = .call { callee := .builtin .append, args := #[s, y], argTypes := #[29, 29] }) (hs : a.eval s = v) (hy : a.eval y = .slice (some ⟨b, 0, none⟩) 1 1)
    (hown : OwnN 23 w base v ns) (hx : x.length = 16) (hb : blk w b (cl .u8 x) te) (h63 : ns.length ≤ 1000000) (hbase : base ≤ w.heap.size)
    (h : ∀ v' w', OwnN 23 w' base v' (ns ++ [x]) → w.grownBy w' v.ownBlock → wpList Tryz.prog ops Q rest (a.put o.dst v') w') : wpList Tryz.prog ops Q (o :: rest) a w :=
  wpList_append_one hgd s y ho ((Tryz.prog.info? 23).get (by kernel_rfl)) (((Tryz.prog.info? 23).get (by kernel_rfl)).zero.get (by kernel_rfl)) Tryz.underlying29 (by kernel_rfl) (by kernel_rfl) (by kernel_rfl) (by kernel_rfl) (by kernel_rfl) hs hy hown hx hb h63 hbase h
/-! a slice literal of one value of 16 bytes -/
def bsA (t : TypeId) (n : Nat) (ps : Array (Nat × Value)) : Sem Value := Instr.buildSlice t n ps
theorem run_bs_one {t e : TypeId} (ie : TypeInfo) (z : Value) (hu : Tryz.prog.underlying t = some (.slice e)) (hie : Tryz.prog.info? e = some ie) (hz : ie.zero = some z) (hs : ie.size = 16) {x : List Nat} (hx : x.length = 16) (w : World) :
    (bsA t 1 #[(0, agg .u8 x)]).run Tryz.prog w = .ok (.slice (some ⟨w.heap.size, 0, none⟩) 1 1) (w.alloc (.cells (cl .u8 x).toArray e)) := by
  have hc : (agg .u8 x).cells.size = 16 := by simp [Value.cells, cl_length, hx]
  refine run_buildSlice (P := Tryz.prog) w t e 1 _ _ ie z hu hie hz (by rw [hs]; decide) (by rw [hs]; decide) ?_
  rw [hs]
  have h := Great.fill_whole (s := 16) (by omega) [agg .u8 x] ((Array.range (1 * 16)).map (z.cells[· % z.cells.size]!)) (fun v hv => by
    rw [List.mem_singleton] at hv
    rw [hv]; exact hc) (by simp)
  refine h.trans ?_
  simp [Value.cells]
theorem rd_bs_node (n : Nat) (ps : Array (Nat × Value)) : Instr.buildSlice 77 n ps = bsA 77 n ps := rfl
theorem rd_bs_val (n : Nat) (ps : Array (Nat × Value)) : Instr.buildSlice 29 n ps = bsA 29 n ps := rfl
theorem bs_node (x : List Nat) (w : World) (hx : x.length = 16) : (bsA 77 1 #[(0, .agg (cl .u8 x).toArray)]).run Tryz.prog w = .ok (.slice (some ⟨w.heap.size, 0, none⟩) 1 1) (w.alloc (.cells (cl .u8 x).toArray 81)) :=
  run_bs_one ((Tryz.prog.info? 81).get (by kernel_rfl)) (((Tryz.prog.info? 81).get (by kernel_rfl)).zero.get (by kernel_rfl)) Tryz.underlying77 (by kernel_rfl) (by kernel_rfl) (by kernel_rfl) hx w
theorem bs_val (x : List Nat) (w : World) (hx : x.length = 16) : (bsA 29 1 #[(0, .agg (cl .u8 x).toArray)]).run Tryz.prog w = .ok (.slice (some ⟨w.heap.size, 0, none⟩) 1 1) (w.alloc (.cells (cl .u8 x).toArray 23)) :=
  run_bs_one ((Tryz.prog.info? 23).get (by kernel_rfl)) (((Tryz.prog.info? 23).get (by kernel_rfl)).zero.get (by kernel_rfl)) Tryz.underlying29 (by kernel_rfl) (by kernel_rfl) (by kernel_rfl) hx w
attribute [go_sem ↓ high] rd_bs_node rd_bs_val
attribute [go_sem] bs_node bs_val
def lv0 (N : Nat → List Nat) (k : Nat) : List (List Nat) := (List.range k).map N
theorem lv0_succ (N : Nat → List Nat) (k : Nat) : lv0 N (k + 1) = lv0 N k ++ [N k] := by simp [lv0, List.range_succ]
theorem lv0_length (N : Nat → List Nat) (k : Nat) : (lv0 N k).length = k := by simp [lv0]
set_option maxRecDepth 20000 in
set_option maxHeartbeats 4000000 in
theorem leaves (w : World) (n : Nat) (N : Nat → List Nat) (v : Value) (hn : n ≤ 1000000) (hN : ∀ i, (N i).length = 16) (hF : ∀ i : Nat, i < n → ∀ W, Below w.heap.size w W → Calls Tryz.prog 69 #[.int .i64 (i : Int), v] W fun e w' => e = .returned (agg .u8 (N i)) ∧ Below W.heap.size W w') :
    Calls Tryz.prog 68 #[.int .i64 (n : Int), .func (.func 69) #[] #[v]] w fun e w' => ∃ x, e = .returned x ∧ OwnN 81 w' w.heap.size x (lv0 N n) ∧ Below w.heap.size w w' := by
  have HF := Lib.hid hF
  have HN := Lib.hid hN
  clear hF hN
  go_enter Tryz.func68, Tryz.ntmps68
  go_wp2_with fail
  go_loopw [5, 8] (fun x i wr => ∃ k : Nat, k ≤ n ∧ i = .int .i64 k ∧ OwnN 81 wr w.heap.size x (lv0 N k) ∧ Below w.heap.size w wr) (fun _ i _ => n - (intOf i).toNat)
  case atStart => exact ⟨0, by omega, rfl, ownN_nil _ _ _, Below.refl _ _⟩
  case round =>
    obtain ⟨k, hk, rfl, ho, hb⟩ := hrel
    by_cases hkn : k < n
    · have HO := Lib.hid ho
      clear ho
      go_wp2_with fail
      refine (HF.out k hkn wr hb).mono ?_
      rintro e w1 ⟨rfl, hw1⟩
      have HO1 := Lib.hid (own_keep HO.out hw1)
      have hb1 := bel_trans hb hw1 hb.size
      have hx := HN.out k
      clear hw1 HO hb
      go_wp2_with (
        at_builtin
        refine wpList_append_node rfl (.tmp 11) (.tmp 15) rfl rfl rfl (own_keep HO1.out ((Below.refl _ _).alloc (Nat.le_refl _) _)) hx (blk_new w1 (cl .u8 (N k)) 81) (by rw [lv0_length]; omega) (by have := hb1.size; simp only [alloc_size]; omega) ?_
        intro v2 w2 ho2 hg2)
      have hb2 := (hb1.alloc hb1.size (.cells (cl .u8 (N k)).toArray 81)).grown hg2 (by have := hb1.size; simp only [alloc_size]; omega) (fun j hj => by have := own_blockN HO1.out j (by simpa [Act.eval] using hj); omega)
      rw [← lv0_succ] at ho2
      clear hg2
      go_roundw
      case rel => exact ⟨k + 1, by omega, by go_num, ho2, hb2⟩
      case measure => simp [intOf]; omega
    · obtain rfl : k = n := by omega
      have HO := Lib.hid ho
      clear ho
      go_wp2_with fail
      go_ret
      exact ⟨_, rfl, HO.out, hb⟩
end Go.Proofs.YtlgpipdeckdmjaaGreat.Mer
