/-
  Several texts laid into one (merge.py): Sgn10, Byt, Known8, Known8W, Nil1, Nil2, Nil3.
-/
import Derived.Test.YtlgpipdeckdmjaaGreatVf20
/-
  signer: the text of a signature.
-/
set_option linter.unusedVariables false
set_option linter.unusedSimpArgs false
namespace Go.Proofs.YtlgpipdeckdmjaaGreat.Sgn
open Go.RowKit Base Reg Types Slice Sha
open Go.Proofs.YtlgpipdeckdmjaaGreat.One
open Go.Proofs.YtlgpipdeckdmjaaGreat.Str
open Go.Proofs.YtlgpipdeckdmjaaGreat.Mer
open Go.Proofs.YtlgpipdeckdmjaaGreat.B64
attribute [local go_sem ↓ high] rd_ix_bs
attribute [local go_sem] ix_bs
/-- The bytes of a signature. -/
def hdB (leaf n : Nat) : List Nat := [leaf / 256 % 256, leaf % 256, n % 256]
def sigB (leaf : Nat) (ch : List Nat) (ps : List (List Nat)) : List Nat := hdB leaf ps.length ++ ch ++ ps.flatten
set_option maxRecDepth 20000 in
set_option maxHeartbeats 4000000 in
theorem signature_text (w : World) (leaf : Nat) (ch : List Nat) (p : Value) (ps : List (List Nat)) (hc : ch.length = 560) (bc : By ch) (hp : SlN w p ps) (hN : N16 ps) (bp : ∀ x ∈ ps.flatten, x < 256) (hn1 : 1 ≤ ps.length) (hn8 : ps.length ≤ 8) (hl : leaf < 2 ^ ps.length) :
    Calls Tryz.prog 34 #[.agg (sigV (leaf : Int) ch p).toArray] w fun e w' => e = .returned (.tuple #[.string (strB (enc (sigB leaf ch ps))), .int .i64 0]) ∧ Below w.heap.size w w' := by
  have p8 : 2 ^ ps.length ≤ 2 ^ 8 := Nat.pow_le_pow_right (by omega) hn8
  have hleaf : leaf ≤ 255 := by omega
  obtain ⟨A, c, rfl, -⟩ := id hp
  have LS : Hid ((sigB leaf ch ps).length ≤ 131072) := Lib.hid (by
    have : ps.flatten.length = ps.length * 16 := by
      have h := hp
      obtain ⟨A, c, hv, h1, h2, -⟩ := h
      rw [cl_length] at h2
      exact h2
    simp only [sigB, hdB, List.length_append, hc, this, List.length_cons, List.length_nil]
    omega)
  have BS : Hid (∀ x ∈ sigB leaf ch ps, x < 256) := Lib.hid (by
    intro x hx
    simp only [sigB, hdB, List.mem_append, List.mem_cons, List.not_mem_nil, or_false] at hx
    rcases hx with ((rfl | rfl | rfl) | hx) | hx
    · omega
    · omega
    · omega
    · exact by_mem bc x hx
    · exact bp x hx)
  have HP := Lib.hid hp
  have NP := Lib.hid hN
  have C0 := Lib.hid fun W => sig_check W (leaf : Int) ch A ps.length c hc hn1 hn8 (by omega) (by exact_mod_cast hl)
  have SB : Hid (sigB leaf ch ps = hdB leaf ps.length ++ ch ++ ps.flatten) := Lib.hid rfl
  obtain ⟨SG, hSG⟩ : ∃ SG, SG = sigB leaf ch ps := ⟨_, rfl⟩
  rw [← hSG] at LS BS SB ⊢
  obtain ⟨n, hne⟩ : ∃ n, n = ps.length := ⟨_, rfl⟩
  have HE := Lib.hid hne
  have hB := blk_new w (sigV (leaf : Int) ch (.slice A ps.length c)) 31
  rw [← hne] at hn1 hn8 hB C0 SB ⊢
  have hk := bk_of hB
  have H0 := Lib.hid hB
  clear hp hN bp p8 hl hSG hne hB
  go_enter Tryz.func34, Tryz.ntmps34
  go_wp2_with fail
  refine (C0.out _).mono ?_
  rintro e w1 ⟨rfl, hb1⟩
  have hbel := bel_trans ((Below.refl w.heap.size w).alloc (Nat.le_refl _) (.cells (sigV (leaf : Int) ch (.slice A n c)).toArray 31)) hb1 (by simp only [alloc_size]; omega)
  have hB1 := blk_keep H0.out hb1
  have q1 := sig_leaf hB1
  have q2 := sig_path hc hB1
  have q3 := fun o => ld_chains hc (blk_alloc hB1 o)
  have HB := Lib.hid (And.intro hB1 hbel)
  clear hb1 hbel hB1 hk H0
  go_wp2_with fail
  clear q1 q2 q3
  obtain ⟨W0, hW0⟩ : ∃ W0, W0 = w1.alloc (.cells #[.int .u8 ((leaf : Int) / 256), .int .u8 (leaf : Int), .int .u8 (n : Int)] 5) := ⟨_, rfl⟩
  have S0 : Own W0 w.heap.size (.slice (some ⟨w1.heap.size, 0, none⟩) 3 3) (hdB leaf n ++ ch.take (16 * 0)) ∧ blk W0 w.heap.size (sigV (leaf : Int) ch (.slice A n c)) 31 ∧ Below w.heap.size w W0 := by
    rw [hW0]
    refine ⟨?_, blk_alloc HB.out.1 _, HB.out.2.alloc HB.out.2.size _⟩
    have h := own_bytes w1 (hdB leaf n) (by simp [hdB])
    have e : (cl .u8 (hdB leaf n)).toArray = #[.int .u8 ((leaf : Int) / 256), .int .u8 (leaf : Int), .int .u8 (n : Int)] := by
      have e1 : ((leaf / 256 % 256 : Nat) : Int) = (leaf : Int) / 256 := by omega
      have e2 : ((leaf % 256 : Nat) : Int) = (leaf : Int) := by omega
      have e3 : ((n % 256 : Nat) : Int) = (n : Int) := by omega
      simp only [cl, hdB, List.map_cons, List.map_nil, e1, e2, e3]
    rw [e] at h
    rw [Nat.mul_zero, List.take_zero, List.append_nil]
    exact own_mono h HB.out.2.size
  have T0 := Lib.hid S0
  rw [← hW0]
  clear S0 hW0
  go_loopw [5, 7, 29] (fun v _ i wr => ∃ k : Nat, k ≤ 35 ∧ i = .int .i64 (k : Int) ∧ Own wr w.heap.size v (hdB leaf n ++ ch.take (16 * k)) ∧ blk wr w.heap.size (sigV (leaf : Int) ch (.slice A n c)) 31 ∧ Below w.heap.size w wr) (fun _ _ i _ => 35 - (intOf i).toNat)
  case atStart => exact ⟨0, by omega, rfl, T0.out.1, T0.out.2.1, T0.out.2.2⟩
  case round =>
    clear T0
    obtain ⟨k, hk, rfl, ho, hg, hb⟩ := hrel
    obtain ⟨Av, cv, rfl⟩ := own_slice ho
    by_cases hk2 : k < 35
    · have HO := Lib.hid ho
      have HG := Lib.hid hg
      have hl16 : ((ch.drop (k * 16)).take 16).length = 16 := by simp; omega
      obtain ⟨x, hx⟩ : ∃ x, x = (ch.drop (k * 16)).take 16 := ⟨_, rfl⟩
      have qx := ix_bs ch k wr hc hk2
      rw [← hx] at qx hl16
      have hm : hdB leaf n ++ ch.take (16 * k) ++ x = hdB leaf n ++ ch.take (16 * (k + 1)) := by rw [hx, List.append_assoc, take_more]
      have HX := Lib.hid hm
      have hL : (hdB leaf n ++ ch.take (16 * k)).length ≤ 1000 := by simp [hdB]; omega
      have HL := Lib.hid hL
      clear hx ho hg hm hL
      go_wp2_with (
        at_builtin
        refine wpList_append_bytes rfl (.tmp 32) (.tmp 33) rfl rfl rfl (own_keep HO.out ((Below.refl _ _).alloc (Nat.le_refl _) (.cells (cl .u8 x).toArray 23))) (sl_whole (blk_new wr (cl .u8 x) 23) hl16.symm (Nat.le_refl _)) (by rw [hl16]; have := HL.out; omega) (by have := hb.size; simp only [alloc_size]; omega) ?_
        intro v1 w2 ho1 hg1)
      have hz := hb.size
      have hb2 := (hb.alloc hz (.cells (cl .u8 x).toArray 23)).grown hg1 (by simp only [alloc_size]; omega) (fun j hj => by have := own_block HO.out j (by simpa [Act.eval] using hj); omega)
      have hne : some w.heap.size ≠ (Value.slice Av (hdB leaf n ++ ch.take (16 * k)).length cv).ownBlock := own_blk_ne HO.out HG.out (by decide)
      have hG2 := blk_grown (blk_alloc HG.out (.cells (cl .u8 x).toArray 23)) hg1 hne
      rw [HX.out] at ho1
      clear hg1 hne
      go_roundw
      case rel => exact ⟨k + 1, by omega, by go_num, ho1, hG2, hb2⟩
      case measure => simp [intOf]; omega
    · obtain rfl : k = 35 := by omega
      have e : hdB leaf n ++ ch.take (16 * 35) = hdB leaf n ++ ch ++ (ps.take 0).flatten := by
        rw [List.take_of_length_le (by omega), List.take_zero]
        simp
      have T1 : Hid (Own wr w.heap.size (.slice Av (hdB leaf n ++ ch.take (16 * 35)).length cv) (hdB leaf n ++ ch ++ (ps.take 0).flatten)) := by
        rw [← e]
        exact Lib.hid ho
      have q2 := sig_path hc hg
      obtain ⟨M, hM⟩ : ∃ M, M = (hdB leaf n ++ ch.take (16 * 35)).length := ⟨_, rfl⟩
      rw [← hM] at T1
      rw [← hM]
      have HB2 := Lib.hid hb
      clear ho hg e hM HB hb
      go_wp2_with fail
      go_loopw [5, 9, 39] (fun v _ i wi => ∃ k : Nat, k ≤ n ∧ i = .int .i64 (k : Int) ∧ Own wi w.heap.size v (hdB leaf n ++ ch ++ (ps.take k).flatten) ∧ Below w.heap.size w wi) (fun _ _ i _ => n - (intOf i).toNat)
      case atStart => exact ⟨0, by omega, rfl, T1.out, HB2.out⟩
      case round =>
        clear T1 HB2 q2
        obtain ⟨k, hk, rfl, ho, hb⟩ := hrel
        obtain ⟨Av, cv, rfl⟩ := own_slice ho
        by_cases hk2 : k < n
        · obtain ⟨bb, oo, cc, hbo, hnc, hlt, hcl⟩ := slc_addr HP.out (by rw [← HE.out]; omega)
          cases hbo
          have qx := ld_val (i := k) NP.out (by rw [← HE.out]; omega) (fun j u hj => (hb.cell (p := ⟨bb, oo + j, none⟩) hlt).trans (hcl j u hj))
          have hl16 := NP.out.getD (i := k) (by rw [← HE.out]; omega)
          obtain ⟨x, hx⟩ : ∃ x, x = ps.getD k [] := ⟨_, rfl⟩
          rw [← hx] at qx hl16
          have hm : hdB leaf n ++ ch ++ (ps.take k).flatten ++ x = hdB leaf n ++ ch ++ (ps.take (k + 1)).flatten := by rw [hx, List.append_assoc, ← take_flat]
          have HX := Lib.hid hm
          have hL : (hdB leaf n ++ ch ++ (ps.take k).flatten).length ≤ 10000 := by
            have h1 := take_flat_le ps k
            have h2 : ps.flatten.length = ps.length * 16 := by
              obtain ⟨_, _, _, _, h2, _⟩ := HP.out
              rwa [cl_length] at h2
            rw [List.length_append, List.length_append, hc]
            simp only [hdB, List.length_cons, List.length_nil]
            have := HE.out
            omega
          have HL := Lib.hid hL
          have HO := Lib.hid ho
          have HCL := Lib.hid hcl
          clear hx ho hm hL hcl
          go_wp2_with (
            at_builtin
            refine wpList_append_bytes rfl (.tmp 43) (.tmp 44) rfl rfl rfl (own_keep HO.out ((Below.refl _ _).alloc (Nat.le_refl _) (.cells (cl .u8 x).toArray 23))) (sl_whole (blk_new wr (cl .u8 x) 23) hl16.symm (Nat.le_refl _)) (by rw [hl16]; have := HL.out; omega) (by have := hb.size; simp only [alloc_size]; omega) ?_
            intro v1 w2 ho1 hg1)
          have hz := hb.size
          have hb2 := (hb.alloc hz (.cells (cl .u8 x).toArray 23)).grown hg1 (by simp only [alloc_size]; omega) (fun j hj => by have := own_block HO.out j (by simpa [Act.eval] using hj); omega)
          rw [HX.out] at ho1
          clear hg1
          refine ⟨⟨_, _, _, _, _, _, _, _, _, _, ⟨k + 1, by omega, ?_, ho1, hb2⟩, rfl⟩, ?_⟩
          · go_num
          · simp [intOf]
            omega
        · obtain rfl : k = n := by omega
          have e : hdB leaf k ++ ch ++ (ps.take k).flatten = SG := by rw [SB.out, HE.out, List.take_length]
          rw [e] at ho ⊢
          have HC := Lib.hid (encode_text wr _ SG (SlC.of_own ho) BS.out LS.out)
          clear e ho
          go_wp2_with fail
          refine HC.out.mono ?_
          rintro e w2 ⟨rfl, hb2⟩
          have hbe := bel_trans hb hb2 hb.size
          clear HC hb2
          go_wp2_with fail
          go_ret2
          exact ⟨rfl, hbe⟩
end Go.Proofs.YtlgpipdeckdmjaaGreat.Sgn
/-
  What the hash makes are bytes.
-/
set_option linter.unusedVariables false
set_option linter.unusedSimpArgs false
namespace Go.Proofs.YtlgpipdeckdmjaaGreat.Byt
open Go.RowKit Base Reg Types Slice Sha
open Go.Proofs.YtlgpipdeckdmjaaGreat.One
open Go.Proofs.YtlgpipdeckdmjaaGreat.Str
open Go.Proofs.YtlgpipdeckdmjaaGreat.Mer
open Go.Proofs.YtlgpipdeckdmjaaGreat.Signed
open Go.Proofs.YtlgpipdeckdmjaaGreat.Sgn
def B8 (l : List Nat) : Prop := ∀ x ∈ l, x < 256
theorem B8.nil : B8 [] := fun x hx => by cases hx
theorem B8.append {a b : List Nat} (ha : B8 a) (hb : B8 b) : B8 (a ++ b) := fun x hx => (List.mem_append.1 hx).elim (ha x) (hb x)
theorem B8.take {a : List Nat} (h : B8 a) (n : Nat) : B8 (a.take n) := fun x hx => h x (List.mem_of_mem_take hx)
theorem B8.by {a : List Nat} (h : B8 a) : By a := fun j => by
  rw [List.getD_eq_getElem?_getD]
  cases e : a[j]? with
  | none => simp
  | some v => exact h v (List.mem_of_getElem? e)
theorem B8.getD {ns : List (List Nat)} (h : ∀ l ∈ ns, B8 l) (i : Nat) : B8 (ns.getD i []) := by
  rw [List.getD_eq_getElem?_getD]
  cases e : ns[i]? with
  | none => exact B8.nil
  | some v => exact h v (List.mem_of_getElem? e)
theorem B8.flatten {ns : List (List Nat)} (h : ∀ l ∈ ns, B8 l) : B8 ns.flatten := fun x hx => by
  obtain ⟨l, hl, hx⟩ := List.mem_flatten.1 hx
  exact h l hl x hx
theorem sha_b8 (M : List Nat) : B8 (sha M) := fun x hx => by
  obtain ⟨i, _, rfl⟩ := List.mem_map.1 (show x ∈ (List.range 32).map _ from hx)
  exact Nat.mod_lt _ (by omega)
theorem hf_b8 (M : List Nat) : B8 (hf M) := (sha_b8 M).take 16
theorem adv_b8 (a b c n : Nat) {v : List Nat} (h : B8 v) : B8 (adv a b c n v) := by
  cases n with
  | zero => exact h
  | succ n => exact hf_b8 _
theorem lv0_b8 {N : Nat → List Nat} (h : ∀ i, B8 (N i)) (k : Nat) : ∀ l ∈ lv0 N k, B8 l := fun x hx => by
  obtain ⟨i, _, rfl⟩ := List.mem_map.1 hx
  exact h i
theorem row_b8 {ns : List (List Nat)} (h : ∀ l ∈ ns, B8 l) : ∀ k, ∀ l ∈ row ns k, B8 l
  | 0 => h
  | k + 1 => lv0_b8 (fun _ => hf_b8 _) _
theorem leavesN_b8 (seed : List Nat) (h : Nat) : ∀ l ∈ leavesN seed h, B8 l := lv0_b8 (fun _ => hf_b8 _) _
theorem keyRoot_b8 (seed : List Nat) (h : Nat) : B8 (keyRoot seed h) := B8.getD (row_b8 (leavesN_b8 seed h) h) 0
theorem sigPath_b8 (seed : List Nat) (h leaf : Nat) : ∀ l ∈ sigPath seed h leaf, B8 l := lv0_b8 (fun k => B8.getD (row_b8 (leavesN_b8 seed h) k) _) _
theorem flat_b8 {F : Nat → List Nat} (h : ∀ i, B8 (F i)) : ∀ k, B8 (flat F k)
  | 0 => B8.nil
  | k + 1 => by rw [flat_succ]; exact (flat_b8 h k).append (h k)
theorem sg_b8 (seed d : List Nat) (leaf : Nat) : B8 (sg seed d leaf) := flat_b8 (fun i => adv_b8 _ _ _ _ (hf_b8 _)) 35
/-- A signature leads to the key's root. -/
theorem reach_sg {seed d : List Nat} {h leaf : Nat} (bd : By d) (hh : h ≤ 8) (hl : leaf < 2 ^ h) : reach (sg seed d leaf) d leaf (sigPath seed h leaf) = keyRoot seed h := by
  have e1 : valN (sg seed d leaf) d leaf = pb seed leaf := by rw [valN, ends_sg bd, pb]
  have e2 : leafN leaf (pb seed leaf) = (leavesN seed h).getD leaf [] := by
    rw [leavesN, lv0_getD _ hl, nodeF]
  rw [reach, e1, e2, sigPath_length]
  exact climb_root (leavesN_length seed h) hh hl
end Go.Proofs.YtlgpipdeckdmjaaGreat.Byt
/-
  bulletinlaw08.known: the key of the zero seed, one signature, one refusal, both texts.
-/
set_option linter.unusedVariables false
set_option linter.unusedSimpArgs false
namespace Go.Proofs.YtlgpipdeckdmjaaGreat.Known8
open Go.RowKit Base Reg Types Slice Sha
open Go.Proofs.YtlgpipdeckdmjaaGreat.One
open Go.Proofs.YtlgpipdeckdmjaaGreat.Str
open Go.Proofs.YtlgpipdeckdmjaaGreat.Mer
open Go.Proofs.YtlgpipdeckdmjaaGreat.Signed
open Go.Proofs.YtlgpipdeckdmjaaGreat.Sgn
open Go.Proofs.YtlgpipdeckdmjaaGreat.B64
open Go.Proofs.YtlgpipdeckdmjaaGreat.Byt
def e1 : List Nat := 1 :: zs 15
def e2 : List Nat := 2 :: zs 15
theorem e1_length : e1.length = 16 := by simp [e1, zs_length]
theorem e2_length : e2.length = 16 := by simp [e2, zs_length]
theorem zs_b8 (n : Nat) : B8 (zs n) := fun x hx => by
  have := (List.mem_replicate.1 hx).2
  omega
theorem e1_by : By e1 := B8.by (fun x hx => by
  rcases List.mem_cons.1 hx with rfl | hx
  · omega
  · exact zs_b8 15 x hx)
theorem bl16_1 (w : World) : (blA 23 #[(0, .int .u8 1)]).run Tryz.prog w = .ok (agg .u8 e1) w := by kernel_rfl
theorem bl16_2 (w : World) : (blA 23 #[(0, .int .u8 2)]).run Tryz.prog w = .ok (agg .u8 e2) w := by kernel_rfl
theorem bl_sec1 (w : World) : (blA 27 #[(1, .int .i64 1)]).run Tryz.prog w = .ok (.agg (secV (zs 32) 1).toArray) w := by kernel_rfl
theorem strB_size (o : List Nat) : (strB o).size = o.length := by simp [strB, ByteArray.size]
theorem n16_flatten : ∀ {ns : List (List Nat)}, N16 ns → ns.flatten.length = ns.length * 16
  | [], _ => rfl
  | x :: r, h => by
    rw [List.flatten_cons, List.length_append, h x List.mem_cons_self, n16_flatten (fun y hy => h y (List.mem_cons_of_mem _ hy)), List.length_cons]
    omega
/-- The calls that 'known' makes, with what they hand back held as letters. -/
theorem facts : ∃ (Z R S : List Nat) (PS : List (List Nat)) (T1 T2 : ByteArray), Z = zs 32 ∧ R.length = 16 ∧ S.length = 560 ∧ PS.length = 1 ∧ N16 PS ∧ T1.size = 772 ∧ T2.size = 24 ∧
    Hid (∀ W, Calls Tryz.prog 27 #[.agg (secV Z 1).toArray, .int .i64 0] W fun e w' => ∃ g, e = .returned (.tuple #[.pointer (some ⟨g, 0, none⟩), .int .i64 0]) ∧ W.heap.size ≤ g ∧ blk w' g (sgrV Z 1 1 R 0) 108 ∧ Below W.heap.size W w') ∧
    Hid (∀ W g, blk W g (sgrV Z 1 1 R 0) 108 → Calls Tryz.prog 31 #[.pointer (some ⟨g, 0, none⟩), agg .u8 e1] W fun e w' => ∃ p, e = .returned (.tuple #[.agg (sigV 0 S p).toArray, .int .i64 0]) ∧ OwnN 23 w' W.heap.size p PS ∧ blk w' g (sgrV Z 1 1 R 1) 108 ∧ W.grownBy w' (some g)) ∧
    Hid (∀ W g, blk W g (sgrV Z 1 1 R 1) 108 → Calls Tryz.prog 31 #[.pointer (some ⟨g, 0, none⟩), agg .u8 e2] W fun e w' => e = .returned (.tuple #[.agg (sigV 0 (zs 560) (.slice none 0 0)).toArray, .int .i64 19]) ∧ Below W.heap.size W w') ∧
    Hid (∀ W p, SlN W p PS → Calls Tryz.prog 34 #[.agg (sigV 0 S p).toArray] W fun e w' => e = .returned (.tuple #[.string T1, .int .i64 0]) ∧ Below W.heap.size W w') ∧
    Hid (∀ W, Calls Tryz.prog 35 #[.agg (pubV 1 R).toArray] W fun e w' => e = .returned (.tuple #[.string T2, .int .i64 0]) ∧ Below W.heap.size W w') ∧
    Hid (∀ W g n, blk W g (sgrV Z 1 1 R n) 108 → Calls Tryz.prog 28 #[.pointer (some ⟨g, 0, none⟩)] W fun e w' => e = .returned (.agg (pubV 1 R).toArray) ∧ Below W.heap.size W w') ∧
    Hid (∀ W p, SlN W p PS → Calls Tryz.prog 14 #[.agg (pubV 1 R).toArray, agg .u8 e1, .agg (sigV 0 S p).toArray] W fun e w' => e = .returned (.int .i64 0) ∧ Below W.heap.size W w') := by
  have lP : (sigPath (zs 32) 1 0).length = 1 := sigPath_length _ _ _
  have nP : N16 (sigPath (zs 32) 1 0) := sigPath_16 (zs 32) (by omega) (by omega)
  have bP : ∀ x ∈ (sigPath (zs 32) 1 0).flatten, x < 256 := B8.flatten (sigPath_b8 _ _ _)
  have lS := sg_length (zs 32) e1 0
  have bS := sg_b8 (zs 32) e1 0
  have lR := keyRoot_length (zs 32) 1
  have bR := keyRoot_b8 (zs 32) 1
  have lf : (sigPath (zs 32) 1 0).flatten.length = 16 := by
    rw [n16_flatten nP, lP]
  refine ⟨zs 32, keyRoot (zs 32) 1, sg (zs 32) e1 0, sigPath (zs 32) 1 0, strB (enc (sigB 0 (sg (zs 32) e1 0) (sigPath (zs 32) 1 0))), strB (enc (pubB 1 (keyRoot (zs 32) 1))), rfl, lR, lS, lP, nP, ?_, ?_, ?_, ?_, ?_, ?_, ?_, ?_, ?_⟩
  · rw [strB_size, enc_length, sigB, List.length_append, List.length_append, lS, lf]
    · rfl
    · refine B8.append (B8.append ?_ bS) bP
      intro x hx
      simp only [hdB, List.mem_cons, List.not_mem_nil, or_false] at hx
      omega
  · rw [strB_size, enc_length, pubB, List.length_cons, lR]
    intro x hx
    rcases List.mem_cons.1 hx with rfl | hx
    · omega
    · exact bR x hx
  · exact Lib.hid fun W => new_in W (zs 32) 1 0 (zs_length 32) (.inl rfl) (by omega) (by omega)
  · exact Lib.hid fun W g hB => signer_sign W g 1 0 (zs 32) _ e1 1 (zs_length 32) lR e1_length e1_by (.inl rfl) (by omega) hB
  · exact Lib.hid fun W g hB => signer_used W g 1 (zs 32) _ e2 1 1 (zs_length 32) lR e2_length (by omega) (by omega) hB
  · exact Lib.hid fun W p hp => signature_text W 0 _ p _ lS (B8.by bS) hp nP bP (by omega) (by omega) (by rw [lP]; omega)
  · exact Lib.hid fun W => public_text W _ 1 lR (B8.by bR) (by omega) (by omega)
  · exact Lib.hid fun W g n hB => signer_public W g (zs 32) _ 1 1 n (zs_length 32) lR hB
  · refine Lib.hid fun W p hp => (verify_in W 1 0 _ _ e1 p _ lR (by omega) (by omega) lS e1_length e1_by hp nP (by omega) (by omega) (by rw [lP]; omega)).mono ?_
    rintro e w' ⟨rfl, hb⟩
    refine ⟨?_, hb⟩
    rw [if_pos ⟨lP, reach_sg e1_by (by omega) (by omega)⟩]
end Go.Proofs.YtlgpipdeckdmjaaGreat.Known8
/-
  bulletinlaw08.known: the walk.
-/
set_option linter.unusedVariables false
set_option linter.unusedSimpArgs false
namespace Go.Proofs.YtlgpipdeckdmjaaGreat.Known8
open Go.RowKit Base Reg Types Slice Sha
open Go.Proofs.YtlgpipdeckdmjaaGreat.One
open Go.Proofs.YtlgpipdeckdmjaaGreat.Str
open Go.Proofs.YtlgpipdeckdmjaaGreat.Mer
open Go.Proofs.YtlgpipdeckdmjaaGreat.Signed
open Go.Proofs.YtlgpipdeckdmjaaGreat.Sgn
attribute [local go_sem ↓ high] rd_bl16
set_option maxRecDepth 20000 in
set_option maxHeartbeats 8000000 in
theorem known (w : World) : Calls Tryz.prog 7 #[] w fun e w' => e = .returned (.bool true) ∧ Below w.heap.size w w' := by
  obtain ⟨Z, R, S, PS, T1, T2, hZ, lR, lS, lP, nP, hT1, hT2, c1, c2, c3, c4, c5, c6, c7⟩ := facts
  have bZ : ∀ W, (blA 27 #[(1, .int .i64 1)]).run Tryz.prog W = .ok (.agg (secV Z 1).toArray) W := fun W => by rw [hZ]; exact bl_sec1 W
  have lz := zs_length 560
  have g1 := bl16_1
  have g2 := bl16_2
  have le1 := e1_length
  have le2 := e2_length
  generalize e1 = E1 at *
  generalize e2 = E2 at *
  have lZ : Z.length = 32 := by rw [hZ]; exact zs_length 32
  clear hZ
  go_enter Tryz.func7, Tryz.ntmps7
  go_wp2_with fail
  refine (c1.out _).mono ?_
  rintro e w1 ⟨g, rfl, hg0, hB1, hb1⟩
  have S1 := Lib.hid (And.intro hB1 hb1)
  clear hB1 hb1
  go_wp2_with fail
  refine (c2.out _ g S1.out.1).mono ?_
  rintro e w2 ⟨p, rfl, ho2, hB2, hg2⟩
  obtain ⟨Ap, cp, rfl⟩ := ownN_slice ho2
  rw [lP] at *
  have hb2 : Below w.heap.size w w2 := S1.out.2.grown hg2 S1.out.2.size (fun k hk => by cases hk; exact hg0)
  have S2 := Lib.hid (And.intro hB2 (And.intro ho2 hb2))
  clear ho2 hB2 hg2 hb2 c1 c2 S1
  go_wp2_with fail
  have sl2 : SlN w2 (.slice Ap 1 cp) PS := SlC.of_own S2.out.2.1
  refine (c3.out _ g (blk_alloc S2.out.1 _)).mono ?_
  rintro e w3 ⟨rfl, hb3⟩
  have hz2 := S2.out.2.2.size
  have S3 := Lib.hid (And.intro (blk_alloc (blk_keep (blk_alloc S2.out.1 (.cells (sigV 0 S (.slice Ap 1 cp)).toArray 31)) hb3) (.cells (sigV 0 (zs 560) (.slice none 0 0)).toArray 31)) (And.intro (blk_alloc (blk_keep (blk_new w2 (sigV 0 S (.slice Ap 1 cp)) 31) hb3) (.cells (sigV 0 (zs 560) (.slice none 0 0)).toArray 31)) (And.intro ((sl2.keep (((Below.refl w2.heap.size w2).alloc (Nat.le_refl _) (.cells (sigV 0 S (.slice Ap 1 cp)).toArray 31)).trans (hb3.mono (by simp only [alloc_size]; omega)))).keep ((Below.refl w3.heap.size w3).alloc (Nat.le_refl _) (.cells (sigV 0 (zs 560) (.slice none 0 0)).toArray 31))) ((bel_trans (S2.out.2.2.alloc hz2 (.cells (sigV 0 S (.slice Ap 1 cp)).toArray 31)) hb3 (by simp only [alloc_size]; omega)).alloc (by have := hb3.size; simp only [alloc_size] at this; omega) (.cells (sigV 0 (zs 560) (.slice none 0 0)).toArray 31)))))
  obtain ⟨W3, hW3⟩ : ∃ W3, W3 = w3.alloc (.cells (sigV 0 (zs 560) (.slice none 0 0)).toArray 31) := ⟨_, rfl⟩
  rw [← hW3] at S3
  have HW3 := Lib.hid hW3
  have k3 := bk_of S3.out.2.1
  rw [HW3.out] at k3
  clear hb3 hW3 sl2 S2 c3 g2
  go_wp2_with fail
  rw [← HW3.out]
  refine (c4.out W3 _ S3.out.2.2.1).mono ?_
  rintro e w4 ⟨rfl, hb4⟩
  have S4 := Lib.hid (And.intro (blk_keep S3.out.1 hb4) (And.intro (blk_keep S3.out.2.1 hb4) (And.intro (S3.out.2.2.1.keep hb4) (bel_trans S3.out.2.2.2 hb4 S3.out.2.2.2.size))))
  clear hb4 S3 c4 k3
  go_wp2_with fail
  refine (c6.out w4 g _ S4.out.1).mono ?_
  rintro e w5 ⟨rfl, hb5⟩
  have S5 := Lib.hid (And.intro (blk_keep S4.out.1 hb5) (And.intro (blk_keep S4.out.2.1 hb5) (And.intro (S4.out.2.2.1.keep hb5) (bel_trans S4.out.2.2.2 hb5 S4.out.2.2.2.size))))
  clear hb5 S4
  go_wp2_with fail
  refine (c5.out w5).mono ?_
  rintro e w6 ⟨rfl, hb6⟩
  have S6 := Lib.hid (And.intro (blk_keep S5.out.1 hb6) (And.intro (blk_keep S5.out.2.1 hb6) (And.intro (S5.out.2.2.1.keep hb6) (bel_trans S5.out.2.2.2 hb6 S5.out.2.2.2.size))))
  clear hb6 S5 c5
  obtain ⟨ι, F, hF, hin⟩ := class_of (fun W => blk W g (sgrV Z 1 1 R 1) 108 ∧ blk W w2.heap.size (sigV 0 S (.slice Ap 1 cp)) 31 ∧ SlN W (.slice Ap 1 cp) PS ∧ Below w.heap.size w W)
  have h0 := hin w6.drew ⟨blk_drew S6.out.1, blk_drew S6.out.2.1, S6.out.2.2.1.keep (Below.refl _ _).drew, S6.out.2.2.2.drew⟩
  have hne : Nonempty ι := ⟨h0.choose⟩
  have q0 : ∀ i, bk (F i) w2.heap.size = some (sigV 0 S (.slice Ap 1 cp)).toArray := fun i => bk_of (hF i).2.1
  have HF := Lib.hid hF
  have HI := Lib.hid hin
  have H0 := Lib.hid h0
  clear hF hin h0
  go_wp2_with fail
  refine wp_region_all F (by kernel_rfl) (by kernel_rfl) H0.out ?_
  repeat (go_big_quiet_step (first
    | (go_at_call 28; exact quiet_below HF.out HI.out (fun _ _ h hb => ⟨blk_keep h.1 hb, blk_keep h.2.1 hb, h.2.2.1.keep hb, bel_trans h.2.2.2 hb h.2.2.2.size⟩) (c6.out _ g 1 (HF.out _).1))
    | (go_at_call 14; exact quiet_below HF.out HI.out (fun _ _ h hb => ⟨blk_keep h.1 hb, blk_keep h.2.1 hb, h.2.2.1.keep hb, bel_trans h.2.2.2 hb h.2.2.2.size⟩) (c7.out _ _ (HF.out _).2.2.1))))
  refine wpQuiet_nil ?_
  intro i
  go_wp2_with fail
  go_ret
  exact ⟨rfl, (HF.out i).2.2.2⟩
end Go.Proofs.YtlgpipdeckdmjaaGreat.Known8
/-
  signer: methods on nil; bulletinlaw08: few.
-/
set_option linter.unusedVariables false
set_option linter.unusedSimpArgs false
namespace Go.Proofs.YtlgpipdeckdmjaaGreat.Nil
open Go.RowKit Base Reg Types Slice Sha
open Go.Proofs.YtlgpipdeckdmjaaGreat.One
open Go.Proofs.YtlgpipdeckdmjaaGreat.Str
open Go.Proofs.YtlgpipdeckdmjaaGreat.Mer
open Go.Proofs.YtlgpipdeckdmjaaGreat.Sgn
abbrev sig0 : Value := .agg (sigV 0 (zs 560) (.slice none 0 0)).toArray
abbrev pub0 : Value := .agg (pubV 0 (zs 16)).toArray
set_option maxRecDepth 20000 in
theorem sign_nil (w : World) (d : List Nat) (hd : d.length = 16) : Calls Tryz.prog 31 #[.pointer none, agg .u8 d] w fun e w' => e = .returned (.tuple #[sig0, .int .i64 1]) ∧ Below w.heap.size w w' := by
  obtain ⟨Z, hZ⟩ : ∃ Z, Z = zs 560 := ⟨_, rfl⟩
  have lZ : Z.length = 560 := by rw [hZ, zs_length]
  have b0 := bl0_sg
  have a0 := al_sg
  unfold sig0
  rw [← hZ] at b0 a0 ⊢
  have HB := Lib.hid (And.intro (blk_at (b := w.heap.size + 1) (w.alloc (.cells (cl .u8 d).toArray 23)) (sigV 0 Z (.slice none 0 0)) 31 (by simp only [alloc_size])) (((Below.refl w.heap.size w).alloc (Nat.le_refl _) (.cells (cl .u8 d).toArray 23)).alloc (by simp only [alloc_size]; omega) (.cells (sigV 0 Z (.slice none 0 0)).toArray 31)))
  clear hZ
  go_enter Tryz.func31, Tryz.ntmps31
  go_wp2_with fail
  refine ret2_sg rfl rfl rfl HB.out.1 (by rw [sigV_length, lZ]) rfl ⟨rfl, HB.out.2⟩
set_option maxRecDepth 20000 in
theorem last_nil (w : World) (d : List Nat) (hd : d.length = 16) : Calls Tryz.prog 32 #[.pointer none, agg .u8 d] w fun e w' => e = .returned (.tuple #[sig0, .int .i64 1]) ∧ Below w.heap.size w w' := by
  obtain ⟨Z, hZ⟩ : ∃ Z, Z = zs 560 := ⟨_, rfl⟩
  have lZ : Z.length = 560 := by rw [hZ, zs_length]
  have b0 := bl0_sg
  have a0 := al_sg
  unfold sig0
  rw [← hZ] at b0 a0 ⊢
  have HB := Lib.hid (And.intro (blk_at (b := w.heap.size + 1) (w.alloc (.cells (cl .u8 d).toArray 23)) (sigV 0 Z (.slice none 0 0)) 31 (by simp only [alloc_size])) (((Below.refl w.heap.size w).alloc (Nat.le_refl _) (.cells (cl .u8 d).toArray 23)).alloc (by simp only [alloc_size]; omega) (.cells (sigV 0 Z (.slice none 0 0)).toArray 31)))
  clear hZ
  go_enter Tryz.func32, Tryz.ntmps32
  go_wp2_with fail
  refine ret2_sg rfl rfl rfl HB.out.1 (by rw [sigV_length, lZ]) rfl ⟨rfl, HB.out.2⟩
theorem skip_nil (w : World) (n : Int) : Calls Tryz.prog 33 #[.pointer none, .int .i64 n] w fun e w' => e = .returned (.int .i64 1) ∧ w = w' := by
  go_enter Tryz.func33, Tryz.ntmps33
  go_wp2
  go_ret
  exact ⟨rfl, rfl⟩
theorem next_nil (w : World) : Calls Tryz.prog 29 #[.pointer none] w fun e w' => e = .returned (.int .i64 0) ∧ w = w' := by
  go_enter Tryz.func29, Tryz.ntmps29
  go_wp2
  go_ret
  exact ⟨rfl, rfl⟩
theorem left_nil (w : World) : Calls Tryz.prog 30 #[.pointer none] w fun e w' => e = .returned (.int .i64 0) ∧ w = w' := by
  go_enter Tryz.func30, Tryz.ntmps30
  go_wp2
  go_ret
  exact ⟨rfl, rfl⟩
set_option maxRecDepth 20000 in
theorem public_nil (w : World) : Calls Tryz.prog 28 #[.pointer none] w fun e w' => e = .returned pub0 ∧ Below w.heap.size w w' := by
  go_enter Tryz.func28, Tryz.ntmps28
  have lz := zs_length 16
  have hb := blk_new w (pubV 0 (zs 16)) 39
  have hk := bk_of hb
  go_wp2_with fail
  refine ret_pub rfl rfl (blk_new w (pubV 0 (zs 16)) 39) (by rw [pubV_length, zs_length]) rfl ⟨rfl, (Below.refl w.heap.size w).alloc (Nat.le_refl _) _⟩
set_option maxRecDepth 20000 in
theorem few (w : World) (l : Int) (ch : List Nat) (A : Option Addr) (n c : Nat) (hc : ch.length = 560) :
    Calls Tryz.prog 15 #[.agg (sigV l ch (.slice A n c)).toArray] w fun e w' => e = .returned (.bool (decide (n ≤ 20))) ∧ Below w.heap.size w w' := by
  have q := sig_path hc (blk_new w (sigV l ch (.slice A n c)) 36)
  go_enter Tryz.func15, Tryz.ntmps15
  go_wp2_with fail
  go_ret
  exact ⟨by simp; omega, (Below.refl w.heap.size w).alloc (Nat.le_refl _) _⟩
end Go.Proofs.YtlgpipdeckdmjaaGreat.Nil
/-
  Signatures compared: slices.Equal, signer.Equal, the reference's Same.
-/
set_option linter.unusedVariables false
set_option linter.unusedSimpArgs false
namespace Go.Proofs.YtlgpipdeckdmjaaGreat.Nil
open Go.RowKit Base Reg Types Slice Sha
open Go.Proofs.YtlgpipdeckdmjaaGreat.One
open Go.Proofs.YtlgpipdeckdmjaaGreat.Str
open Go.Proofs.YtlgpipdeckdmjaaGreat.Mer
open Go.Proofs.YtlgpipdeckdmjaaGreat.Sgn
theorem eq_of_getD {ps qs : List (List Nat)} (hl : ps.length = qs.length) (h : ∀ j, j < ps.length → ps.getD j [] = qs.getD j []) : ps = qs := by
  apply List.ext_getElem hl
  intro j h1 h2
  have := h j h1
  rwa [List.getD_eq_getElem?_getD, List.getD_eq_getElem?_getD, List.getElem?_eq_getElem h1, List.getElem?_eq_getElem h2] at this












































































































































end Go.Proofs.YtlgpipdeckdmjaaGreat.Nil
/-
  The reference's Same.
-/
set_option linter.unusedVariables false
set_option linter.unusedSimpArgs false
namespace Go.Proofs.YtlgpipdeckdmjaaGreat.Nil
open Go.RowKit Base Reg Types Slice Sha
open Go.Proofs.YtlgpipdeckdmjaaGreat.One
open Go.Proofs.YtlgpipdeckdmjaaGreat.Str
open Go.Proofs.YtlgpipdeckdmjaaGreat.Mer
open Go.Proofs.YtlgpipdeckdmjaaGreat.Sgn
set_option maxRecDepth 20000 in
set_option maxHeartbeats 4000000 in
theorem same (w : World) (a b : Int) (x y : List Nat) (v1 v2 : Value) (ps qs : List (List Nat)) (hx : x.length = 560) (hy : y.length = 560) (h1 : SlN w v1 ps) (h2 : SlN w v2 qs) (n1 : N16 ps) (n2 : N16 qs) (h63 : ps.length ≤ 1000000) :
    Calls Tryz.prog 10 #[.agg (sigV a x v1).toArray, .agg (sigV b y v2).toArray] w fun e w' => e = .returned (.bool (decide (a = b ∧ x = y ∧ ps = qs))) ∧ Below w.heap.size w w' := by
  obtain ⟨A1, c1, rfl, -⟩ := id h1
  obtain ⟨A2, c2, rfl, -⟩ := id h2
  obtain ⟨n, hn⟩ : ∃ n, n = ps.length := ⟨_, rfl⟩
  obtain ⟨m, hm⟩ : ∃ m, m = qs.length := ⟨_, rfl⟩
  have H1 := Lib.hid h1
  have H2 := Lib.hid h2
  have N1 := Lib.hid n1
  have N2 := Lib.hid n2
  have HN := Lib.hid hn
  have HM := Lib.hid hm
  rw [← hn] at h63
  rw [← hn, ← hm]
  obtain ⟨W0, hW0⟩ : ∃ W0, W0 = (w.alloc (.cells (sigV a x (.slice A1 n c1)).toArray 36)).alloc (.cells (sigV b y (.slice A2 m c2)).toArray 36) := ⟨_, rfl⟩
  have b1 : blk W0 w.heap.size (sigV a x (.slice A1 n c1)) 36 := by rw [hW0]; exact blk_alloc (blk_new _ _ _) _
  have b2 : blk W0 (w.heap.size + 1) (sigV b y (.slice A2 m c2)) 36 := by rw [hW0]; exact blk_at _ _ _ (by simp only [alloc_size])
  have bl : Below w.heap.size w W0 := by rw [hW0]; exact ((Below.refl w.heap.size w).alloc (Nat.le_refl _) _).alloc (by simp only [alloc_size]; omega) _
  have B1 := Lib.hid b1
  have B2 := Lib.hid b2
  have q1 := sig_leaf b1
  have q2 := sig_leaf b2
  have q3 := ld_chains hx b1
  have q4 := ld_chains hy b2
  have q5 := sig_path hx b1
  have q6 := sig_path hy b2
  rw [hW0] at q1 q2 q3 q4 q5 q6
  have HW := Lib.hid hW0
  have BL := Lib.hid bl
  clear b1 b2 bl hW0 h1 h2 n1 n2 hn hm
  by_cases hab : a = b
  · by_cases hxy : x = y
    · by_cases hnm : n = m
      · have e1 : decide (a = b ∧ x = y ∧ ps = qs) = decide (ps = qs) := by simp [hab, hxy]
        rw [e1]
        subst hab
        subst hxy
        subst hnm
        clear e1
        go_enter Tryz.func10, Tryz.ntmps10
        go_wp2_with fail
        rw [← HW.out]
        clear q1 q2 q3 q4 q5 q6
        go_loopw [5] (fun i wr => ∃ k : Nat, k ≤ n ∧ i = .int .i64 (k : Int) ∧ (∀ j, j < k → ps.getD j [] = qs.getD j []) ∧ Below w.heap.size w wr ∧ blk wr w.heap.size (sigV a x (.slice A1 n c1)) 36 ∧ blk wr (w.heap.size + 1) (sigV a x (.slice A2 n c2)) 36) (fun i _ => n - (intOf i).toNat)
        case atStart => exact ⟨0, by omega, rfl, fun j hj => absurd hj (by omega), BL.out, B1.out, B2.out⟩
        case round =>
          obtain ⟨k, hk, rfl, he, hb, b1, b2⟩ := hrel
          have q5 := sig_path hx b1
          have q6 := sig_path hx b2
          have HE := Lib.hid he
          have D1 := Lib.hid b1
          have D2 := Lib.hid b2
          clear he b1 b2
          by_cases hkn : k < n
          · obtain ⟨g1, o1, d1, hbo, hnc1, hlt1, hcl1⟩ := slc_addr H1.out (by rw [← HN.out]; omega)
            cases hbo
            obtain ⟨g2, o2, d2, hbo, hnc2, hlt2, hcl2⟩ := slc_addr H2.out (by rw [← HM.out]; omega)
            cases hbo
            have r1 := ld_val (i := k) (W := wr.drew) N1.out (by rw [← HN.out]; omega) (fun j u hj => (hb.drew.cell (p := ⟨g1, o1 + j, none⟩) hlt1).trans (hcl1 j u hj))
            have r2 := ld_val (i := k) (W := wr.drew) N2.out (by rw [← HM.out]; omega) (fun j u hj => (hb.drew.cell (p := ⟨g2, o2 + j, none⟩) hlt2).trans (hcl2 j u hj))
            have l1 := N1.out.getD (i := k) (by rw [← HN.out]; omega)
            have l2 := N2.out.getD (i := k) (by rw [← HM.out]; omega)
            obtain ⟨X, hX⟩ : ∃ X, X = ps.getD k [] := ⟨_, rfl⟩
            obtain ⟨Y, hY⟩ : ∃ Y, Y = qs.getD k [] := ⟨_, rfl⟩
            rw [← hX] at r1 l1
            rw [← hY] at r2 l2
            have HX := Lib.hid hX
            have HY := Lib.hid hY
            have HC1 := Lib.hid hcl1
            have HC2 := Lib.hid hcl2
            clear hX hY hcl1 hcl2
            by_cases hXY : X = Y
            · subst hXY
              go_wp2_with fail
              go_region
              all_goals
                go_wp2_with fail
                go_roundw
                case rel =>
                  refine ⟨k + 1, by omega, by go_num, fun j hj => ?_, hb.drew, blk_drew D1.out, blk_drew D2.out⟩
                  by_cases hjk : j < k
                  · exact HE.out j hjk
                  · obtain rfl : j = k := by omega
                    rw [← HX.out, HY.out]
                case measure => simp [intOf]; omega
            · have hd : decide (X = Y) = false := decide_eq_false hXY
              have hpq : decide (ps = qs) = false := decide_eq_false (fun e => hXY (by rw [HX.out, HY.out, e]))
              have HPQ := Lib.hid hpq
              clear hXY hpq
              go_wp2_with fail
              go_region
              all_goals
                go_wp2_with fail
                go_ret
                exact ⟨by rw [HPQ.out]; rfl, hb.drew⟩
          · obtain rfl : k = n := by omega
            have hpq : decide (ps = qs) = true := decide_eq_true (eq_of_getD (by rw [← HN.out, ← HM.out]) (fun j hj => HE.out j (by rw [HN.out]; exact hj)))
            have HPQ := Lib.hid hpq
            clear hpq
            go_wp2_with fail
            go_ret
            exact ⟨by rw [HPQ.out]; rfl, hb⟩
      · have e1 : decide (a = b ∧ x = y ∧ ps = qs) = false := decide_eq_false (fun e => hnm (by rw [HN.out, HM.out, e.2.2]))
        have hd : ((n : Int) != (m : Int)) = true := by simp; omega
        rw [e1]
        subst hab
        subst hxy
        clear e1 hnm
        go_enter Tryz.func10, Tryz.ntmps10
        go_wp2_with fail
        go_ret
        exact ⟨rfl, by rw [← HW.out]; exact BL.out⟩
    · have e1 : decide (a = b ∧ x = y ∧ ps = qs) = false := by simp [hxy]
      have hd : decide (x = y) = false := decide_eq_false hxy
      rw [e1]
      subst hab
      clear e1 hxy
      go_enter Tryz.func10, Tryz.ntmps10
      go_wp2_with fail
      go_ret
      exact ⟨rfl, by rw [← HW.out]; exact BL.out⟩
  · have e1 : decide (a = b ∧ x = y ∧ ps = qs) = false := by simp [hab]
    have hd : (a != b) = true := by simpa using hab
    rw [e1]
    clear e1
    go_enter Tryz.func10, Tryz.ntmps10
    go_wp2_with fail
    go_ret
    exact ⟨rfl, by rw [← HW.out]; exact BL.out⟩
end Go.Proofs.YtlgpipdeckdmjaaGreat.Nil
