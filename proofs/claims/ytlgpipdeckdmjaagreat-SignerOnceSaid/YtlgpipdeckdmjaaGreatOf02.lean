/-
  Several texts laid into one (merge.py): Onc3.
-/
import Derived.Test.YtlgpipdeckdmjaaGreatOf01
import Derived.Test.YtlgpipdeckdmjaaGreatSf01
import Derived.Test.YtlgpipdeckdmjaaGreatVf21
import Derived.Test.YtlgpipdeckdmjaaGreatVf22
/-
  SignerOnce: the walk. Printed by gen_once.py.
-/
set_option linter.unusedVariables false
set_option linter.unusedSimpArgs false
namespace Go.Proofs.YtlgpipdeckdmjaaGreat.Rm
open Go.RowKit Base Reg Types Slice Sha
open Go.Proofs.YtlgpipdeckdmjaaGreat.One
open Go.Proofs.YtlgpipdeckdmjaaGreat.Str
open Go.Proofs.YtlgpipdeckdmjaaGreat.Mer
open Go.Proofs.YtlgpipdeckdmjaaGreat.Sgn
open Go.Proofs.YtlgpipdeckdmjaaGreat.Signed
open Go.Proofs.YtlgpipdeckdmjaaGreat.Byt
open Go.Proofs.YtlgpipdeckdmjaaGreat.Opened (Ops OpAt By8)
open Go.Proofs.YtlgpipdeckdmjaaGreat.Known8 (known)
open Go.Proofs.YtlgpipdeckdmjaaGreat.Nil (back same)
def AtO (w : World) (g h : Nat) (seed KR : List Nat) (next : Int) (W : World) : Prop :=
  blk W w.heap.size (cl .u8 seed) 22 ∧ blk W g (sgrV seed (h : Int) (h : Int) KR next) 108 ∧ Below w.heap.size w W
theorem AtO_keep {w : World} {g h : Nat} {seed KR : List Nat} {next : Int} {W W' : World} (hA : AtO w g h seed KR next W) (hb : Below W.heap.size W W') : AtO w g h seed KR next W' := ⟨blk_keep hA.1 hb, blk_keep hA.2.1 hb, bel_trans hA.2.2 hb hA.2.2.size⟩
def fldA (t : TypeId) (x : Value) (i : Nat) : Sem Value := Instr.field t x i
theorem rd_fld_pub (x : Value) (i : Nat) : Instr.field 39 x i = fldA 39 x i := rfl
theorem fld_pub0 (h : Int) (r : List Nat) (w : World) : (fldA 39 (.agg (pubV h r).toArray) 0).run Tryz.prog w = .ok (.int .i64 h) w := by kernel_rfl
theorem fld_pub1 (h : Int) (r : List Nat) (hr : r.length = 16) (w : World) : (fldA 39 (.agg (pubV h r).toArray) 1).run Tryz.prog w = .ok (agg .u8 r) w := by
  have h1 : (fldA 39 (.agg (pubV h r).toArray) 1).run Tryz.prog w = .ok (.agg ((pubV h r).toArray.extract 1 17)) w := by kernel_rfl
  rw [h1]
  have h2 : (pubV h r).toArray.extract 1 17 = (cl .u8 r).toArray := by
    apply Array.ext'
    simp only [Array.toList_extract, List.extract_eq_take_drop, pubV, List.drop_succ_cons, List.drop_zero]
    rw [List.take_of_length_le (by rw [cl_length, hr]; decide)]
  rw [h2]
def AtP (w : World) (g h : Nat) (seed KR : List Nat) (next : Int) (q : Nat) (l : Int) (S : List Nat) (p : Value) (PS : List (List Nat)) (W : World) : Prop := AtO w g h seed KR next W ∧ blk W q (sigV l S p) 31 ∧ SlN W p PS
theorem AtP_keep {w : World} {g h : Nat} {seed KR : List Nat} {next : Int} {q : Nat} {l : Int} {S : List Nat} {p : Value} {PS : List (List Nat)} {W W' : World} (hA : AtP w g h seed KR next q l S p PS W) (hb : Below W.heap.size W W') : AtP w g h seed KR next q l S p PS W' := ⟨AtO_keep hA.1 hb, blk_keep hA.2.1 hb, hA.2.2.keep hb⟩
def AtU (w : World) (g h : Nat) (seed KR : List Nat) (next : Int) (q : Nat) (W : World) : Prop := AtO w g h seed KR next W ∧ blk W q (sigV 0 (zs 560) (.slice none 0 0)) 31
theorem AtU_keep {w : World} {g h : Nat} {seed KR : List Nat} {next : Int} {q : Nat} {W W' : World} (hA : AtU w g h seed KR next q W) (hb : Below W.heap.size W W') : AtU w g h seed KR next q W' := ⟨AtO_keep hA.1 hb, blk_keep hA.2 hb⟩
def O0aP (w4 : World) (h k n c b o : Nat) (seed d S : List Nat) (PS : List (List Nat)) (Ap : Option Addr) (ap : Nat) (nx : Nat) (i : Nat) (v : Value) (W : World) : Prop := match i with
  | 0 => v = .int .i64 0
  | 1 => v = .bool true
  | 2 => v = .bool true
  | 3 => v = .pointer (some ⟨w4.heap.size, 0, none⟩)
  | 4 => v = .int .i64 (nx : Int)
  | 5 => v = .int .i64 (nx : Int)
  | 6 => v = .bool false
  | 7 => v = .bool false
  | 8 => v = .agg (sigV (nx : Int) S (.slice Ap PS.length ap)).toArray
  | 9 => ∃ p, v = .agg (sigV (nx : Int) S p).toArray ∧ SlN W p PS
  | 10 => v = agg .u8 seed
  | 11 => v = .int .i64 (h : Int)
  | 12 => v = .int .i64 (nx : Int)
  | 13 => v = Value.slice (some { block := b, off := o }) n c
  | 14 => v = .int .i64 (k : Int)
  | 15 => v = .pointer (some ⟨b, o + k * 18, none⟩)
  | 16 => v = .pointer (some ⟨b, o + k * 18 + 2, none⟩)
  | 17 => v = agg .u8 d
  | 18 => ∃ p, v = .agg (sigV (nx : Int) S p).toArray ∧ SlN W p PS
  | 19 => v = .bool true
  | 20 => v = .bool false
  | 21 => v = .bool false
  | 22 => v = .bool false
  | 23 => v = .bool false
  | 24 => v = .int .i64 0
  | 25 => v = .bool false
  | 26 => v = .bool false
  | 27 => v = undef
  | 28 => v = undef
  | 29 => v = undef
  | 30 => v = undef
  | 31 => v = undef
  | 32 => v = .bool false
  | _ => True
theorem O0aP_mono (w4 : World) (h k n c b o : Nat) (seed d S : List Nat) (PS : List (List Nat)) (Ap : Option Addr) (ap : Nat) (nx : Nat) (i : Nat) (v : Value) (W W' : World) (hb : Below W.heap.size W W') (hQ : O0aP w4 h k n c b o seed d S PS Ap ap nx i v W) : O0aP w4 h k n c b o seed d S PS Ap ap nx i v W' := by
  unfold O0aP at hQ ⊢
  split at hQ
  · exact hQ
  · exact hQ
  · exact hQ
  · exact hQ
  · exact hQ
  · exact hQ
  · exact hQ
  · exact hQ
  · exact hQ
  · obtain ⟨p, h1, h2⟩ := hQ
    exact ⟨p, h1, h2.keep hb⟩
  · exact hQ
  · exact hQ
  · exact hQ
  · exact hQ
  · exact hQ
  · exact hQ
  · exact hQ
  · exact hQ
  · obtain ⟨p, h1, h2⟩ := hQ
    exact ⟨p, h1, h2.keep hb⟩
  · exact hQ
  · exact hQ
  · exact hQ
  · exact hQ
  · exact hQ
  · exact hQ
  · exact hQ
  · exact hQ
  · exact hQ
  · exact hQ
  · exact hQ
  · exact hQ
  · exact hQ
  · exact hQ
  · exact hQ
def O0bP (w4 : World) (i : Nat) (v : Value) (W : World) : Prop := match i with
  | 0 => v = .int .i64 19
  | 1 => v = .bool false
  | 2 => v = .bool false
  | 3 => v = undef
  | 4 => v = undef
  | 5 => v = undef
  | 6 => v = undef
  | 7 => v = undef
  | 8 => v = undef
  | 9 => v = undef
  | 10 => v = undef
  | 11 => v = undef
  | 12 => v = undef
  | 13 => v = undef
  | 14 => v = undef
  | 15 => v = undef
  | 16 => v = undef
  | 17 => v = undef
  | 18 => v = undef
  | 19 => v = undef
  | 20 => v = undef
  | 21 => v = undef
  | 22 => v = .bool false
  | 23 => v = .bool false
  | 24 => v = .int .i64 19
  | 25 => v = .bool true
  | 26 => v = .bool true
  | 27 => v = .agg (sigV 0 (zs 560) (.slice none 0 0)).toArray
  | 28 => ∃ p, v = .agg (sigV 0 (zs 560) p).toArray ∧ SlN W p ([] : List (List Nat))
  | 29 => v = .agg (sigV 0 (zs 560) (.slice none 0 0)).toArray
  | 30 => v = .bool true
  | 31 => v = .bool false
  | 32 => v = .bool false
  | _ => True
theorem O0bP_mono (w4 : World) (i : Nat) (v : Value) (W W' : World) (hb : Below W.heap.size W W') (hQ : O0bP w4 i v W) : O0bP w4 i v W' := by
  unfold O0bP at hQ ⊢
  split at hQ
  · exact hQ
  · exact hQ
  · exact hQ
  · exact hQ
  · exact hQ
  · exact hQ
  · exact hQ
  · exact hQ
  · exact hQ
  · exact hQ
  · exact hQ
  · exact hQ
  · exact hQ
  · exact hQ
  · exact hQ
  · exact hQ
  · exact hQ
  · exact hQ
  · exact hQ
  · exact hQ
  · exact hQ
  · exact hQ
  · exact hQ
  · exact hQ
  · exact hQ
  · exact hQ
  · exact hQ
  · exact hQ
  · obtain ⟨p, h1, h2⟩ := hQ
    exact ⟨p, h1, h2.keep hb⟩
  · exact hQ
  · exact hQ
  · exact hQ
  · exact hQ
  · exact hQ
def O1aP (w4 : World) (h k n c b o : Nat) (seed d S : List Nat) (PS : List (List Nat)) (Ap : Option Addr) (ap : Nat) (i : Nat) (v : Value) (W : World) : Prop := match i with
  | 0 => v = .int .i64 0
  | 1 => v = .bool true
  | 2 => v = .bool true
  | 3 => v = .pointer (some ⟨w4.heap.size, 0, none⟩)
  | 4 => v = .int .i64 ((2 : Int) ^ h - 1)
  | 5 => v = .int .i64 ((2 : Int) ^ h - 1)
  | 6 => v = .bool false
  | 7 => v = .bool false
  | 8 => v = .agg (sigV ((2 : Int) ^ h - 1) S (.slice Ap PS.length ap)).toArray
  | 9 => ∃ p, v = .agg (sigV ((2 : Int) ^ h - 1) S p).toArray ∧ SlN W p PS
  | 10 => v = agg .u8 seed
  | 11 => v = .int .i64 (h : Int)
  | 12 => v = .int .i64 ((2 : Int) ^ h - 1)
  | 13 => v = Value.slice (some { block := b, off := o }) n c
  | 14 => v = .int .i64 (k : Int)
  | 15 => v = .pointer (some ⟨b, o + k * 18, none⟩)
  | 16 => v = .pointer (some ⟨b, o + k * 18 + 2, none⟩)
  | 17 => v = agg .u8 d
  | 18 => ∃ p, v = .agg (sigV ((2 : Int) ^ h - 1) S p).toArray ∧ SlN W p PS
  | 19 => v = .bool true
  | 20 => v = .bool false
  | 21 => v = .bool false
  | 22 => v = .bool false
  | 23 => v = .bool false
  | 24 => v = .int .i64 0
  | 25 => v = .bool false
  | 26 => v = .bool false
  | 27 => v = undef
  | 28 => v = undef
  | 29 => v = undef
  | 30 => v = undef
  | 31 => v = undef
  | 32 => v = .bool false
  | _ => True
theorem O1aP_mono (w4 : World) (h k n c b o : Nat) (seed d S : List Nat) (PS : List (List Nat)) (Ap : Option Addr) (ap : Nat) (i : Nat) (v : Value) (W W' : World) (hb : Below W.heap.size W W') (hQ : O1aP w4 h k n c b o seed d S PS Ap ap i v W) : O1aP w4 h k n c b o seed d S PS Ap ap i v W' := by
  unfold O1aP at hQ ⊢
  split at hQ
  · exact hQ
  · exact hQ
  · exact hQ
  · exact hQ
  · exact hQ
  · exact hQ
  · exact hQ
  · exact hQ
  · exact hQ
  · obtain ⟨p, h1, h2⟩ := hQ
    exact ⟨p, h1, h2.keep hb⟩
  · exact hQ
  · exact hQ
  · exact hQ
  · exact hQ
  · exact hQ
  · exact hQ
  · exact hQ
  · exact hQ
  · obtain ⟨p, h1, h2⟩ := hQ
    exact ⟨p, h1, h2.keep hb⟩
  · exact hQ
  · exact hQ
  · exact hQ
  · exact hQ
  · exact hQ
  · exact hQ
  · exact hQ
  · exact hQ
  · exact hQ
  · exact hQ
  · exact hQ
  · exact hQ
  · exact hQ
  · exact hQ
  · exact hQ
def O1cP (w4 : World) (h k n c b o : Nat) (seed d S : List Nat) (PS : List (List Nat)) (Ap : Option Addr) (ap : Nat) (i : Nat) (v : Value) (W : World) : Prop := match i with
  | 0 => v = .int .i64 0
  | 1 => v = .bool true
  | 2 => v = .bool true
  | 3 => v = .pointer (some ⟨w4.heap.size, 0, none⟩)
  | 4 => v = .int .i64 ((2 : Int) ^ h - 1)
  | 5 => v = .int .i64 ((2 : Int) ^ h - 1)
  | 6 => v = .bool false
  | 7 => v = .bool false
  | 8 => v = .agg (sigV ((2 : Int) ^ h - 1) S (.slice Ap PS.length ap)).toArray
  | 9 => ∃ p, v = .agg (sigV ((2 : Int) ^ h - 1) S p).toArray ∧ SlN W p PS
  | 10 => v = agg .u8 seed
  | 11 => v = .int .i64 (h : Int)
  | 12 => v = .int .i64 ((2 : Int) ^ h - 1)
  | 13 => v = Value.slice (some { block := b, off := o }) n c
  | 14 => v = .int .i64 (k : Int)
  | 15 => v = .pointer (some ⟨b, o + k * 18, none⟩)
  | 16 => v = .pointer (some ⟨b, o + k * 18 + 2, none⟩)
  | 17 => v = agg .u8 d
  | 18 => ∃ p, v = .agg (sigV ((2 : Int) ^ h - 1) S p).toArray ∧ SlN W p PS
  | 19 => v = .bool true
  | 20 => v = .bool false
  | 21 => v = .bool false
  | 22 => v = .bool false
  | 23 => v = .bool false
  | 24 => v = .int .i64 0
  | 25 => v = .bool false
  | 26 => v = .bool false
  | 27 => v = undef
  | 28 => v = undef
  | 29 => v = undef
  | 30 => v = undef
  | 31 => v = undef
  | 32 => v = .bool false
  | _ => True
theorem O1cP_mono (w4 : World) (h k n c b o : Nat) (seed d S : List Nat) (PS : List (List Nat)) (Ap : Option Addr) (ap : Nat) (i : Nat) (v : Value) (W W' : World) (hb : Below W.heap.size W W') (hQ : O1cP w4 h k n c b o seed d S PS Ap ap i v W) : O1cP w4 h k n c b o seed d S PS Ap ap i v W' := by
  unfold O1cP at hQ ⊢
  split at hQ
  · exact hQ
  · exact hQ
  · exact hQ
  · exact hQ
  · exact hQ
  · exact hQ
  · exact hQ
  · exact hQ
  · exact hQ
  · obtain ⟨p, h1, h2⟩ := hQ
    exact ⟨p, h1, h2.keep hb⟩
  · exact hQ
  · exact hQ
  · exact hQ
  · exact hQ
  · exact hQ
  · exact hQ
  · exact hQ
  · exact hQ
  · obtain ⟨p, h1, h2⟩ := hQ
    exact ⟨p, h1, h2.keep hb⟩
  · exact hQ
  · exact hQ
  · exact hQ
  · exact hQ
  · exact hQ
  · exact hQ
  · exact hQ
  · exact hQ
  · exact hQ
  · exact hQ
  · exact hQ
  · exact hQ
  · exact hQ
  · exact hQ
  · exact hQ
def O1bP (w4 : World) (i : Nat) (v : Value) (W : World) : Prop := match i with
  | 0 => v = .int .i64 19
  | 1 => v = .bool false
  | 2 => v = .bool false
  | 3 => v = undef
  | 4 => v = undef
  | 5 => v = undef
  | 6 => v = undef
  | 7 => v = undef
  | 8 => v = undef
  | 9 => v = undef
  | 10 => v = undef
  | 11 => v = undef
  | 12 => v = undef
  | 13 => v = undef
  | 14 => v = undef
  | 15 => v = undef
  | 16 => v = undef
  | 17 => v = undef
  | 18 => v = undef
  | 19 => v = undef
  | 20 => v = undef
  | 21 => v = undef
  | 22 => v = .bool false
  | 23 => v = .bool false
  | 24 => v = .int .i64 19
  | 25 => v = .bool true
  | 26 => v = .bool true
  | 27 => v = .agg (sigV 0 (zs 560) (.slice none 0 0)).toArray
  | 28 => ∃ p, v = .agg (sigV 0 (zs 560) p).toArray ∧ SlN W p ([] : List (List Nat))
  | 29 => v = .agg (sigV 0 (zs 560) (.slice none 0 0)).toArray
  | 30 => v = .bool true
  | 31 => v = .bool false
  | 32 => v = .bool false
  | _ => True
theorem O1bP_mono (w4 : World) (i : Nat) (v : Value) (W W' : World) (hb : Below W.heap.size W W') (hQ : O1bP w4 i v W) : O1bP w4 i v W' := by
  unfold O1bP at hQ ⊢
  split at hQ
  · exact hQ
  · exact hQ
  · exact hQ
  · exact hQ
  · exact hQ
  · exact hQ
  · exact hQ
  · exact hQ
  · exact hQ
  · exact hQ
  · exact hQ
  · exact hQ
  · exact hQ
  · exact hQ
  · exact hQ
  · exact hQ
  · exact hQ
  · exact hQ
  · exact hQ
  · exact hQ
  · exact hQ
  · exact hQ
  · exact hQ
  · exact hQ
  · exact hQ
  · exact hQ
  · exact hQ
  · exact hQ
  · obtain ⟨p, h1, h2⟩ := hQ
    exact ⟨p, h1, h2.keep hb⟩
  · exact hQ
  · exact hQ
  · exact hQ
  · exact hQ
  · exact hQ
attribute [local go_sem ↓ high] rd_fld_pub
attribute [local go_sem] fld_pub0 fld_pub1
set_option maxRecDepth 100000 in
set_option maxHeartbeats 40000000 in
theorem once_in (w : World) (seed : List Nat) (m h n : Nat) (next : Nat) (v : Value) (X : Nat → Nat × Int × List Nat) (hs : seed.length = 32) (hm : m < 256) (eh : h = 1 + m % 3) (hn1 : next ≤ 2 ^ h) (hv : Ops w v n X) (h12 : n ≤ 12) :
    Calls Tryz.prog 6 #[agg .u8 seed, .int .u8 (m : Int), .int .i64 (next : Int), v] w fun e w' => e = .returned (.bool true) ∧ Below w.heap.size w w' := by
  have hh : h = 1 ∨ h = 2 ∨ h = 3 := by omega
  have h3 : h ≤ 3 := by omega
  have p8 : 2 ^ h ≤ 2 ^ 3 := Nat.pow_le_pow_right (by omega) (by omega)
  have p8' : (2 : Int) ^ h ≤ 8 := by exact_mod_cast p8
  have p0 : (0 : Int) < 2 ^ h := Int.pow_pos (by decide)
  have hni : (next : Int) ≤ 2 ^ h := by exact_mod_cast hn1
  have cl0 := Lib.hid (fun W => low W m hm)
  rw [← eh] at cl0
  have lK := keyRoot_length seed h
  have c1 := Lib.hid (fun W => new_in W seed h (next : Int) hs hh (by omega) hni)
  have c3 := Lib.hid (fun W => root8 W seed h hs hh)
  obtain ⟨KR, hK⟩ : ∃ KR, KR = keyRoot seed h := ⟨_, rfl⟩
  rw [← hK] at c1 c3 lK
  have HH := Lib.hid hh
  have HSS := Lib.hid hs
  obtain ⟨A, c, rfl, hnc, hcm, hops⟩ := hv
  have HO := Lib.hid hops
  have h63 : c ≤ 9223372036854775807 := by unfold maxLen at hcm; omega
  have d0 : decide ((12 : Int) < (n : Int)) = false := decide_eq_false (by omega)
  have d1 : decide ((next : Int) < 0) = false := decide_eq_false (by omega)
  have d2 : decide ((2 : Int) ^ h < (next : Int)) = false := decide_eq_false (by omega)
  clear hK hh eh p8 hops hcm hn1
  have HB0 := Lib.hid (And.intro (blk_new w (cl .u8 seed) 22) ((Below.refl w.heap.size w).alloc (Nat.le_refl _) (.cells (cl .u8 seed).toArray 22)))
  go_enter Tryz.func6, Tryz.ntmps6
  go_wp2_with fail
  refine (known _).mono ?_
  rintro e w1 ⟨rfl, hb1⟩
  have S1 := Lib.hid (And.intro (blk_keep HB0.out.1 hb1) (bel_trans HB0.out.2 hb1 HB0.out.2.size))
  have k1 := bk_of S1.out.1
  clear hb1
  go_wp2_with fail
  refine (cl0.out _).mono ?_
  rintro e w1' ⟨rfl, rfl⟩
  go_wp2_with fail
  refine (c1.out _).mono ?_
  rintro e w2 ⟨g, rfl, hg, hBg, hb2⟩
  rw [alloc_size] at hg
  have hg1 : w.heap.size + 1 ≤ g := by have := S1.out.2.size; have := blk_lt S1.out.1; omega
  have A2 := Lib.hid (show AtO w g h seed KR (next : Int) w2 from ⟨blk_keep (blk_alloc S1.out.1 _) hb2, hBg, by have := S1.out.2.alloc S1.out.2.size (.cells (secV seed (h : Int)).toArray 27); exact bel_trans this hb2 this.size⟩)
  clear hBg hb2 k1
  obtain ⟨ι, G, hG, hin⟩ := class_of (AtO w g h seed KR (next : Int))
  have h0 := hin w2.drew (AtO_keep A2.out (Below.refl _ _).drew)
  have hne : Nonempty ι := ⟨h0.choose⟩
  have q0 : ∀ i, bk (G i) w.heap.size = some (cl .u8 seed).toArray := fun i => bk_of (hG i).1
  have HG := Lib.hid hG
  have HI := Lib.hid hin
  have H0 := Lib.hid h0
  clear hG hin h0
  go_wp2_with fail
  refine wp_region_all G (by kernel_rfl) (by kernel_rfl) H0.out ?_
  repeat (go_big_quiet_step (first
    | (go_at_call 28; exact quiet_below HG.out HI.out (fun _ _ h hb => AtO_keep h hb) (signer_public _ g seed KR (h : Int) (h : Int) (next : Int) HSS.out lK (HG.out _).2.1))
    | (go_at_call 23; exact quiet_below HG.out HI.out (fun _ _ h hb => AtO_keep h hb) (c3.out _))))
  refine wpQuiet_nil ?_
  intro i
  have A5 := Lib.hid (HG.out i)
  obtain ⟨w5, hw5⟩ : ∃ w5, w5 = G i := ⟨_, rfl⟩
  rw [← hw5] at A5
  clear q0 HI H0 d1 d2 hne
  go_wp2_with fail
  rw [← hw5]
  clear HG hw5
  go_loopw [2, 14] (fun x i wr => ∃ (nx k : Nat), (nx : Int) ≤ 2 ^ h ∧ k ≤ n ∧ x = .int .i64 (nx : Int) ∧ i = .int .i64 (k : Int) ∧ AtO w g h seed KR (nx : Int) wr) (fun _ i _ => n - (intOf i).toNat)
  case atStart => exact ⟨next, 0, hni, by omega, rfl, rfl, A5.out⟩
  case round =>
    clear A5 hni
    obtain ⟨nx, k, hnx, hk, rfl, rfl, hAt⟩ := hrel
    have A1 := Lib.hid hAt
    clear hAt
    by_cases hk2 : k < n
    · obtain ⟨b, o, rfl, hlt, hop⟩ := HO.out (by omega)
      obtain ⟨⟨kd, N, d⟩, hx⟩ : ∃ y, y = X k := ⟨_, rfl⟩
      have hop1 := hop k hk2
      rw [← hx] at hop1
      obtain ⟨hkd, ld, bd, hc1, hc2, hc3⟩ := hop1
      simp only at hkd ld bd hc1 hc2 hc3
      have HQ : Hid (∀ W, Below w.heap.size w W → W.cell? ⟨b, o + k * 18, none⟩ = some (.int .u8 (kd : Int)) ∧ W.cell? ⟨b, o + k * 18 + 1, none⟩ = some (.int .i64 N) ∧ (ldA 23 (.pointer (some ⟨b, o + k * 18 + 2, none⟩))).run Tryz.prog W = .ok (agg .u8 d) W) := Lib.hid fun W hW =>
        ⟨(hW.cell (p := ⟨b, o + k * 18, none⟩) hlt).trans hc1, (hW.cell (p := ⟨b, o + k * 18 + 1, none⟩) hlt).trans hc2, run_loadAt_mid (P := Tryz.prog) W b (o + k * 18 + 2) 23 (cl .u8 d) ((Tryz.prog.underlying 23).get (by kernel_rfl)) (fun j u hj => (hW.cell (p := ⟨b, o + k * 18 + 2 + j, none⟩) hlt).trans (hc3 j u hj)) (by kernel_rfl) (by kernel_rfl) (by rw [cl_length, ld]; kernel_rfl)⟩
      have BD := Lib.hid bd
      have HLT := Lib.hid hlt
      clear hop hc1 hc2 hc3 bd hx hlt
      have hkd3 : kd % 3 = 0 ∨ kd % 3 = 1 ∨ kd % 3 = 2 := by omega
      obtain ⟨wo, rfl⟩ : ∃ wo : World, wo = wr := ⟨_, rfl⟩
      rcases hkd3 with h0 | h0 | h0
      · have e0 : (kd : Int) % 3 = 0 := by omega
        clear h0
        by_cases hu : (2 : Int) ^ h - 1 ≤ (nx : Int)
        · have zn : N16 ([] : List (List Nat)) := fun x hx => by cases hx
          have zb : Hid (∀ W y, SlN W y ([] : List (List Nat)) → Calls Tryz.prog 11 #[.agg (sigV 0 (zs 560) y).toArray] W fun e w' => ∃ p, e = .returned (.agg (sigV 0 (zs 560) p).toArray) ∧ OwnN 23 w' W.heap.size p [] ∧ Below W.heap.size W w') := Lib.hid fun W y hy => back W 0 (zs 560) y [] (zs_length 560) hy (by simp)
          have zq : Hid (∀ W v1 v2, SlN W v1 ([] : List (List Nat)) → SlN W v2 ([] : List (List Nat)) → Calls Tryz.prog 10 #[.agg (sigV 0 (zs 560) v1).toArray, .agg (sigV 0 (zs 560) v2).toArray] W fun e w' => e = .returned (.bool (decide ((0 : Int) = 0 ∧ (zs 560) = (zs 560) ∧ ([] : List (List Nat)) = []))) ∧ Below W.heap.size W w') := Lib.hid fun W v1 v2 h1 h2 => same W 0 0 _ _ v1 v2 [] [] (zs_length 560) (zs_length 560) h1 h2 zn zn (by simp)
          clear zn
          go_wp2_with fail
          refine (next_at _ g HSS.out lK A1.out.2.1).mono ?_
          rintro e w3 ⟨rfl, hb3⟩
          have A3 := Lib.hid (AtO_keep A1.out hb3)
          clear hb3
          go_wp2_with fail
          refine (left_zero _ g HSS.out lK (by omega) (by omega) (by omega) (by omega) A3.out.2.1).mono ?_
          rintro e w4 ⟨rfl, hb4⟩
          have A4 := Lib.hid (AtO_keep (AtO_keep A3.out hb4) ((Below.refl _ _).alloc (Nat.le_refl _) (.cells (sigV 0 (zs 560) (.slice none 0 0)).toArray 31)))
          have B4 := Lib.hid (blk_new w4 (sigV 0 (zs 560) (.slice none 0 0)) 31)
          have q1 := (HQ.out _ A4.out.2.2).1
          have q2 := (HQ.out _ A4.out.2.2).2.1
          have q3 := (HQ.out _ A4.out.2.2).2.2
          have h4 : g < w4.heap.size := by have := blk_lt A3.out.2.1; have := hb4.size; omega
          have g4 : w.heap.size < w4.heap.size := by omega
          clear hb4
          go_wp2_with fail
          refine (signer_used _ g h seed KR d (h : Int) (nx : Int) HSS.out lK ld (by omega) hu A4.out.2.1).mono ?_
          rintro e w5 ⟨rfl, hb5⟩
          have q5 := bk_of (blk_keep B4.out hb5)
          have A6 := Lib.hid (show AtO w g h seed KR (nx : Int) (w5.setRow w4.heap.size (sigV 0 (zs 560) (.slice none 0 0)).toArray) ∧ blk (w5.setRow w4.heap.size (sigV 0 (zs 560) (.slice none 0 0)).toArray) w4.heap.size (sigV 0 (zs 560) (.slice none 0 0)) 31 from ⟨⟨blk_setRow_ne (AtO_keep A4.out hb5).1 _ (by omega), blk_setRow_ne (AtO_keep A4.out hb5).2.1 _ (by omega), bel_setRow (AtO_keep A4.out hb5).2.2 (by omega) _⟩, blk_setRow (blk_keep B4.out hb5) _⟩)
          have lz := zs_length 560
          clear hb5
          go_wp2_with fail
          refine Ord.wp_region_tab2 33 (166 :: 167 :: 168 :: 169 :: 170 :: 171 :: 172 :: 173 :: 174 :: 175 :: 176 :: 177 :: 178 :: 179 :: 180 :: 181 :: 182 :: 183 :: 184 :: 185 :: 186 :: 187 :: 188 :: 189 :: 190 :: 191 :: 192 :: 193 :: 194 :: 195 :: 196 :: 197 :: 198 :: []) (agg IntKind.u8 seed :: Value.int IntKind.u8 ↑m :: Value.int IntKind.i64 ↑nx :: Value.slice (some { block := b, off := o }) n c :: Value.pointer (some { block := w.heap.size, off := 0 }) :: undef :: undef :: undef :: u8 :: Value.int IntKind.i64 ↑h :: Value.pointer (some { block := w1.heap.size, off := 0 }) :: Value.pointer (some { block := g, off := 0 }) :: Value.int IntKind.i64 0 :: Value.int IntKind.i64 ((2 : Int) ^ h) :: Value.int IntKind.i64 ↑k :: Value.pointer (some { block := w4.heap.size, off := 0 }) :: Value.int IntKind.i64 19 :: Value.int IntKind.i64 ↑nx :: Value.int IntKind.i64 19 :: Value.bool true :: Value.bool false :: Value.bool false :: Value.slice (some { block := b, off := o }) n c :: Value.int IntKind.i64 ↑n :: Value.bool false :: Value.bool false :: undef :: Value.int IntKind.u8 ↑m :: Value.int IntKind.i64 ↑h :: Value.agg (cl IntKind.u8 seed).toArray :: Value.int IntKind.i64 ↑h :: Value.agg (secV seed ↑h).toArray :: Value.tuple #[Value.pointer (some { block := g, off := 0 }), Value.int IntKind.i64 0] :: Value.agg (secV seed ↑h).toArray :: Value.int IntKind.i64 ↑next :: Value.tuple #[Value.pointer (some { block := g, off := 0 }), Value.int IntKind.i64 0] :: Value.pointer (some { block := g, off := 0 }) :: Value.int IntKind.i64 0 :: Value.int IntKind.i64 ↑h :: Value.int IntKind.i64 ((2 : Int) ^ h) :: Value.int IntKind.i64 ↑next :: Value.bool false :: Value.bool false :: Value.int IntKind.i64 ↑next :: Value.int IntKind.i64 ((2 : Int) ^ h) :: Value.bool false :: Value.bool false :: undef :: undef :: undef :: undef :: undef :: undef :: Value.int IntKind.i64 0 :: Value.bool false :: Value.bool false :: Value.pointer (some { block := g, off := 0 }) :: Value.agg (pubV (↑h) KR).toArray :: Value.int IntKind.i64 ↑h :: Value.int IntKind.i64 ↑h :: Value.bool false :: Value.bool false :: Value.bool false :: Value.pointer (some { block := g, off := 0 }) :: Value.agg (pubV (↑h) KR).toArray :: agg IntKind.u8 KR :: Value.agg (cl IntKind.u8 seed).toArray :: Value.int IntKind.i64 ↑h :: agg IntKind.u8 KR :: Value.bool false :: Value.bool false :: Value.int IntKind.i64 ↑k :: Value.slice (some { block := b, off := o }) n c :: Value.int IntKind.i64 ↑n :: Value.bool true :: u75 :: u76 :: Value.pointer (some { block := g, off := 0 }) :: Value.int IntKind.i64 ↑nx :: Value.int IntKind.i64 ↑nx :: Value.bool false :: Value.bool false :: Value.pointer (some { block := g, off := 0 }) :: Value.int IntKind.i64 0 :: Value.int IntKind.i64 ((2 : Int) ^ h) :: Value.int IntKind.i64 ((2 : Int) ^ h - 1) :: Value.int IntKind.i64 ↑nx :: Value.int IntKind.i64 ((2 : Int) ^ h - 1 - ↑nx) :: Value.int IntKind.i64 (max 0 ((2 : Int) ^ h - 1 - ↑nx)) :: Value.bool false :: Value.bool false :: Value.int IntKind.i64 ↑nx :: Value.slice (some { block := b, off := o }) n c :: Value.int IntKind.i64 ↑k :: Value.pointer (some { block := b, off := o + k * 18 }) :: Value.pointer (some { block := b, off := o + k * 18 }) :: Value.int IntKind.u8 ↑kd :: Value.int IntKind.u8 0 :: u98 :: u99 :: u100 :: u101 :: u102 :: u103 :: u104 :: u105 :: u106 :: u107 :: u108 :: u109 :: u110 :: u111 :: u112 :: u113 :: u114 :: u115 :: u116 :: u117 :: u118 :: u119 :: u120 :: u121 :: u122 :: u123 :: u124 :: u125 :: u126 :: Value.bool true :: Value.bool true :: Value.tuple #[Value.agg (sigV 0 (zs 560) (Value.slice none 0 0)).toArray, Value.int IntKind.i64 19] :: Value.pointer (some { block := g, off := 0 }) :: Value.slice (some { block := b, off := o }) n c :: Value.int IntKind.i64 ↑k :: Value.pointer (some { block := b, off := o + k * 18 }) :: Value.pointer (some { block := b, off := o + k * 18 + 2 }) :: agg IntKind.u8 d :: Value.tuple #[Value.agg (sigV 0 (zs 560) (Value.slice none 0 0)).toArray, Value.int IntKind.i64 19] :: Value.agg (sigV 0 (zs 560) (Value.slice none 0 0)).toArray :: Value.int IntKind.i64 19 :: Value.int IntKind.i64 ↑nx :: Value.int IntKind.i64 ((2 : Int) ^ h) :: Value.int IntKind.i64 ((2 : Int) ^ h - 1) :: Value.bool true :: u143 :: u144 :: u145 :: u146 :: u147 :: u148 :: u149 :: u150 :: u151 :: u152 :: u153 :: u154 :: u155 :: u156 :: u157 :: u158 :: u159 :: u160 :: u161 :: u162 :: Value.int IntKind.i64 19 :: Value.int IntKind.i64 19 :: Value.bool false :: u166 :: u167 :: u168 :: u169 :: u170 :: u171 :: u172 :: u173 :: u174 :: u175 :: u176 :: u177 :: u178 :: u179 :: u180 :: u181 :: u182 :: u183 :: u184 :: u185 :: u186 :: u187 :: u188 :: u189 :: u190 :: u191 :: u192 :: u193 :: u194 :: u195 :: u196 :: u197 :: u198 :: u199 :: undef :: undef :: undef :: undef :: []) (fun W => AtU w g h seed KR (nx : Int) w4.heap.size W) (O0bP w4) (by kernel_rfl) (by kernel_rfl) (by rfl) (AtU_keep A6.out (Below.refl _ _).drew) (fun i v W W' _ hb hQ => O0bP_mono w4 i v W W' hb hQ) ?_ ?_
          · intro i o hi ho a W K hS hF hG hK
            have k2 := bk_of hS.2
            match i, hi with
            | 0, _ =>
              cases ho
              have s18 : a.tmps.getD 18 undef = Value.int IntKind.i64 19 := hF.slots 18 (by simp) (by decide)
              go_wp2_with fail
              exact hK _ _ hS (Below.refl _ _) (by first | rfl | (show _ = _; simp))
            | 1, _ =>
              cases ho
              have s166 : a.tmps.getD 166 undef = .int .i64 19 := hG { on := 0, ground := .data } (by simp) rfl
              go_wp2_with fail
              exact hK _ _ hS (Below.refl _ _) (by first | rfl | (show _ = _; simp))
            | 2, _ =>
              cases ho
              have s167 : a.tmps.getD 167 undef = .bool false := hG { on := 1, ground := .data } (by simp) rfl
              go_wp2_with fail
              exact hK _ _ hS (Below.refl _ _) (by first | rfl | (show _ = _; simp))
            | 3, _ =>
              cases ho
              have s15 : a.tmps.getD 15 undef = Value.pointer (some { block := w4.heap.size, off := 0 }) := hF.slots 15 (by simp) (by decide)
              have s168 : a.tmps.getD 168 undef = .bool false := hG { on := 2, ground := .guard } (by simp) rfl
              have g168 := hF.get (by simp) s168
              go_wp2_with fail
              exact hK _ _ hS (Below.refl _ _) (by first | rfl | (show _ = _; simp))
            | 4, _ =>
              cases ho
              have s169 : a.tmps.getD 169 undef = undef := hG { on := 3, ground := .data } (by simp) rfl
              have s168 : a.tmps.getD 168 undef = .bool false := hG { on := 2, ground := .guard } (by simp) rfl
              have g168 := hF.get (by simp) s168
              go_wp2_with fail
              exact hK _ _ hS (Below.refl _ _) (by first | rfl | (show _ = _; simp))
            | 5, _ =>
              cases ho
              have s17 : a.tmps.getD 17 undef = Value.int IntKind.i64 ↑nx := hF.slots 17 (by simp) (by decide)
              have s168 : a.tmps.getD 168 undef = .bool false := hG { on := 2, ground := .guard } (by simp) rfl
              have g168 := hF.get (by simp) s168
              go_wp2_with fail
              exact hK _ _ hS (Below.refl _ _) (by first | rfl | (show _ = _; simp))
            | 6, _ =>
              cases ho
              have s170 : a.tmps.getD 170 undef = undef := hG { on := 4, ground := .data } (by simp) rfl
              have s171 : a.tmps.getD 171 undef = undef := hG { on := 5, ground := .data } (by simp) rfl
              have s168 : a.tmps.getD 168 undef = .bool false := hG { on := 2, ground := .guard } (by simp) rfl
              have g168 := hF.get (by simp) s168
              go_wp2_with fail
              exact hK _ _ hS (Below.refl _ _) (by first | rfl | (show _ = _; simp))
            | 7, _ =>
              cases ho
              have s172 : a.tmps.getD 172 undef = undef := hG { on := 6, ground := .data } (by simp) rfl
              have s168 : a.tmps.getD 168 undef = .bool false := hG { on := 2, ground := .guard } (by simp) rfl
              have g168 := hF.get (by simp) s168
              go_wp2_with fail
              exact hK _ _ hS (Below.refl _ _) (by first | rfl | (show _ = _; simp))
            | 8, _ =>
              cases ho
              have s15 : a.tmps.getD 15 undef = Value.pointer (some { block := w4.heap.size, off := 0 }) := hF.slots 15 (by simp) (by decide)
              have s173 : a.tmps.getD 173 undef = undef := hG { on := 7, ground := .guard } (by simp) rfl
              have g173 : a.tmps[173]? = some (.tuple #[]) := hF.get (by simp) s173
              go_wp2_with fail
              exact hK _ _ hS (Below.refl _ _) (by first | rfl | (show _ = _; simp))
            | 9, _ =>
              cases ho
              have s174 : a.tmps.getD 174 undef = undef := hG { on := 8, ground := .data } (by simp) rfl
              have s173 : a.tmps.getD 173 undef = undef := hG { on := 7, ground := .guard } (by simp) rfl
              have g173 : a.tmps[173]? = some (.tuple #[]) := hF.get (by simp) s173
              go_wp2_with fail
              exact hK _ _ hS (Below.refl _ _) (by first | rfl | (show _ = _; simp))
            | 10, _ =>
              cases ho
              have s4 : a.tmps.getD 4 undef = Value.pointer (some { block := w.heap.size, off := 0 }) := hF.slots 4 (by simp) (by decide)
              have s173 : a.tmps.getD 173 undef = undef := hG { on := 7, ground := .guard } (by simp) rfl
              have g173 : a.tmps[173]? = some (.tuple #[]) := hF.get (by simp) s173
              go_wp2_with fail
              exact hK _ _ hS (Below.refl _ _) (by first | rfl | (show _ = _; simp))
            | 11, _ =>
              cases ho
              have s9 : a.tmps.getD 9 undef = Value.int IntKind.i64 ↑h := hF.slots 9 (by simp) (by decide)
              have s173 : a.tmps.getD 173 undef = undef := hG { on := 7, ground := .guard } (by simp) rfl
              have g173 : a.tmps[173]? = some (.tuple #[]) := hF.get (by simp) s173
              go_wp2_with fail
              exact hK _ _ hS (Below.refl _ _) (by first | rfl | (show _ = _; simp))
            | 12, _ =>
              cases ho
              have s17 : a.tmps.getD 17 undef = Value.int IntKind.i64 ↑nx := hF.slots 17 (by simp) (by decide)
              have s173 : a.tmps.getD 173 undef = undef := hG { on := 7, ground := .guard } (by simp) rfl
              have g173 : a.tmps[173]? = some (.tuple #[]) := hF.get (by simp) s173
              go_wp2_with fail
              exact hK _ _ hS (Below.refl _ _) (by first | rfl | (show _ = _; simp))
            | 13, _ =>
              cases ho
              have s3 : a.tmps.getD 3 undef = Value.slice (some { block := b, off := o }) n c := hF.slots 3 (by simp) (by decide)
              have s173 : a.tmps.getD 173 undef = undef := hG { on := 7, ground := .guard } (by simp) rfl
              have g173 : a.tmps[173]? = some (.tuple #[]) := hF.get (by simp) s173
              go_wp2_with fail
              exact hK _ _ hS (Below.refl _ _) (by first | rfl | (show _ = _; simp))
            | 14, _ =>
              cases ho
              have s14 : a.tmps.getD 14 undef = Value.int IntKind.i64 ↑k := hF.slots 14 (by simp) (by decide)
              have s173 : a.tmps.getD 173 undef = undef := hG { on := 7, ground := .guard } (by simp) rfl
              have g173 : a.tmps[173]? = some (.tuple #[]) := hF.get (by simp) s173
              go_wp2_with fail
              exact hK _ _ hS (Below.refl _ _) (by first | rfl | (show _ = _; simp))
            | 15, _ =>
              cases ho
              have s179 : a.tmps.getD 179 undef = undef := hG { on := 13, ground := .data } (by simp) rfl
              have s180 : a.tmps.getD 180 undef = undef := hG { on := 14, ground := .data } (by simp) rfl
              have s173 : a.tmps.getD 173 undef = undef := hG { on := 7, ground := .guard } (by simp) rfl
              have g173 : a.tmps[173]? = some (.tuple #[]) := hF.get (by simp) s173
              go_wp2_with fail
              exact hK _ _ hS (Below.refl _ _) (by first | rfl | (show _ = _; simp))
            | 16, _ =>
              cases ho
              have s181 : a.tmps.getD 181 undef = undef := hG { on := 15, ground := .data } (by simp) rfl
              have s173 : a.tmps.getD 173 undef = undef := hG { on := 7, ground := .guard } (by simp) rfl
              have g173 : a.tmps[173]? = some (.tuple #[]) := hF.get (by simp) s173
              go_wp2_with fail
              exact hK _ _ hS (Below.refl _ _) (by first | rfl | (show _ = _; simp))
            | 17, _ =>
              cases ho
              have s182 : a.tmps.getD 182 undef = undef := hG { on := 16, ground := .data } (by simp) rfl
              have s173 : a.tmps.getD 173 undef = undef := hG { on := 7, ground := .guard } (by simp) rfl
              have g173 : a.tmps[173]? = some (.tuple #[]) := hF.get (by simp) s173
              go_wp2_with fail
              exact hK _ _ hS (Below.refl _ _) (by first | rfl | (show _ = _; simp))
            | 18, _ =>
              cases ho
              have s176 : a.tmps.getD 176 undef = undef := hG { on := 10, ground := .data } (by simp) rfl
              have s177 : a.tmps.getD 177 undef = undef := hG { on := 11, ground := .data } (by simp) rfl
              have s178 : a.tmps.getD 178 undef = undef := hG { on := 12, ground := .data } (by simp) rfl
              have s183 : a.tmps.getD 183 undef = undef := hG { on := 17, ground := .data } (by simp) rfl
              have s173 : a.tmps.getD 173 undef = undef := hG { on := 7, ground := .guard } (by simp) rfl
              have g173 : a.tmps[173]? = some (.tuple #[]) := hF.get (by simp) s173
              go_wp2_with fail
              exact hK _ _ hS (Below.refl _ _) (by first | rfl | (show _ = _; simp))
            | 19, _ =>
              cases ho
              have s175 : a.tmps.getD 175 undef = undef := hG { on := 9, ground := .data } (by simp) rfl
              have s184 : a.tmps.getD 184 undef = undef := hG { on := 18, ground := .data } (by simp) rfl
              have s173 : a.tmps.getD 173 undef = undef := hG { on := 7, ground := .guard } (by simp) rfl
              have g173 : a.tmps[173]? = some (.tuple #[]) := hF.get (by simp) s173
              go_wp2_with fail
              exact hK _ _ hS (Below.refl _ _) (by first | rfl | (show _ = _; simp))
            | 20, _ =>
              cases ho
              have s185 : a.tmps.getD 185 undef = undef := hG { on := 19, ground := .data } (by simp) rfl
              have s173 : a.tmps.getD 173 undef = undef := hG { on := 7, ground := .guard } (by simp) rfl
              have g173 : a.tmps[173]? = some (.tuple #[]) := hF.get (by simp) s173
              go_wp2_with fail
              exact hK _ _ hS (Below.refl _ _) (by first | rfl | (show _ = _; simp))
            | 21, _ =>
              cases ho
              have s173 : a.tmps.getD 173 undef = undef := hG { on := 7, ground := .data } (by simp) rfl
              have s186 : a.tmps.getD 186 undef = undef := hG { on := 20, ground := .data } (by simp) rfl
              have s168 : a.tmps.getD 168 undef = .bool false := hG { on := 2, ground := .guard } (by simp) rfl
              have g168 := hF.get (by simp) s168
              go_wp2_with fail
              exact hK _ _ hS (Below.refl _ _) (by first | rfl | (show _ = _; simp))
            | 22, _ =>
              cases ho
              have s168 : a.tmps.getD 168 undef = .bool false := hG { on := 2, ground := .data } (by simp) rfl
              have s187 : a.tmps.getD 187 undef = undef := hG { on := 21, ground := .data } (by simp) rfl
              go_wp2_with fail
              exact hK _ _ hS (Below.refl _ _) (by first | rfl | (show _ = _; simp))
            | 23, _ =>
              cases ho
              have s188 : a.tmps.getD 188 undef = .bool false := hG { on := 22, ground := .data } (by simp) rfl
              go_wp2_with fail
              exact hK _ _ hS (Below.refl _ _) (by first | rfl | (show _ = _; simp))
            | 24, _ =>
              cases ho
              have s18 : a.tmps.getD 18 undef = Value.int IntKind.i64 19 := hF.slots 18 (by simp) (by decide)
              have s189 : a.tmps.getD 189 undef = .bool false := hG { on := 23, ground := .guard } (by simp) rfl
              have g189 := hF.get (by simp) s189
              go_wp2_with fail
              exact hK _ _ hS (Below.refl _ _) (by first | rfl | (show _ = _; simp))
            | 25, _ =>
              cases ho
              have s190 : a.tmps.getD 190 undef = .int .i64 19 := hG { on := 24, ground := .data } (by simp) rfl
              have s189 : a.tmps.getD 189 undef = .bool false := hG { on := 23, ground := .guard } (by simp) rfl
              have g189 := hF.get (by simp) s189
              go_wp2_with fail
              exact hK _ _ hS (Below.refl _ _) (by first | rfl | (show _ = _; simp))
            | 26, _ =>
              cases ho
              have s191 : a.tmps.getD 191 undef = .bool true := hG { on := 25, ground := .data } (by simp) rfl
              have s189 : a.tmps.getD 189 undef = .bool false := hG { on := 23, ground := .guard } (by simp) rfl
              have g189 := hF.get (by simp) s189
              go_wp2_with fail
              exact hK _ _ hS (Below.refl _ _) (by first | rfl | (show _ = _; simp))
            | 27, _ =>
              cases ho
              have s15 : a.tmps.getD 15 undef = Value.pointer (some { block := w4.heap.size, off := 0 }) := hF.slots 15 (by simp) (by decide)
              have s192 : a.tmps.getD 192 undef = .bool true := hG { on := 26, ground := .guard } (by simp) rfl
              have g192 := hF.get (by simp) s192
              go_wp2_with fail
              exact hK _ _ hS (Below.refl _ _) (by first | rfl | (show _ = _; simp))
            | 28, _ =>
              cases ho
              have s193 : a.tmps.getD 193 undef = .agg (sigV 0 (zs 560) (.slice none 0 0)).toArray := hG { on := 27, ground := .data } (by simp) rfl
              have s192 : a.tmps.getD 192 undef = .bool true := hG { on := 26, ground := .guard } (by simp) rfl
              have g192 := hF.get (by simp) s192
              go_wp2_with fail
              refine (zb.out W _ (SlC.nil _ _)).mono ?_
              rintro e W2 ⟨p, rfl, ho2, hb2⟩
              go_wp2_with fail
              exact hK _ _ (AtU_keep hS hb2) hb2 ⟨p, rfl, SlC.of_own ho2⟩
            | 29, _ =>
              cases ho
              have s192 : a.tmps.getD 192 undef = .bool true := hG { on := 26, ground := .guard } (by simp) rfl
              have g192 := hF.get (by simp) s192
              go_wp2_with fail
              exact hK _ _ hS (Below.refl _ _) (by first | rfl | (show _ = _; simp))
            | 30, _ =>
              cases ho
              obtain ⟨p194, s194, hp194⟩ : O0bP w4 28 (a.tmps.getD 194 undef) W := hG { on := 28, ground := .data } (by simp) rfl
              have s195 : a.tmps.getD 195 undef = .agg (sigV 0 (zs 560) (.slice none 0 0)).toArray := hG { on := 29, ground := .data } (by simp) rfl
              have s192 : a.tmps.getD 192 undef = .bool true := hG { on := 26, ground := .guard } (by simp) rfl
              have g192 := hF.get (by simp) s192
              go_wp2_with fail
              refine (zq.out W _ _ hp194 (SlC.nil _ _)).mono ?_
              rintro e W2 ⟨rfl, hb2⟩
              go_wp2_with fail
              exact hK _ _ (AtU_keep hS hb2) hb2 (by show _ = _; simp)
            | 31, _ =>
              cases ho
              have s196 : a.tmps.getD 196 undef = .bool true := hG { on := 30, ground := .data } (by simp) rfl
              have s192 : a.tmps.getD 192 undef = .bool true := hG { on := 26, ground := .guard } (by simp) rfl
              have g192 := hF.get (by simp) s192
              go_wp2_with fail
              exact hK _ _ hS (Below.refl _ _) (by first | rfl | (show _ = _; simp))
            | 32, _ =>
              cases ho
              have s192 : a.tmps.getD 192 undef = .bool true := hG { on := 26, ground := .data } (by simp) rfl
              have s197 : a.tmps.getD 197 undef = .bool false := hG { on := 31, ground := .data } (by simp) rfl
              have s189 : a.tmps.getD 189 undef = .bool false := hG { on := 23, ground := .guard } (by simp) rfl
              have g189 := hF.get (by simp) s189
              go_wp2_with fail
              exact hK _ _ hS (Below.refl _ _) (by first | rfl | (show _ = _; simp))
            | i + 33, hi => exact absurd hi (by omega)
          · intro a W hS hF hG
            have t166 : a.tmps.getD 166 undef = .int .i64 19 := hG 0 (by omega)
            have t167 : a.tmps.getD 167 undef = .bool false := hG 1 (by omega)
            have t168 : a.tmps.getD 168 undef = .bool false := hG 2 (by omega)
            have t169 : a.tmps.getD 169 undef = undef := hG 3 (by omega)
            have t170 : a.tmps.getD 170 undef = undef := hG 4 (by omega)
            have t171 : a.tmps.getD 171 undef = undef := hG 5 (by omega)
            have t172 : a.tmps.getD 172 undef = undef := hG 6 (by omega)
            have t173 : a.tmps.getD 173 undef = undef := hG 7 (by omega)
            have t174 : a.tmps.getD 174 undef = undef := hG 8 (by omega)
            have t175 : a.tmps.getD 175 undef = undef := hG 9 (by omega)
            have t176 : a.tmps.getD 176 undef = undef := hG 10 (by omega)
            have t177 : a.tmps.getD 177 undef = undef := hG 11 (by omega)
            have t178 : a.tmps.getD 178 undef = undef := hG 12 (by omega)
            have t179 : a.tmps.getD 179 undef = undef := hG 13 (by omega)
            have t180 : a.tmps.getD 180 undef = undef := hG 14 (by omega)
            have t181 : a.tmps.getD 181 undef = undef := hG 15 (by omega)
            have t182 : a.tmps.getD 182 undef = undef := hG 16 (by omega)
            have t183 : a.tmps.getD 183 undef = undef := hG 17 (by omega)
            have t184 : a.tmps.getD 184 undef = undef := hG 18 (by omega)
            have t185 : a.tmps.getD 185 undef = undef := hG 19 (by omega)
            have t186 : a.tmps.getD 186 undef = undef := hG 20 (by omega)
            have t187 : a.tmps.getD 187 undef = undef := hG 21 (by omega)
            have t188 : a.tmps.getD 188 undef = .bool false := hG 22 (by omega)
            have t189 : a.tmps.getD 189 undef = .bool false := hG 23 (by omega)
            have t190 : a.tmps.getD 190 undef = .int .i64 19 := hG 24 (by omega)
            have t191 : a.tmps.getD 191 undef = .bool true := hG 25 (by omega)
            have t192 : a.tmps.getD 192 undef = .bool true := hG 26 (by omega)
            have t193 : a.tmps.getD 193 undef = .agg (sigV 0 (zs 560) (.slice none 0 0)).toArray := hG 27 (by omega)
            obtain ⟨p194, t194, hp194⟩ : O0bP w4 28 (a.tmps.getD 194 undef) W := hG 28 (by omega)
            have t195 : a.tmps.getD 195 undef = .agg (sigV 0 (zs 560) (.slice none 0 0)).toArray := hG 29 (by omega)
            have t196 : a.tmps.getD 196 undef = .bool true := hG 30 (by omega)
            have t197 : a.tmps.getD 197 undef = .bool false := hG 31 (by omega)
            have t198 : a.tmps.getD 198 undef = .bool false := hG 32 (by omega)
            have fr := Ord.frame_all (vs := (.int .i64 19 :: .bool false :: .bool false :: undef :: undef :: undef :: undef :: undef :: undef :: undef :: undef :: undef :: undef :: undef :: undef :: undef :: undef :: undef :: undef :: undef :: undef :: undef :: .bool false :: .bool false :: .int .i64 19 :: .bool true :: .bool true :: .agg (sigV 0 (zs 560) (.slice none 0 0)).toArray :: .agg (sigV 0 (zs 560) p194).toArray :: .agg (sigV 0 (zs 560) (.slice none 0 0)).toArray :: .bool true :: .bool false :: .bool false :: [])) hF (by rfl) (fun j hj => match j, hj with
              | 0, _ => t166
              | 1, _ => t167
              | 2, _ => t168
              | 3, _ => t169
              | 4, _ => t170
              | 5, _ => t171
              | 6, _ => t172
              | 7, _ => t173
              | 8, _ => t174
              | 9, _ => t175
              | 10, _ => t176
              | 11, _ => t177
              | 12, _ => t178
              | 13, _ => t179
              | 14, _ => t180
              | 15, _ => t181
              | 16, _ => t182
              | 17, _ => t183
              | 18, _ => t184
              | 19, _ => t185
              | 20, _ => t186
              | 21, _ => t187
              | 22, _ => t188
              | 23, _ => t189
              | 24, _ => t190
              | 25, _ => t191
              | 26, _ => t192
              | 27, _ => t193
              | 28, _ => t194
              | 29, _ => t195
              | 30, _ => t196
              | 31, _ => t197
              | 32, _ => t198
              | j + 33, hj => absurd hj (by simp))
            have fe : Ord.setAll (agg IntKind.u8 seed :: Value.int IntKind.u8 ↑m :: Value.int IntKind.i64 ↑nx :: Value.slice (some { block := b, off := o }) n c :: Value.pointer (some { block := w.heap.size, off := 0 }) :: undef :: undef :: undef :: u8 :: Value.int IntKind.i64 ↑h :: Value.pointer (some { block := w1.heap.size, off := 0 }) :: Value.pointer (some { block := g, off := 0 }) :: Value.int IntKind.i64 0 :: Value.int IntKind.i64 ((2 : Int) ^ h) :: Value.int IntKind.i64 ↑k :: Value.pointer (some { block := w4.heap.size, off := 0 }) :: Value.int IntKind.i64 19 :: Value.int IntKind.i64 ↑nx :: Value.int IntKind.i64 19 :: Value.bool true :: Value.bool false :: Value.bool false :: Value.slice (some { block := b, off := o }) n c :: Value.int IntKind.i64 ↑n :: Value.bool false :: Value.bool false :: undef :: Value.int IntKind.u8 ↑m :: Value.int IntKind.i64 ↑h :: Value.agg (cl IntKind.u8 seed).toArray :: Value.int IntKind.i64 ↑h :: Value.agg (secV seed ↑h).toArray :: Value.tuple #[Value.pointer (some { block := g, off := 0 }), Value.int IntKind.i64 0] :: Value.agg (secV seed ↑h).toArray :: Value.int IntKind.i64 ↑next :: Value.tuple #[Value.pointer (some { block := g, off := 0 }), Value.int IntKind.i64 0] :: Value.pointer (some { block := g, off := 0 }) :: Value.int IntKind.i64 0 :: Value.int IntKind.i64 ↑h :: Value.int IntKind.i64 ((2 : Int) ^ h) :: Value.int IntKind.i64 ↑next :: Value.bool false :: Value.bool false :: Value.int IntKind.i64 ↑next :: Value.int IntKind.i64 ((2 : Int) ^ h) :: Value.bool false :: Value.bool false :: undef :: undef :: undef :: undef :: undef :: undef :: Value.int IntKind.i64 0 :: Value.bool false :: Value.bool false :: Value.pointer (some { block := g, off := 0 }) :: Value.agg (pubV (↑h) KR).toArray :: Value.int IntKind.i64 ↑h :: Value.int IntKind.i64 ↑h :: Value.bool false :: Value.bool false :: Value.bool false :: Value.pointer (some { block := g, off := 0 }) :: Value.agg (pubV (↑h) KR).toArray :: agg IntKind.u8 KR :: Value.agg (cl IntKind.u8 seed).toArray :: Value.int IntKind.i64 ↑h :: agg IntKind.u8 KR :: Value.bool false :: Value.bool false :: Value.int IntKind.i64 ↑k :: Value.slice (some { block := b, off := o }) n c :: Value.int IntKind.i64 ↑n :: Value.bool true :: u75 :: u76 :: Value.pointer (some { block := g, off := 0 }) :: Value.int IntKind.i64 ↑nx :: Value.int IntKind.i64 ↑nx :: Value.bool false :: Value.bool false :: Value.pointer (some { block := g, off := 0 }) :: Value.int IntKind.i64 0 :: Value.int IntKind.i64 ((2 : Int) ^ h) :: Value.int IntKind.i64 ((2 : Int) ^ h - 1) :: Value.int IntKind.i64 ↑nx :: Value.int IntKind.i64 ((2 : Int) ^ h - 1 - ↑nx) :: Value.int IntKind.i64 (max 0 ((2 : Int) ^ h - 1 - ↑nx)) :: Value.bool false :: Value.bool false :: Value.int IntKind.i64 ↑nx :: Value.slice (some { block := b, off := o }) n c :: Value.int IntKind.i64 ↑k :: Value.pointer (some { block := b, off := o + k * 18 }) :: Value.pointer (some { block := b, off := o + k * 18 }) :: Value.int IntKind.u8 ↑kd :: Value.int IntKind.u8 0 :: u98 :: u99 :: u100 :: u101 :: u102 :: u103 :: u104 :: u105 :: u106 :: u107 :: u108 :: u109 :: u110 :: u111 :: u112 :: u113 :: u114 :: u115 :: u116 :: u117 :: u118 :: u119 :: u120 :: u121 :: u122 :: u123 :: u124 :: u125 :: u126 :: Value.bool true :: Value.bool true :: Value.tuple #[Value.agg (sigV 0 (zs 560) (Value.slice none 0 0)).toArray, Value.int IntKind.i64 19] :: Value.pointer (some { block := g, off := 0 }) :: Value.slice (some { block := b, off := o }) n c :: Value.int IntKind.i64 ↑k :: Value.pointer (some { block := b, off := o + k * 18 }) :: Value.pointer (some { block := b, off := o + k * 18 + 2 }) :: agg IntKind.u8 d :: Value.tuple #[Value.agg (sigV 0 (zs 560) (Value.slice none 0 0)).toArray, Value.int IntKind.i64 19] :: Value.agg (sigV 0 (zs 560) (Value.slice none 0 0)).toArray :: Value.int IntKind.i64 19 :: Value.int IntKind.i64 ↑nx :: Value.int IntKind.i64 ((2 : Int) ^ h) :: Value.int IntKind.i64 ((2 : Int) ^ h - 1) :: Value.bool true :: u143 :: u144 :: u145 :: u146 :: u147 :: u148 :: u149 :: u150 :: u151 :: u152 :: u153 :: u154 :: u155 :: u156 :: u157 :: u158 :: u159 :: u160 :: u161 :: u162 :: Value.int IntKind.i64 19 :: Value.int IntKind.i64 19 :: Value.bool false :: u166 :: u167 :: u168 :: u169 :: u170 :: u171 :: u172 :: u173 :: u174 :: u175 :: u176 :: u177 :: u178 :: u179 :: u180 :: u181 :: u182 :: u183 :: u184 :: u185 :: u186 :: u187 :: u188 :: u189 :: u190 :: u191 :: u192 :: u193 :: u194 :: u195 :: u196 :: u197 :: u198 :: u199 :: undef :: undef :: undef :: undef :: []) (166 :: 167 :: 168 :: 169 :: 170 :: 171 :: 172 :: 173 :: 174 :: 175 :: 176 :: 177 :: 178 :: 179 :: 180 :: 181 :: 182 :: 183 :: 184 :: 185 :: 186 :: 187 :: 188 :: 189 :: 190 :: 191 :: 192 :: 193 :: 194 :: 195 :: 196 :: 197 :: 198 :: []) (.int .i64 19 :: .bool false :: .bool false :: undef :: undef :: undef :: undef :: undef :: undef :: undef :: undef :: undef :: undef :: undef :: undef :: undef :: undef :: undef :: undef :: undef :: undef :: undef :: .bool false :: .bool false :: .int .i64 19 :: .bool true :: .bool true :: .agg (sigV 0 (zs 560) (.slice none 0 0)).toArray :: .agg (sigV 0 (zs 560) p194).toArray :: .agg (sigV 0 (zs 560) (.slice none 0 0)).toArray :: .bool true :: .bool false :: .bool false :: []) = (agg IntKind.u8 seed :: Value.int IntKind.u8 ↑m :: Value.int IntKind.i64 ↑nx :: Value.slice (some { block := b, off := o }) n c :: Value.pointer (some { block := w.heap.size, off := 0 }) :: undef :: undef :: undef :: u8 :: Value.int IntKind.i64 ↑h :: Value.pointer (some { block := w1.heap.size, off := 0 }) :: Value.pointer (some { block := g, off := 0 }) :: Value.int IntKind.i64 0 :: Value.int IntKind.i64 ((2 : Int) ^ h) :: Value.int IntKind.i64 ↑k :: Value.pointer (some { block := w4.heap.size, off := 0 }) :: Value.int IntKind.i64 19 :: Value.int IntKind.i64 ↑nx :: Value.int IntKind.i64 19 :: Value.bool true :: Value.bool false :: Value.bool false :: Value.slice (some { block := b, off := o }) n c :: Value.int IntKind.i64 ↑n :: Value.bool false :: Value.bool false :: undef :: Value.int IntKind.u8 ↑m :: Value.int IntKind.i64 ↑h :: Value.agg (cl IntKind.u8 seed).toArray :: Value.int IntKind.i64 ↑h :: Value.agg (secV seed ↑h).toArray :: Value.tuple #[Value.pointer (some { block := g, off := 0 }), Value.int IntKind.i64 0] :: Value.agg (secV seed ↑h).toArray :: Value.int IntKind.i64 ↑next :: Value.tuple #[Value.pointer (some { block := g, off := 0 }), Value.int IntKind.i64 0] :: Value.pointer (some { block := g, off := 0 }) :: Value.int IntKind.i64 0 :: Value.int IntKind.i64 ↑h :: Value.int IntKind.i64 ((2 : Int) ^ h) :: Value.int IntKind.i64 ↑next :: Value.bool false :: Value.bool false :: Value.int IntKind.i64 ↑next :: Value.int IntKind.i64 ((2 : Int) ^ h) :: Value.bool false :: Value.bool false :: undef :: undef :: undef :: undef :: undef :: undef :: Value.int IntKind.i64 0 :: Value.bool false :: Value.bool false :: Value.pointer (some { block := g, off := 0 }) :: Value.agg (pubV (↑h) KR).toArray :: Value.int IntKind.i64 ↑h :: Value.int IntKind.i64 ↑h :: Value.bool false :: Value.bool false :: Value.bool false :: Value.pointer (some { block := g, off := 0 }) :: Value.agg (pubV (↑h) KR).toArray :: agg IntKind.u8 KR :: Value.agg (cl IntKind.u8 seed).toArray :: Value.int IntKind.i64 ↑h :: agg IntKind.u8 KR :: Value.bool false :: Value.bool false :: Value.int IntKind.i64 ↑k :: Value.slice (some { block := b, off := o }) n c :: Value.int IntKind.i64 ↑n :: Value.bool true :: u75 :: u76 :: Value.pointer (some { block := g, off := 0 }) :: Value.int IntKind.i64 ↑nx :: Value.int IntKind.i64 ↑nx :: Value.bool false :: Value.bool false :: Value.pointer (some { block := g, off := 0 }) :: Value.int IntKind.i64 0 :: Value.int IntKind.i64 ((2 : Int) ^ h) :: Value.int IntKind.i64 ((2 : Int) ^ h - 1) :: Value.int IntKind.i64 ↑nx :: Value.int IntKind.i64 ((2 : Int) ^ h - 1 - ↑nx) :: Value.int IntKind.i64 (max 0 ((2 : Int) ^ h - 1 - ↑nx)) :: Value.bool false :: Value.bool false :: Value.int IntKind.i64 ↑nx :: Value.slice (some { block := b, off := o }) n c :: Value.int IntKind.i64 ↑k :: Value.pointer (some { block := b, off := o + k * 18 }) :: Value.pointer (some { block := b, off := o + k * 18 }) :: Value.int IntKind.u8 ↑kd :: Value.int IntKind.u8 0 :: u98 :: u99 :: u100 :: u101 :: u102 :: u103 :: u104 :: u105 :: u106 :: u107 :: u108 :: u109 :: u110 :: u111 :: u112 :: u113 :: u114 :: u115 :: u116 :: u117 :: u118 :: u119 :: u120 :: u121 :: u122 :: u123 :: u124 :: u125 :: u126 :: Value.bool true :: Value.bool true :: Value.tuple #[Value.agg (sigV 0 (zs 560) (Value.slice none 0 0)).toArray, Value.int IntKind.i64 19] :: Value.pointer (some { block := g, off := 0 }) :: Value.slice (some { block := b, off := o }) n c :: Value.int IntKind.i64 ↑k :: Value.pointer (some { block := b, off := o + k * 18 }) :: Value.pointer (some { block := b, off := o + k * 18 + 2 }) :: agg IntKind.u8 d :: Value.tuple #[Value.agg (sigV 0 (zs 560) (Value.slice none 0 0)).toArray, Value.int IntKind.i64 19] :: Value.agg (sigV 0 (zs 560) (Value.slice none 0 0)).toArray :: Value.int IntKind.i64 19 :: Value.int IntKind.i64 ↑nx :: Value.int IntKind.i64 ((2 : Int) ^ h) :: Value.int IntKind.i64 ((2 : Int) ^ h - 1) :: Value.bool true :: u143 :: u144 :: u145 :: u146 :: u147 :: u148 :: u149 :: u150 :: u151 :: u152 :: u153 :: u154 :: u155 :: u156 :: u157 :: u158 :: u159 :: u160 :: u161 :: u162 :: Value.int IntKind.i64 19 :: Value.int IntKind.i64 19 :: Value.bool false :: .int .i64 19 :: .bool false :: .bool false :: undef :: undef :: undef :: undef :: undef :: undef :: undef :: undef :: undef :: undef :: undef :: undef :: undef :: undef :: undef :: undef :: undef :: undef :: undef :: .bool false :: .bool false :: .int .i64 19 :: .bool true :: .bool true :: .agg (sigV 0 (zs 560) (.slice none 0 0)).toArray :: .agg (sigV 0 (zs 560) p194).toArray :: .agg (sigV 0 (zs 560) (.slice none 0 0)).toArray :: .bool true :: .bool false :: .bool false :: u199 :: undef :: undef :: undef :: undef :: []) := by kernel_rfl
            rw [fe] at fr
            clear fe
            subst fr
            clear hF hG t166 t167 t168 t169 t170 t171 t172 t173 t174 t175 t176 t177 t178 t179 t180 t181 t182 t183 t184 t185 t186 t187 t188 t189 t190 t191 t192 t193 t194 t195 t196 t197 t198
            simp only [List.drop_succ_cons, List.drop_zero]
            have HS7 := Lib.hid hS
            clear hS hp194
            go_wp2_with fail
            go_roundw
            case rel => exact ⟨nx, k + 1, by omega, by omega, by first | rfl | go_num, by go_num, HS7.out.1⟩
            case measure => simp [intOf]; omega
        · have hnN : nx + 1 < 2 ^ h := by
            have : ((nx + 1 : Nat) : Int) < ((2 ^ h : Nat) : Int) := by push_cast; omega
            exact_mod_cast this
          have cs := Lib.hid (fun W hB => signer_sign W g h nx seed KR d (h : Int) HSS.out lK ld BD.out HH.out hnN hB)
          obtain ⟨S, hS⟩ : ∃ S, S = sg seed d nx := ⟨_, rfl⟩
          obtain ⟨PS, hPS⟩ : ∃ PS, PS = sigPath seed h nx := ⟨_, rfl⟩
          have lS : S.length = 560 := by rw [hS]; exact sg_length _ _ _
          have lP : PS.length = h := by rw [hPS]; exact sigPath_length _ _ _
          have nP : N16 PS := by rw [hPS]; exact sigPath_16 seed (by omega) (by omega)
          have c8 := Lib.hid (fun W => sign8 W seed d h nx HSS.out ld BD.out HH.out (by omega))
          rw [← hS, ← hPS] at cs c8
          have cb : Hid (∀ W y, SlN W y PS → Calls Tryz.prog 11 #[.agg (sigV (nx : Int) S y).toArray] W fun e w' => ∃ p, e = .returned (.agg (sigV (nx : Int) S p).toArray) ∧ OwnN 23 w' W.heap.size p PS ∧ Below W.heap.size W w') := Lib.hid fun W y hy => back W (nx : Int) S y PS lS hy (by omega)
          have cq : Hid (∀ W v1 v2, SlN W v1 PS → SlN W v2 PS → Calls Tryz.prog 10 #[.agg (sigV (nx : Int) S v1).toArray, .agg (sigV (nx : Int) S v2).toArray] W fun e w' => e = .returned (.bool (decide ((nx : Int) = (nx : Int) ∧ S = S ∧ PS = PS))) ∧ Below W.heap.size W w') := Lib.hid fun W v1 v2 h1 h2 => same W _ _ S S v1 v2 PS PS lS lS h1 h2 nP nP (by omega)
          have LP := Lib.hid lP
          clear hS hPS nP lP
          clear hnN
          go_wp2_with fail
          refine (next_at _ g HSS.out lK A1.out.2.1).mono ?_
          rintro e w3 ⟨rfl, hb3⟩
          have A3 := Lib.hid (AtO_keep A1.out hb3)
          clear hb3
          go_wp2_with fail
          refine (left_pos _ g HSS.out lK (by omega) (by omega) (by omega) (by omega) A3.out.2.1).mono ?_
          rintro e w4 ⟨rfl, hb4⟩
          have A4 := Lib.hid (AtO_keep (AtO_keep A3.out hb4) ((Below.refl _ _).alloc (Nat.le_refl _) (.cells (sigV 0 (zs 560) (.slice none 0 0)).toArray 31)))
          have B4 := Lib.hid (blk_new w4 (sigV 0 (zs 560) (.slice none 0 0)) 31)
          have q1 := (HQ.out _ A4.out.2.2).1
          have q2 := (HQ.out _ A4.out.2.2).2.1
          have q3 := (HQ.out _ A4.out.2.2).2.2
          have h4 : g < w4.heap.size := by have := blk_lt A3.out.2.1; have := hb4.size; omega
          have g4 : w.heap.size < w4.heap.size := by omega
          clear hb4
          go_wp2_with fail
          refine (cs.out _ A4.out.2.1).mono ?_
          rintro e w5 ⟨p, rfl, ho5, hB5, hg5⟩
          have hp5 := SlC.of_own ho5
          obtain ⟨Ap, ap, rfl, -⟩ := id hp5
          have q5 := bk_of (blk_grown B4.out hg5 (by simp; omega))
          have A6 := Lib.hid (show AtP w g h seed KR ((nx : Int) + 1) w4.heap.size (nx : Int) S (.slice Ap PS.length ap) PS (w5.setRow w4.heap.size (sigV (nx : Int) S (.slice Ap PS.length ap)).toArray) from ⟨⟨blk_setRow_ne (blk_grown A4.out.1 hg5 (by simp; omega)) _ (by omega), blk_setRow_ne hB5 _ (by omega), bel_setRow (A4.out.2.2.grown hg5 A4.out.2.2.size (fun j hj => by cases hj; omega)) (by omega) _⟩, blk_setRow (blk_grown B4.out hg5 (by simp; omega)) _, SlC.of_own (own_setRow ho5 (own_blk_ne ho5 (blk_grown B4.out hg5 (by simp; omega)) (by decide)))⟩)
          clear ho5 hB5 hg5 hp5
          go_wp2_with fail
          refine Ord.wp_region_tab2 33 (166 :: 167 :: 168 :: 169 :: 170 :: 171 :: 172 :: 173 :: 174 :: 175 :: 176 :: 177 :: 178 :: 179 :: 180 :: 181 :: 182 :: 183 :: 184 :: 185 :: 186 :: 187 :: 188 :: 189 :: 190 :: 191 :: 192 :: 193 :: 194 :: 195 :: 196 :: 197 :: 198 :: []) (agg IntKind.u8 seed :: Value.int IntKind.u8 ↑m :: Value.int IntKind.i64 (↑nx + 1) :: Value.slice (some { block := b, off := o }) n c :: Value.pointer (some { block := w.heap.size, off := 0 }) :: undef :: undef :: undef :: u8 :: Value.int IntKind.i64 ↑h :: Value.pointer (some { block := w1.heap.size, off := 0 }) :: Value.pointer (some { block := g, off := 0 }) :: Value.int IntKind.i64 0 :: Value.int IntKind.i64 ((2 : Int) ^ h) :: Value.int IntKind.i64 ↑k :: Value.pointer (some { block := w4.heap.size, off := 0 }) :: Value.int IntKind.i64 0 :: Value.int IntKind.i64 ↑nx :: Value.int IntKind.i64 0 :: Value.bool true :: Value.bool false :: Value.bool false :: Value.slice (some { block := b, off := o }) n c :: Value.int IntKind.i64 ↑n :: Value.bool false :: Value.bool false :: undef :: Value.int IntKind.u8 ↑m :: Value.int IntKind.i64 ↑h :: Value.agg (cl IntKind.u8 seed).toArray :: Value.int IntKind.i64 ↑h :: Value.agg (secV seed ↑h).toArray :: Value.tuple #[Value.pointer (some { block := g, off := 0 }), Value.int IntKind.i64 0] :: Value.agg (secV seed ↑h).toArray :: Value.int IntKind.i64 ↑next :: Value.tuple #[Value.pointer (some { block := g, off := 0 }), Value.int IntKind.i64 0] :: Value.pointer (some { block := g, off := 0 }) :: Value.int IntKind.i64 0 :: Value.int IntKind.i64 ↑h :: Value.int IntKind.i64 ((2 : Int) ^ h) :: Value.int IntKind.i64 ↑next :: Value.bool false :: Value.bool false :: Value.int IntKind.i64 ↑next :: Value.int IntKind.i64 ((2 : Int) ^ h) :: Value.bool false :: Value.bool false :: undef :: undef :: undef :: undef :: undef :: undef :: Value.int IntKind.i64 0 :: Value.bool false :: Value.bool false :: Value.pointer (some { block := g, off := 0 }) :: Value.agg (pubV (↑h) KR).toArray :: Value.int IntKind.i64 ↑h :: Value.int IntKind.i64 ↑h :: Value.bool false :: Value.bool false :: Value.bool false :: Value.pointer (some { block := g, off := 0 }) :: Value.agg (pubV (↑h) KR).toArray :: agg IntKind.u8 KR :: Value.agg (cl IntKind.u8 seed).toArray :: Value.int IntKind.i64 ↑h :: agg IntKind.u8 KR :: Value.bool false :: Value.bool false :: Value.int IntKind.i64 ↑k :: Value.slice (some { block := b, off := o }) n c :: Value.int IntKind.i64 ↑n :: Value.bool true :: u75 :: u76 :: Value.pointer (some { block := g, off := 0 }) :: Value.int IntKind.i64 ↑nx :: Value.int IntKind.i64 ↑nx :: Value.bool false :: Value.bool false :: Value.pointer (some { block := g, off := 0 }) :: Value.int IntKind.i64 ((2 : Int) ^ h - 1 - ↑nx) :: Value.int IntKind.i64 ((2 : Int) ^ h) :: Value.int IntKind.i64 ((2 : Int) ^ h - 1) :: Value.int IntKind.i64 ↑nx :: Value.int IntKind.i64 ((2 : Int) ^ h - 1 - ↑nx) :: Value.int IntKind.i64 (max 0 ((2 : Int) ^ h - 1 - ↑nx)) :: Value.bool false :: Value.bool false :: Value.int IntKind.i64 ↑nx :: Value.slice (some { block := b, off := o }) n c :: Value.int IntKind.i64 ↑k :: Value.pointer (some { block := b, off := o + k * 18 }) :: Value.pointer (some { block := b, off := o + k * 18 }) :: Value.int IntKind.u8 ↑kd :: Value.int IntKind.u8 0 :: u98 :: u99 :: u100 :: u101 :: u102 :: u103 :: u104 :: u105 :: u106 :: u107 :: u108 :: u109 :: u110 :: u111 :: u112 :: u113 :: u114 :: u115 :: u116 :: u117 :: u118 :: u119 :: u120 :: u121 :: u122 :: u123 :: u124 :: u125 :: u126 :: Value.bool true :: Value.bool true :: Value.tuple #[Value.agg (sigV (↑nx) S (Value.slice Ap PS.length ap)).toArray, Value.int IntKind.i64 0] :: Value.pointer (some { block := g, off := 0 }) :: Value.slice (some { block := b, off := o }) n c :: Value.int IntKind.i64 ↑k :: Value.pointer (some { block := b, off := o + k * 18 }) :: Value.pointer (some { block := b, off := o + k * 18 + 2 }) :: agg IntKind.u8 d :: Value.tuple #[Value.agg (sigV (↑nx) S (Value.slice Ap PS.length ap)).toArray, Value.int IntKind.i64 0] :: Value.agg (sigV (↑nx) S (Value.slice Ap PS.length ap)).toArray :: Value.int IntKind.i64 0 :: Value.int IntKind.i64 ↑nx :: Value.int IntKind.i64 ((2 : Int) ^ h) :: Value.int IntKind.i64 ((2 : Int) ^ h - 1) :: Value.bool (decide ((2 : Int) ^ h - 1 ≤ ↑nx)) :: Value.int IntKind.i64 ↑nx :: Value.int IntKind.i64 (↑nx + 1) :: u145 :: u146 :: u147 :: u148 :: u149 :: u150 :: u151 :: u152 :: u153 :: u154 :: u155 :: u156 :: u157 :: u158 :: u159 :: u160 :: u161 :: u162 :: Value.int IntKind.i64 0 :: Value.int IntKind.i64 0 :: Value.bool false :: u166 :: u167 :: u168 :: u169 :: u170 :: u171 :: u172 :: u173 :: u174 :: u175 :: u176 :: u177 :: u178 :: u179 :: u180 :: u181 :: u182 :: u183 :: u184 :: u185 :: u186 :: u187 :: u188 :: u189 :: u190 :: u191 :: u192 :: u193 :: u194 :: u195 :: u196 :: u197 :: u198 :: u199 :: undef :: undef :: undef :: undef :: []) (fun W => AtP w g h seed KR ((nx : Int) + 1) w4.heap.size (nx : Int) S (.slice Ap PS.length ap) PS W) (O0aP w4 h k n c b o seed d S PS Ap ap nx) (by kernel_rfl) (by kernel_rfl) (by rfl) (AtP_keep A6.out (Below.refl _ _).drew) (fun i v W W' _ hb hQ => O0aP_mono w4 h k n c b o seed d S PS Ap ap nx i v W W' hb hQ) ?_ ?_
          · intro i o hi ho a W K hS hF hG hK
            have k1 := bk_of hS.1.1
            have k2 := bk_of hS.2.1
            have k3 := sig_leaf hS.2.1
            have k4 := (HQ.out W hS.1.2.2).2.2
            match i, hi with
            | 0, _ =>
              cases ho
              have s18 : a.tmps.getD 18 undef = Value.int IntKind.i64 0 := hF.slots 18 (by simp) (by decide)
              go_wp2_with fail
              exact hK _ _ hS (Below.refl _ _) (by first | rfl | (show _ = _; simp))
            | 1, _ =>
              cases ho
              have s166 : a.tmps.getD 166 undef = .int .i64 0 := hG { on := 0, ground := .data } (by simp) rfl
              go_wp2_with fail
              exact hK _ _ hS (Below.refl _ _) (by first | rfl | (show _ = _; simp))
            | 2, _ =>
              cases ho
              have s167 : a.tmps.getD 167 undef = .bool true := hG { on := 1, ground := .data } (by simp) rfl
              go_wp2_with fail
              exact hK _ _ hS (Below.refl _ _) (by first | rfl | (show _ = _; simp))
            | 3, _ =>
              cases ho
              have s15 : a.tmps.getD 15 undef = Value.pointer (some { block := w4.heap.size, off := 0 }) := hF.slots 15 (by simp) (by decide)
              have s168 : a.tmps.getD 168 undef = .bool true := hG { on := 2, ground := .guard } (by simp) rfl
              have g168 := hF.get (by simp) s168
              go_wp2_with fail
              exact hK _ _ hS (Below.refl _ _) (by first | rfl | (show _ = _; simp))
            | 4, _ =>
              cases ho
              have s169 : a.tmps.getD 169 undef = .pointer (some ⟨w4.heap.size, 0, none⟩) := hG { on := 3, ground := .data } (by simp) rfl
              have s168 : a.tmps.getD 168 undef = .bool true := hG { on := 2, ground := .guard } (by simp) rfl
              have g168 := hF.get (by simp) s168
              go_wp2_with fail
              exact hK _ _ hS (Below.refl _ _) (by first | rfl | (show _ = _; simp))
            | 5, _ =>
              cases ho
              have s17 : a.tmps.getD 17 undef = Value.int IntKind.i64 ↑nx := hF.slots 17 (by simp) (by decide)
              have s168 : a.tmps.getD 168 undef = .bool true := hG { on := 2, ground := .guard } (by simp) rfl
              have g168 := hF.get (by simp) s168
              go_wp2_with fail
              exact hK _ _ hS (Below.refl _ _) (by first | rfl | (show _ = _; simp))
            | 6, _ =>
              cases ho
              have s170 : a.tmps.getD 170 undef = .int .i64 (nx : Int) := hG { on := 4, ground := .data } (by simp) rfl
              have s171 : a.tmps.getD 171 undef = .int .i64 (nx : Int) := hG { on := 5, ground := .data } (by simp) rfl
              have s168 : a.tmps.getD 168 undef = .bool true := hG { on := 2, ground := .guard } (by simp) rfl
              have g168 := hF.get (by simp) s168
              go_wp2_with fail
              exact hK _ _ hS (Below.refl _ _) (by first | rfl | (show _ = _; simp))
            | 7, _ =>
              cases ho
              have s172 : a.tmps.getD 172 undef = .bool false := hG { on := 6, ground := .data } (by simp) rfl
              have s168 : a.tmps.getD 168 undef = .bool true := hG { on := 2, ground := .guard } (by simp) rfl
              have g168 := hF.get (by simp) s168
              go_wp2_with fail
              exact hK _ _ hS (Below.refl _ _) (by first | rfl | (show _ = _; simp))
            | 8, _ =>
              cases ho
              have s15 : a.tmps.getD 15 undef = Value.pointer (some { block := w4.heap.size, off := 0 }) := hF.slots 15 (by simp) (by decide)
              have s173 : a.tmps.getD 173 undef = .bool false := hG { on := 7, ground := .guard } (by simp) rfl
              have g173 := hF.get (by simp) s173
              go_wp2_with fail
              exact hK _ _ hS (Below.refl _ _) (by first | rfl | (show _ = _; simp))
            | 9, _ =>
              cases ho
              have s174 : a.tmps.getD 174 undef = .agg (sigV (nx : Int) S (.slice Ap PS.length ap)).toArray := hG { on := 8, ground := .data } (by simp) rfl
              have s173 : a.tmps.getD 173 undef = .bool false := hG { on := 7, ground := .guard } (by simp) rfl
              have g173 := hF.get (by simp) s173
              go_wp2_with fail
              refine (cb.out W _ hS.2.2).mono ?_
              rintro e W2 ⟨p, rfl, ho2, hb2⟩
              go_wp2_with fail
              exact hK _ _ (AtP_keep hS hb2) hb2 ⟨p, rfl, SlC.of_own ho2⟩
            | 10, _ =>
              cases ho
              have s4 : a.tmps.getD 4 undef = Value.pointer (some { block := w.heap.size, off := 0 }) := hF.slots 4 (by simp) (by decide)
              have s173 : a.tmps.getD 173 undef = .bool false := hG { on := 7, ground := .guard } (by simp) rfl
              have g173 := hF.get (by simp) s173
              go_wp2_with fail
              exact hK _ _ hS (Below.refl _ _) (by first | rfl | (show _ = _; simp))
            | 11, _ =>
              cases ho
              have s9 : a.tmps.getD 9 undef = Value.int IntKind.i64 ↑h := hF.slots 9 (by simp) (by decide)
              have s173 : a.tmps.getD 173 undef = .bool false := hG { on := 7, ground := .guard } (by simp) rfl
              have g173 := hF.get (by simp) s173
              go_wp2_with fail
              exact hK _ _ hS (Below.refl _ _) (by first | rfl | (show _ = _; simp))
            | 12, _ =>
              cases ho
              have s17 : a.tmps.getD 17 undef = Value.int IntKind.i64 ↑nx := hF.slots 17 (by simp) (by decide)
              have s173 : a.tmps.getD 173 undef = .bool false := hG { on := 7, ground := .guard } (by simp) rfl
              have g173 := hF.get (by simp) s173
              go_wp2_with fail
              exact hK _ _ hS (Below.refl _ _) (by first | rfl | (show _ = _; simp))
            | 13, _ =>
              cases ho
              have s3 : a.tmps.getD 3 undef = Value.slice (some { block := b, off := o }) n c := hF.slots 3 (by simp) (by decide)
              have s173 : a.tmps.getD 173 undef = .bool false := hG { on := 7, ground := .guard } (by simp) rfl
              have g173 := hF.get (by simp) s173
              go_wp2_with fail
              exact hK _ _ hS (Below.refl _ _) (by first | rfl | (show _ = _; simp))
            | 14, _ =>
              cases ho
              have s14 : a.tmps.getD 14 undef = Value.int IntKind.i64 ↑k := hF.slots 14 (by simp) (by decide)
              have s173 : a.tmps.getD 173 undef = .bool false := hG { on := 7, ground := .guard } (by simp) rfl
              have g173 := hF.get (by simp) s173
              go_wp2_with fail
              exact hK _ _ hS (Below.refl _ _) (by first | rfl | (show _ = _; simp))
            | 15, _ =>
              cases ho
              have s179 : a.tmps.getD 179 undef = Value.slice (some { block := b, off := o }) n c := hG { on := 13, ground := .data } (by simp) rfl
              have s180 : a.tmps.getD 180 undef = .int .i64 (k : Int) := hG { on := 14, ground := .data } (by simp) rfl
              have s173 : a.tmps.getD 173 undef = .bool false := hG { on := 7, ground := .guard } (by simp) rfl
              have g173 := hF.get (by simp) s173
              go_wp2_with fail
              exact hK _ _ hS (Below.refl _ _) (by first | rfl | (show _ = _; simp))
            | 16, _ =>
              cases ho
              have s181 : a.tmps.getD 181 undef = .pointer (some ⟨b, o + k * 18, none⟩) := hG { on := 15, ground := .data } (by simp) rfl
              have s173 : a.tmps.getD 173 undef = .bool false := hG { on := 7, ground := .guard } (by simp) rfl
              have g173 := hF.get (by simp) s173
              go_wp2_with fail
              exact hK _ _ hS (Below.refl _ _) (by first | rfl | (show _ = _; simp))
            | 17, _ =>
              cases ho
              have s182 : a.tmps.getD 182 undef = .pointer (some ⟨b, o + k * 18 + 2, none⟩) := hG { on := 16, ground := .data } (by simp) rfl
              have s173 : a.tmps.getD 173 undef = .bool false := hG { on := 7, ground := .guard } (by simp) rfl
              have g173 := hF.get (by simp) s173
              go_wp2_with fail
              exact hK _ _ hS (Below.refl _ _) (by first | rfl | (show _ = _; simp))
            | 18, _ =>
              cases ho
              have s176 : a.tmps.getD 176 undef = agg .u8 seed := hG { on := 10, ground := .data } (by simp) rfl
              have s177 : a.tmps.getD 177 undef = .int .i64 (h : Int) := hG { on := 11, ground := .data } (by simp) rfl
              have s178 : a.tmps.getD 178 undef = .int .i64 (nx : Int) := hG { on := 12, ground := .data } (by simp) rfl
              have s183 : a.tmps.getD 183 undef = agg .u8 d := hG { on := 17, ground := .data } (by simp) rfl
              have s173 : a.tmps.getD 173 undef = .bool false := hG { on := 7, ground := .guard } (by simp) rfl
              have g173 := hF.get (by simp) s173
              go_wp2_with fail
              refine (c8.out W).mono ?_
              rintro e W2 ⟨p, rfl, ho2, hb2⟩
              go_wp2_with fail
              exact hK _ _ (AtP_keep hS hb2) hb2 ⟨p, rfl, SlC.of_own ho2⟩
            | 19, _ =>
              cases ho
              obtain ⟨p175, s175, hp175⟩ : O0aP w4 h k n c b o seed d S PS Ap ap nx 9 (a.tmps.getD 175 undef) W := hG { on := 9, ground := .data } (by simp) rfl
              obtain ⟨p184, s184, hp184⟩ : O0aP w4 h k n c b o seed d S PS Ap ap nx 18 (a.tmps.getD 184 undef) W := hG { on := 18, ground := .data } (by simp) rfl
              have s173 : a.tmps.getD 173 undef = .bool false := hG { on := 7, ground := .guard } (by simp) rfl
              have g173 := hF.get (by simp) s173
              go_wp2_with fail
              refine (cq.out W _ _ hp175 hp184).mono ?_
              rintro e W2 ⟨rfl, hb2⟩
              go_wp2_with fail
              exact hK _ _ (AtP_keep hS hb2) hb2 (by show _ = _; simp)
            | 20, _ =>
              cases ho
              have s185 : a.tmps.getD 185 undef = .bool true := hG { on := 19, ground := .data } (by simp) rfl
              have s173 : a.tmps.getD 173 undef = .bool false := hG { on := 7, ground := .guard } (by simp) rfl
              have g173 := hF.get (by simp) s173
              go_wp2_with fail
              exact hK _ _ hS (Below.refl _ _) (by first | rfl | (show _ = _; simp))
            | 21, _ =>
              cases ho
              have s173 : a.tmps.getD 173 undef = .bool false := hG { on := 7, ground := .data } (by simp) rfl
              have s186 : a.tmps.getD 186 undef = .bool false := hG { on := 20, ground := .data } (by simp) rfl
              have s168 : a.tmps.getD 168 undef = .bool true := hG { on := 2, ground := .guard } (by simp) rfl
              have g168 := hF.get (by simp) s168
              go_wp2_with fail
              exact hK _ _ hS (Below.refl _ _) (by first | rfl | (show _ = _; simp))
            | 22, _ =>
              cases ho
              have s168 : a.tmps.getD 168 undef = .bool true := hG { on := 2, ground := .data } (by simp) rfl
              have s187 : a.tmps.getD 187 undef = .bool false := hG { on := 21, ground := .data } (by simp) rfl
              go_wp2_with fail
              exact hK _ _ hS (Below.refl _ _) (by first | rfl | (show _ = _; simp))
            | 23, _ =>
              cases ho
              have s188 : a.tmps.getD 188 undef = .bool false := hG { on := 22, ground := .data } (by simp) rfl
              go_wp2_with fail
              exact hK _ _ hS (Below.refl _ _) (by first | rfl | (show _ = _; simp))
            | 24, _ =>
              cases ho
              have s18 : a.tmps.getD 18 undef = Value.int IntKind.i64 0 := hF.slots 18 (by simp) (by decide)
              have s189 : a.tmps.getD 189 undef = .bool false := hG { on := 23, ground := .guard } (by simp) rfl
              have g189 := hF.get (by simp) s189
              go_wp2_with fail
              exact hK _ _ hS (Below.refl _ _) (by first | rfl | (show _ = _; simp))
            | 25, _ =>
              cases ho
              have s190 : a.tmps.getD 190 undef = .int .i64 0 := hG { on := 24, ground := .data } (by simp) rfl
              have s189 : a.tmps.getD 189 undef = .bool false := hG { on := 23, ground := .guard } (by simp) rfl
              have g189 := hF.get (by simp) s189
              go_wp2_with fail
              exact hK _ _ hS (Below.refl _ _) (by first | rfl | (show _ = _; simp))
            | 26, _ =>
              cases ho
              have s191 : a.tmps.getD 191 undef = .bool false := hG { on := 25, ground := .data } (by simp) rfl
              have s189 : a.tmps.getD 189 undef = .bool false := hG { on := 23, ground := .guard } (by simp) rfl
              have g189 := hF.get (by simp) s189
              go_wp2_with fail
              exact hK _ _ hS (Below.refl _ _) (by first | rfl | (show _ = _; simp))
            | 27, _ =>
              cases ho
              have s15 : a.tmps.getD 15 undef = Value.pointer (some { block := w4.heap.size, off := 0 }) := hF.slots 15 (by simp) (by decide)
              have s192 : a.tmps.getD 192 undef = .bool false := hG { on := 26, ground := .guard } (by simp) rfl
              have g192 := hF.get (by simp) s192
              go_wp2_with fail
              exact hK _ _ hS (Below.refl _ _) (by first | rfl | (show _ = _; simp))
            | 28, _ =>
              cases ho
              have s193 : a.tmps.getD 193 undef = undef := hG { on := 27, ground := .data } (by simp) rfl
              have s192 : a.tmps.getD 192 undef = .bool false := hG { on := 26, ground := .guard } (by simp) rfl
              have g192 := hF.get (by simp) s192
              go_wp2_with fail
              exact hK _ _ hS (Below.refl _ _) (by first | rfl | (show _ = _; simp))
            | 29, _ =>
              cases ho
              have s192 : a.tmps.getD 192 undef = .bool false := hG { on := 26, ground := .guard } (by simp) rfl
              have g192 := hF.get (by simp) s192
              go_wp2_with fail
              exact hK _ _ hS (Below.refl _ _) (by first | rfl | (show _ = _; simp))
            | 30, _ =>
              cases ho
              have s194 : a.tmps.getD 194 undef = undef := hG { on := 28, ground := .data } (by simp) rfl
              have s195 : a.tmps.getD 195 undef = undef := hG { on := 29, ground := .data } (by simp) rfl
              have s192 : a.tmps.getD 192 undef = .bool false := hG { on := 26, ground := .guard } (by simp) rfl
              have g192 := hF.get (by simp) s192
              go_wp2_with fail
              exact hK _ _ hS (Below.refl _ _) (by first | rfl | (show _ = _; simp))
            | 31, _ =>
              cases ho
              have s196 : a.tmps.getD 196 undef = undef := hG { on := 30, ground := .data } (by simp) rfl
              have s192 : a.tmps.getD 192 undef = .bool false := hG { on := 26, ground := .guard } (by simp) rfl
              have g192 := hF.get (by simp) s192
              go_wp2_with fail
              exact hK _ _ hS (Below.refl _ _) (by first | rfl | (show _ = _; simp))
            | 32, _ =>
              cases ho
              have s192 : a.tmps.getD 192 undef = .bool false := hG { on := 26, ground := .data } (by simp) rfl
              have s197 : a.tmps.getD 197 undef = undef := hG { on := 31, ground := .data } (by simp) rfl
              have s189 : a.tmps.getD 189 undef = .bool false := hG { on := 23, ground := .guard } (by simp) rfl
              have g189 := hF.get (by simp) s189
              go_wp2_with fail
              exact hK _ _ hS (Below.refl _ _) (by first | rfl | (show _ = _; simp))
            | i + 33, hi => exact absurd hi (by omega)
          · intro a W hS hF hG
            have t166 : a.tmps.getD 166 undef = .int .i64 0 := hG 0 (by omega)
            have t167 : a.tmps.getD 167 undef = .bool true := hG 1 (by omega)
            have t168 : a.tmps.getD 168 undef = .bool true := hG 2 (by omega)
            have t169 : a.tmps.getD 169 undef = .pointer (some ⟨w4.heap.size, 0, none⟩) := hG 3 (by omega)
            have t170 : a.tmps.getD 170 undef = .int .i64 (nx : Int) := hG 4 (by omega)
            have t171 : a.tmps.getD 171 undef = .int .i64 (nx : Int) := hG 5 (by omega)
            have t172 : a.tmps.getD 172 undef = .bool false := hG 6 (by omega)
            have t173 : a.tmps.getD 173 undef = .bool false := hG 7 (by omega)
            have t174 : a.tmps.getD 174 undef = .agg (sigV (nx : Int) S (.slice Ap PS.length ap)).toArray := hG 8 (by omega)
            obtain ⟨p175, t175, hp175⟩ : O0aP w4 h k n c b o seed d S PS Ap ap nx 9 (a.tmps.getD 175 undef) W := hG 9 (by omega)
            have t176 : a.tmps.getD 176 undef = agg .u8 seed := hG 10 (by omega)
            have t177 : a.tmps.getD 177 undef = .int .i64 (h : Int) := hG 11 (by omega)
            have t178 : a.tmps.getD 178 undef = .int .i64 (nx : Int) := hG 12 (by omega)
            have t179 : a.tmps.getD 179 undef = Value.slice (some { block := b, off := o }) n c := hG 13 (by omega)
            have t180 : a.tmps.getD 180 undef = .int .i64 (k : Int) := hG 14 (by omega)
            have t181 : a.tmps.getD 181 undef = .pointer (some ⟨b, o + k * 18, none⟩) := hG 15 (by omega)
            have t182 : a.tmps.getD 182 undef = .pointer (some ⟨b, o + k * 18 + 2, none⟩) := hG 16 (by omega)
            have t183 : a.tmps.getD 183 undef = agg .u8 d := hG 17 (by omega)
            obtain ⟨p184, t184, hp184⟩ : O0aP w4 h k n c b o seed d S PS Ap ap nx 18 (a.tmps.getD 184 undef) W := hG 18 (by omega)
            have t185 : a.tmps.getD 185 undef = .bool true := hG 19 (by omega)
            have t186 : a.tmps.getD 186 undef = .bool false := hG 20 (by omega)
            have t187 : a.tmps.getD 187 undef = .bool false := hG 21 (by omega)
            have t188 : a.tmps.getD 188 undef = .bool false := hG 22 (by omega)
            have t189 : a.tmps.getD 189 undef = .bool false := hG 23 (by omega)
            have t190 : a.tmps.getD 190 undef = .int .i64 0 := hG 24 (by omega)
            have t191 : a.tmps.getD 191 undef = .bool false := hG 25 (by omega)
            have t192 : a.tmps.getD 192 undef = .bool false := hG 26 (by omega)
            have t193 : a.tmps.getD 193 undef = undef := hG 27 (by omega)
            have t194 : a.tmps.getD 194 undef = undef := hG 28 (by omega)
            have t195 : a.tmps.getD 195 undef = undef := hG 29 (by omega)
            have t196 : a.tmps.getD 196 undef = undef := hG 30 (by omega)
            have t197 : a.tmps.getD 197 undef = undef := hG 31 (by omega)
            have t198 : a.tmps.getD 198 undef = .bool false := hG 32 (by omega)
            have fr := Ord.frame_all (vs := (.int .i64 0 :: .bool true :: .bool true :: .pointer (some ⟨w4.heap.size, 0, none⟩) :: .int .i64 (nx : Int) :: .int .i64 (nx : Int) :: .bool false :: .bool false :: .agg (sigV (nx : Int) S (.slice Ap PS.length ap)).toArray :: .agg (sigV (nx : Int) S p175).toArray :: agg .u8 seed :: .int .i64 (h : Int) :: .int .i64 (nx : Int) :: Value.slice (some { block := b, off := o }) n c :: .int .i64 (k : Int) :: .pointer (some ⟨b, o + k * 18, none⟩) :: .pointer (some ⟨b, o + k * 18 + 2, none⟩) :: agg .u8 d :: .agg (sigV (nx : Int) S p184).toArray :: .bool true :: .bool false :: .bool false :: .bool false :: .bool false :: .int .i64 0 :: .bool false :: .bool false :: undef :: undef :: undef :: undef :: undef :: .bool false :: [])) hF (by rfl) (fun j hj => match j, hj with
              | 0, _ => t166
              | 1, _ => t167
              | 2, _ => t168
              | 3, _ => t169
              | 4, _ => t170
              | 5, _ => t171
              | 6, _ => t172
              | 7, _ => t173
              | 8, _ => t174
              | 9, _ => t175
              | 10, _ => t176
              | 11, _ => t177
              | 12, _ => t178
              | 13, _ => t179
              | 14, _ => t180
              | 15, _ => t181
              | 16, _ => t182
              | 17, _ => t183
              | 18, _ => t184
              | 19, _ => t185
              | 20, _ => t186
              | 21, _ => t187
              | 22, _ => t188
              | 23, _ => t189
              | 24, _ => t190
              | 25, _ => t191
              | 26, _ => t192
              | 27, _ => t193
              | 28, _ => t194
              | 29, _ => t195
              | 30, _ => t196
              | 31, _ => t197
              | 32, _ => t198
              | j + 33, hj => absurd hj (by simp))
            have fe : Ord.setAll (agg IntKind.u8 seed :: Value.int IntKind.u8 ↑m :: Value.int IntKind.i64 (↑nx + 1) :: Value.slice (some { block := b, off := o }) n c :: Value.pointer (some { block := w.heap.size, off := 0 }) :: undef :: undef :: undef :: u8 :: Value.int IntKind.i64 ↑h :: Value.pointer (some { block := w1.heap.size, off := 0 }) :: Value.pointer (some { block := g, off := 0 }) :: Value.int IntKind.i64 0 :: Value.int IntKind.i64 ((2 : Int) ^ h) :: Value.int IntKind.i64 ↑k :: Value.pointer (some { block := w4.heap.size, off := 0 }) :: Value.int IntKind.i64 0 :: Value.int IntKind.i64 ↑nx :: Value.int IntKind.i64 0 :: Value.bool true :: Value.bool false :: Value.bool false :: Value.slice (some { block := b, off := o }) n c :: Value.int IntKind.i64 ↑n :: Value.bool false :: Value.bool false :: undef :: Value.int IntKind.u8 ↑m :: Value.int IntKind.i64 ↑h :: Value.agg (cl IntKind.u8 seed).toArray :: Value.int IntKind.i64 ↑h :: Value.agg (secV seed ↑h).toArray :: Value.tuple #[Value.pointer (some { block := g, off := 0 }), Value.int IntKind.i64 0] :: Value.agg (secV seed ↑h).toArray :: Value.int IntKind.i64 ↑next :: Value.tuple #[Value.pointer (some { block := g, off := 0 }), Value.int IntKind.i64 0] :: Value.pointer (some { block := g, off := 0 }) :: Value.int IntKind.i64 0 :: Value.int IntKind.i64 ↑h :: Value.int IntKind.i64 ((2 : Int) ^ h) :: Value.int IntKind.i64 ↑next :: Value.bool false :: Value.bool false :: Value.int IntKind.i64 ↑next :: Value.int IntKind.i64 ((2 : Int) ^ h) :: Value.bool false :: Value.bool false :: undef :: undef :: undef :: undef :: undef :: undef :: Value.int IntKind.i64 0 :: Value.bool false :: Value.bool false :: Value.pointer (some { block := g, off := 0 }) :: Value.agg (pubV (↑h) KR).toArray :: Value.int IntKind.i64 ↑h :: Value.int IntKind.i64 ↑h :: Value.bool false :: Value.bool false :: Value.bool false :: Value.pointer (some { block := g, off := 0 }) :: Value.agg (pubV (↑h) KR).toArray :: agg IntKind.u8 KR :: Value.agg (cl IntKind.u8 seed).toArray :: Value.int IntKind.i64 ↑h :: agg IntKind.u8 KR :: Value.bool false :: Value.bool false :: Value.int IntKind.i64 ↑k :: Value.slice (some { block := b, off := o }) n c :: Value.int IntKind.i64 ↑n :: Value.bool true :: u75 :: u76 :: Value.pointer (some { block := g, off := 0 }) :: Value.int IntKind.i64 ↑nx :: Value.int IntKind.i64 ↑nx :: Value.bool false :: Value.bool false :: Value.pointer (some { block := g, off := 0 }) :: Value.int IntKind.i64 ((2 : Int) ^ h - 1 - ↑nx) :: Value.int IntKind.i64 ((2 : Int) ^ h) :: Value.int IntKind.i64 ((2 : Int) ^ h - 1) :: Value.int IntKind.i64 ↑nx :: Value.int IntKind.i64 ((2 : Int) ^ h - 1 - ↑nx) :: Value.int IntKind.i64 (max 0 ((2 : Int) ^ h - 1 - ↑nx)) :: Value.bool false :: Value.bool false :: Value.int IntKind.i64 ↑nx :: Value.slice (some { block := b, off := o }) n c :: Value.int IntKind.i64 ↑k :: Value.pointer (some { block := b, off := o + k * 18 }) :: Value.pointer (some { block := b, off := o + k * 18 }) :: Value.int IntKind.u8 ↑kd :: Value.int IntKind.u8 0 :: u98 :: u99 :: u100 :: u101 :: u102 :: u103 :: u104 :: u105 :: u106 :: u107 :: u108 :: u109 :: u110 :: u111 :: u112 :: u113 :: u114 :: u115 :: u116 :: u117 :: u118 :: u119 :: u120 :: u121 :: u122 :: u123 :: u124 :: u125 :: u126 :: Value.bool true :: Value.bool true :: Value.tuple #[Value.agg (sigV (↑nx) S (Value.slice Ap PS.length ap)).toArray, Value.int IntKind.i64 0] :: Value.pointer (some { block := g, off := 0 }) :: Value.slice (some { block := b, off := o }) n c :: Value.int IntKind.i64 ↑k :: Value.pointer (some { block := b, off := o + k * 18 }) :: Value.pointer (some { block := b, off := o + k * 18 + 2 }) :: agg IntKind.u8 d :: Value.tuple #[Value.agg (sigV (↑nx) S (Value.slice Ap PS.length ap)).toArray, Value.int IntKind.i64 0] :: Value.agg (sigV (↑nx) S (Value.slice Ap PS.length ap)).toArray :: Value.int IntKind.i64 0 :: Value.int IntKind.i64 ↑nx :: Value.int IntKind.i64 ((2 : Int) ^ h) :: Value.int IntKind.i64 ((2 : Int) ^ h - 1) :: Value.bool (decide ((2 : Int) ^ h - 1 ≤ ↑nx)) :: Value.int IntKind.i64 ↑nx :: Value.int IntKind.i64 (↑nx + 1) :: u145 :: u146 :: u147 :: u148 :: u149 :: u150 :: u151 :: u152 :: u153 :: u154 :: u155 :: u156 :: u157 :: u158 :: u159 :: u160 :: u161 :: u162 :: Value.int IntKind.i64 0 :: Value.int IntKind.i64 0 :: Value.bool false :: u166 :: u167 :: u168 :: u169 :: u170 :: u171 :: u172 :: u173 :: u174 :: u175 :: u176 :: u177 :: u178 :: u179 :: u180 :: u181 :: u182 :: u183 :: u184 :: u185 :: u186 :: u187 :: u188 :: u189 :: u190 :: u191 :: u192 :: u193 :: u194 :: u195 :: u196 :: u197 :: u198 :: u199 :: undef :: undef :: undef :: undef :: []) (166 :: 167 :: 168 :: 169 :: 170 :: 171 :: 172 :: 173 :: 174 :: 175 :: 176 :: 177 :: 178 :: 179 :: 180 :: 181 :: 182 :: 183 :: 184 :: 185 :: 186 :: 187 :: 188 :: 189 :: 190 :: 191 :: 192 :: 193 :: 194 :: 195 :: 196 :: 197 :: 198 :: []) (.int .i64 0 :: .bool true :: .bool true :: .pointer (some ⟨w4.heap.size, 0, none⟩) :: .int .i64 (nx : Int) :: .int .i64 (nx : Int) :: .bool false :: .bool false :: .agg (sigV (nx : Int) S (.slice Ap PS.length ap)).toArray :: .agg (sigV (nx : Int) S p175).toArray :: agg .u8 seed :: .int .i64 (h : Int) :: .int .i64 (nx : Int) :: Value.slice (some { block := b, off := o }) n c :: .int .i64 (k : Int) :: .pointer (some ⟨b, o + k * 18, none⟩) :: .pointer (some ⟨b, o + k * 18 + 2, none⟩) :: agg .u8 d :: .agg (sigV (nx : Int) S p184).toArray :: .bool true :: .bool false :: .bool false :: .bool false :: .bool false :: .int .i64 0 :: .bool false :: .bool false :: undef :: undef :: undef :: undef :: undef :: .bool false :: []) = (agg IntKind.u8 seed :: Value.int IntKind.u8 ↑m :: Value.int IntKind.i64 (↑nx + 1) :: Value.slice (some { block := b, off := o }) n c :: Value.pointer (some { block := w.heap.size, off := 0 }) :: undef :: undef :: undef :: u8 :: Value.int IntKind.i64 ↑h :: Value.pointer (some { block := w1.heap.size, off := 0 }) :: Value.pointer (some { block := g, off := 0 }) :: Value.int IntKind.i64 0 :: Value.int IntKind.i64 ((2 : Int) ^ h) :: Value.int IntKind.i64 ↑k :: Value.pointer (some { block := w4.heap.size, off := 0 }) :: Value.int IntKind.i64 0 :: Value.int IntKind.i64 ↑nx :: Value.int IntKind.i64 0 :: Value.bool true :: Value.bool false :: Value.bool false :: Value.slice (some { block := b, off := o }) n c :: Value.int IntKind.i64 ↑n :: Value.bool false :: Value.bool false :: undef :: Value.int IntKind.u8 ↑m :: Value.int IntKind.i64 ↑h :: Value.agg (cl IntKind.u8 seed).toArray :: Value.int IntKind.i64 ↑h :: Value.agg (secV seed ↑h).toArray :: Value.tuple #[Value.pointer (some { block := g, off := 0 }), Value.int IntKind.i64 0] :: Value.agg (secV seed ↑h).toArray :: Value.int IntKind.i64 ↑next :: Value.tuple #[Value.pointer (some { block := g, off := 0 }), Value.int IntKind.i64 0] :: Value.pointer (some { block := g, off := 0 }) :: Value.int IntKind.i64 0 :: Value.int IntKind.i64 ↑h :: Value.int IntKind.i64 ((2 : Int) ^ h) :: Value.int IntKind.i64 ↑next :: Value.bool false :: Value.bool false :: Value.int IntKind.i64 ↑next :: Value.int IntKind.i64 ((2 : Int) ^ h) :: Value.bool false :: Value.bool false :: undef :: undef :: undef :: undef :: undef :: undef :: Value.int IntKind.i64 0 :: Value.bool false :: Value.bool false :: Value.pointer (some { block := g, off := 0 }) :: Value.agg (pubV (↑h) KR).toArray :: Value.int IntKind.i64 ↑h :: Value.int IntKind.i64 ↑h :: Value.bool false :: Value.bool false :: Value.bool false :: Value.pointer (some { block := g, off := 0 }) :: Value.agg (pubV (↑h) KR).toArray :: agg IntKind.u8 KR :: Value.agg (cl IntKind.u8 seed).toArray :: Value.int IntKind.i64 ↑h :: agg IntKind.u8 KR :: Value.bool false :: Value.bool false :: Value.int IntKind.i64 ↑k :: Value.slice (some { block := b, off := o }) n c :: Value.int IntKind.i64 ↑n :: Value.bool true :: u75 :: u76 :: Value.pointer (some { block := g, off := 0 }) :: Value.int IntKind.i64 ↑nx :: Value.int IntKind.i64 ↑nx :: Value.bool false :: Value.bool false :: Value.pointer (some { block := g, off := 0 }) :: Value.int IntKind.i64 ((2 : Int) ^ h - 1 - ↑nx) :: Value.int IntKind.i64 ((2 : Int) ^ h) :: Value.int IntKind.i64 ((2 : Int) ^ h - 1) :: Value.int IntKind.i64 ↑nx :: Value.int IntKind.i64 ((2 : Int) ^ h - 1 - ↑nx) :: Value.int IntKind.i64 (max 0 ((2 : Int) ^ h - 1 - ↑nx)) :: Value.bool false :: Value.bool false :: Value.int IntKind.i64 ↑nx :: Value.slice (some { block := b, off := o }) n c :: Value.int IntKind.i64 ↑k :: Value.pointer (some { block := b, off := o + k * 18 }) :: Value.pointer (some { block := b, off := o + k * 18 }) :: Value.int IntKind.u8 ↑kd :: Value.int IntKind.u8 0 :: u98 :: u99 :: u100 :: u101 :: u102 :: u103 :: u104 :: u105 :: u106 :: u107 :: u108 :: u109 :: u110 :: u111 :: u112 :: u113 :: u114 :: u115 :: u116 :: u117 :: u118 :: u119 :: u120 :: u121 :: u122 :: u123 :: u124 :: u125 :: u126 :: Value.bool true :: Value.bool true :: Value.tuple #[Value.agg (sigV (↑nx) S (Value.slice Ap PS.length ap)).toArray, Value.int IntKind.i64 0] :: Value.pointer (some { block := g, off := 0 }) :: Value.slice (some { block := b, off := o }) n c :: Value.int IntKind.i64 ↑k :: Value.pointer (some { block := b, off := o + k * 18 }) :: Value.pointer (some { block := b, off := o + k * 18 + 2 }) :: agg IntKind.u8 d :: Value.tuple #[Value.agg (sigV (↑nx) S (Value.slice Ap PS.length ap)).toArray, Value.int IntKind.i64 0] :: Value.agg (sigV (↑nx) S (Value.slice Ap PS.length ap)).toArray :: Value.int IntKind.i64 0 :: Value.int IntKind.i64 ↑nx :: Value.int IntKind.i64 ((2 : Int) ^ h) :: Value.int IntKind.i64 ((2 : Int) ^ h - 1) :: Value.bool (decide ((2 : Int) ^ h - 1 ≤ ↑nx)) :: Value.int IntKind.i64 ↑nx :: Value.int IntKind.i64 (↑nx + 1) :: u145 :: u146 :: u147 :: u148 :: u149 :: u150 :: u151 :: u152 :: u153 :: u154 :: u155 :: u156 :: u157 :: u158 :: u159 :: u160 :: u161 :: u162 :: Value.int IntKind.i64 0 :: Value.int IntKind.i64 0 :: Value.bool false :: .int .i64 0 :: .bool true :: .bool true :: .pointer (some ⟨w4.heap.size, 0, none⟩) :: .int .i64 (nx : Int) :: .int .i64 (nx : Int) :: .bool false :: .bool false :: .agg (sigV (nx : Int) S (.slice Ap PS.length ap)).toArray :: .agg (sigV (nx : Int) S p175).toArray :: agg .u8 seed :: .int .i64 (h : Int) :: .int .i64 (nx : Int) :: Value.slice (some { block := b, off := o }) n c :: .int .i64 (k : Int) :: .pointer (some ⟨b, o + k * 18, none⟩) :: .pointer (some ⟨b, o + k * 18 + 2, none⟩) :: agg .u8 d :: .agg (sigV (nx : Int) S p184).toArray :: .bool true :: .bool false :: .bool false :: .bool false :: .bool false :: .int .i64 0 :: .bool false :: .bool false :: undef :: undef :: undef :: undef :: undef :: .bool false :: u199 :: undef :: undef :: undef :: undef :: []) := by kernel_rfl
            rw [fe] at fr
            clear fe
            subst fr
            clear hF hG t166 t167 t168 t169 t170 t171 t172 t173 t174 t175 t176 t177 t178 t179 t180 t181 t182 t183 t184 t185 t186 t187 t188 t189 t190 t191 t192 t193 t194 t195 t196 t197 t198
            simp only [List.drop_succ_cons, List.drop_zero]
            have HS7 := Lib.hid hS
            clear hS hp175 hp184
            go_wp2_with fail
            go_roundw
            case rel => exact ⟨nx + 1, k + 1, by push_cast; omega, by omega, by go_num, by go_num, by rw [show ((nx + 1 : Nat) : Int) = (nx : Int) + 1 by push_cast; rfl]; exact HS7.out.1⟩
            case measure => simp [intOf]; omega
      · have e0 : (kd : Int) % 3 = 1 := by omega
        clear h0
        by_cases hu : (2 : Int) ^ h - 1 ≤ (nx : Int)
        · by_cases he : (nx : Int) = 2 ^ h
          · have zn : N16 ([] : List (List Nat)) := fun x hx => by cases hx
            have zb : Hid (∀ W y, SlN W y ([] : List (List Nat)) → Calls Tryz.prog 11 #[.agg (sigV 0 (zs 560) y).toArray] W fun e w' => ∃ p, e = .returned (.agg (sigV 0 (zs 560) p).toArray) ∧ OwnN 23 w' W.heap.size p [] ∧ Below W.heap.size W w') := Lib.hid fun W y hy => back W 0 (zs 560) y [] (zs_length 560) hy (by simp)
            have zq : Hid (∀ W v1 v2, SlN W v1 ([] : List (List Nat)) → SlN W v2 ([] : List (List Nat)) → Calls Tryz.prog 10 #[.agg (sigV 0 (zs 560) v1).toArray, .agg (sigV 0 (zs 560) v2).toArray] W fun e w' => e = .returned (.bool (decide ((0 : Int) = 0 ∧ (zs 560) = (zs 560) ∧ ([] : List (List Nat)) = []))) ∧ Below W.heap.size W w') := Lib.hid fun W v1 v2 h1 h2 => same W 0 0 _ _ v1 v2 [] [] (zs_length 560) (zs_length 560) h1 h2 zn zn (by simp)
            clear zn
            have e1 : ((nx : Int) == 2 ^ h) = true := by simp; omega
            go_wp2_with fail
            refine (next_at _ g HSS.out lK A1.out.2.1).mono ?_
            rintro e w3 ⟨rfl, hb3⟩
            have A3 := Lib.hid (AtO_keep A1.out hb3)
            clear hb3
            go_wp2_with fail
            refine (left_zero _ g HSS.out lK (by omega) (by omega) (by omega) (by omega) A3.out.2.1).mono ?_
            rintro e w4 ⟨rfl, hb4⟩
            have A4 := Lib.hid (AtO_keep (AtO_keep A3.out hb4) ((Below.refl _ _).alloc (Nat.le_refl _) (.cells (sigV 0 (zs 560) (.slice none 0 0)).toArray 31)))
            have B4 := Lib.hid (blk_new w4 (sigV 0 (zs 560) (.slice none 0 0)) 31)
            have q1 := (HQ.out _ A4.out.2.2).1
            have q2 := (HQ.out _ A4.out.2.2).2.1
            have q3 := (HQ.out _ A4.out.2.2).2.2
            have h4 : g < w4.heap.size := by have := blk_lt A3.out.2.1; have := hb4.size; omega
            have g4 : w.heap.size < w4.heap.size := by omega
            clear hb4
            go_wp2_with fail
            refine (last_used _ g h seed KR d (h : Int) (nx : Int) HSS.out lK ld (by omega) (by omega) A4.out.2.1).mono ?_
            rintro e w5 ⟨rfl, hb5⟩
            have q5 := bk_of (blk_keep B4.out hb5)
            have A6 := Lib.hid (show AtO w g h seed KR (nx : Int) (w5.setRow w4.heap.size (sigV 0 (zs 560) (.slice none 0 0)).toArray) ∧ blk (w5.setRow w4.heap.size (sigV 0 (zs 560) (.slice none 0 0)).toArray) w4.heap.size (sigV 0 (zs 560) (.slice none 0 0)) 31 from ⟨⟨blk_setRow_ne (AtO_keep A4.out hb5).1 _ (by omega), blk_setRow_ne (AtO_keep A4.out hb5).2.1 _ (by omega), bel_setRow (AtO_keep A4.out hb5).2.2 (by omega) _⟩, blk_setRow (blk_keep B4.out hb5) _⟩)
            have lz := zs_length 560
            clear hb5
            go_wp2_with fail
            refine Ord.wp_region_tab2 33 (166 :: 167 :: 168 :: 169 :: 170 :: 171 :: 172 :: 173 :: 174 :: 175 :: 176 :: 177 :: 178 :: 179 :: 180 :: 181 :: 182 :: 183 :: 184 :: 185 :: 186 :: 187 :: 188 :: 189 :: 190 :: 191 :: 192 :: 193 :: 194 :: 195 :: 196 :: 197 :: 198 :: []) (agg IntKind.u8 seed :: Value.int IntKind.u8 ↑m :: Value.int IntKind.i64 ((2 : Int) ^ h) :: Value.slice (some { block := b, off := o }) n c :: Value.pointer (some { block := w.heap.size, off := 0 }) :: undef :: undef :: undef :: u8 :: Value.int IntKind.i64 ↑h :: Value.pointer (some { block := w1.heap.size, off := 0 }) :: Value.pointer (some { block := g, off := 0 }) :: Value.int IntKind.i64 0 :: Value.int IntKind.i64 ((2 : Int) ^ h) :: Value.int IntKind.i64 ↑k :: Value.pointer (some { block := w4.heap.size, off := 0 }) :: Value.int IntKind.i64 19 :: Value.int IntKind.i64 ((2 : Int) ^ h - 1) :: Value.int IntKind.i64 19 :: Value.bool true :: Value.bool false :: Value.bool false :: Value.slice (some { block := b, off := o }) n c :: Value.int IntKind.i64 ↑n :: Value.bool false :: Value.bool false :: undef :: Value.int IntKind.u8 ↑m :: Value.int IntKind.i64 ↑h :: Value.agg (cl IntKind.u8 seed).toArray :: Value.int IntKind.i64 ↑h :: Value.agg (secV seed ↑h).toArray :: Value.tuple #[Value.pointer (some { block := g, off := 0 }), Value.int IntKind.i64 0] :: Value.agg (secV seed ↑h).toArray :: Value.int IntKind.i64 ↑next :: Value.tuple #[Value.pointer (some { block := g, off := 0 }), Value.int IntKind.i64 0] :: Value.pointer (some { block := g, off := 0 }) :: Value.int IntKind.i64 0 :: Value.int IntKind.i64 ↑h :: Value.int IntKind.i64 ((2 : Int) ^ h) :: Value.int IntKind.i64 ↑next :: Value.bool false :: Value.bool false :: Value.int IntKind.i64 ↑next :: Value.int IntKind.i64 ((2 : Int) ^ h) :: Value.bool false :: Value.bool false :: undef :: undef :: undef :: undef :: undef :: undef :: Value.int IntKind.i64 0 :: Value.bool false :: Value.bool false :: Value.pointer (some { block := g, off := 0 }) :: Value.agg (pubV (↑h) KR).toArray :: Value.int IntKind.i64 ↑h :: Value.int IntKind.i64 ↑h :: Value.bool false :: Value.bool false :: Value.bool false :: Value.pointer (some { block := g, off := 0 }) :: Value.agg (pubV (↑h) KR).toArray :: agg IntKind.u8 KR :: Value.agg (cl IntKind.u8 seed).toArray :: Value.int IntKind.i64 ↑h :: agg IntKind.u8 KR :: Value.bool false :: Value.bool false :: Value.int IntKind.i64 ↑k :: Value.slice (some { block := b, off := o }) n c :: Value.int IntKind.i64 ↑n :: Value.bool true :: u75 :: u76 :: Value.pointer (some { block := g, off := 0 }) :: Value.int IntKind.i64 ((2 : Int) ^ h) :: Value.int IntKind.i64 ((2 : Int) ^ h) :: Value.bool false :: Value.bool false :: Value.pointer (some { block := g, off := 0 }) :: Value.int IntKind.i64 0 :: Value.int IntKind.i64 ((2 : Int) ^ h) :: Value.int IntKind.i64 ((2 : Int) ^ h - 1) :: Value.int IntKind.i64 ((2 : Int) ^ h) :: Value.int IntKind.i64 ((2 : Int) ^ h - 1 - (2 : Int) ^ h) :: Value.int IntKind.i64 (max 0 ((2 : Int) ^ h - 1 - (2 : Int) ^ h)) :: Value.bool false :: Value.bool false :: Value.int IntKind.i64 ((2 : Int) ^ h) :: Value.slice (some { block := b, off := o }) n c :: Value.int IntKind.i64 ↑k :: Value.pointer (some { block := b, off := o + k * 18 }) :: Value.pointer (some { block := b, off := o + k * 18 }) :: Value.int IntKind.u8 ↑kd :: Value.int IntKind.u8 1 :: u98 :: u99 :: u100 :: u101 :: u102 :: u103 :: u104 :: u105 :: u106 :: u107 :: u108 :: u109 :: u110 :: u111 :: u112 :: u113 :: u114 :: u115 :: u116 :: u117 :: u118 :: u119 :: u120 :: u121 :: u122 :: u123 :: u124 :: u125 :: u126 :: Value.bool false :: Value.bool false :: u129 :: u130 :: u131 :: u132 :: u133 :: u134 :: u135 :: u136 :: u137 :: u138 :: u139 :: u140 :: u141 :: u142 :: u143 :: u144 :: Value.bool true :: Value.bool true :: Value.int IntKind.i64 ((2 : Int) ^ h) :: Value.int IntKind.i64 ((2 : Int) ^ h - 1) :: Value.tuple #[Value.agg (sigV 0 (zs 560) (Value.slice none 0 0)).toArray, Value.int IntKind.i64 19] :: Value.pointer (some { block := g, off := 0 }) :: Value.slice (some { block := b, off := o }) n c :: Value.int IntKind.i64 ↑k :: Value.pointer (some { block := b, off := o + k * 18 }) :: Value.pointer (some { block := b, off := o + k * 18 + 2 }) :: agg IntKind.u8 d :: Value.tuple #[Value.agg (sigV 0 (zs 560) (Value.slice none 0 0)).toArray, Value.int IntKind.i64 19] :: Value.agg (sigV 0 (zs 560) (Value.slice none 0 0)).toArray :: Value.int IntKind.i64 19 :: Value.int IntKind.i64 ((2 : Int) ^ h) :: Value.int IntKind.i64 ((2 : Int) ^ h) :: Value.bool true :: u162 :: Value.int IntKind.i64 19 :: Value.int IntKind.i64 19 :: Value.bool false :: u166 :: u167 :: u168 :: u169 :: u170 :: u171 :: u172 :: u173 :: u174 :: u175 :: u176 :: u177 :: u178 :: u179 :: u180 :: u181 :: u182 :: u183 :: u184 :: u185 :: u186 :: u187 :: u188 :: u189 :: u190 :: u191 :: u192 :: u193 :: u194 :: u195 :: u196 :: u197 :: u198 :: u199 :: undef :: undef :: undef :: undef :: []) (fun W => AtU w g h seed KR (nx : Int) w4.heap.size W) (O1bP w4) (by kernel_rfl) (by kernel_rfl) (by rfl) (AtU_keep A6.out (Below.refl _ _).drew) (fun i v W W' _ hb hQ => O1bP_mono w4 i v W W' hb hQ) ?_ ?_
            · intro i o hi ho a W K hS hF hG hK
              have k2 := bk_of hS.2
              match i, hi with
              | 0, _ =>
                cases ho
                have s18 : a.tmps.getD 18 undef = Value.int IntKind.i64 19 := hF.slots 18 (by simp) (by decide)
                go_wp2_with fail
                exact hK _ _ hS (Below.refl _ _) (by first | rfl | (show _ = _; simp))
              | 1, _ =>
                cases ho
                have s166 : a.tmps.getD 166 undef = .int .i64 19 := hG { on := 0, ground := .data } (by simp) rfl
                go_wp2_with fail
                exact hK _ _ hS (Below.refl _ _) (by first | rfl | (show _ = _; simp))
              | 2, _ =>
                cases ho
                have s167 : a.tmps.getD 167 undef = .bool false := hG { on := 1, ground := .data } (by simp) rfl
                go_wp2_with fail
                exact hK _ _ hS (Below.refl _ _) (by first | rfl | (show _ = _; simp))
              | 3, _ =>
                cases ho
                have s15 : a.tmps.getD 15 undef = Value.pointer (some { block := w4.heap.size, off := 0 }) := hF.slots 15 (by simp) (by decide)
                have s168 : a.tmps.getD 168 undef = .bool false := hG { on := 2, ground := .guard } (by simp) rfl
                have g168 := hF.get (by simp) s168
                go_wp2_with fail
                exact hK _ _ hS (Below.refl _ _) (by first | rfl | (show _ = _; simp))
              | 4, _ =>
                cases ho
                have s169 : a.tmps.getD 169 undef = undef := hG { on := 3, ground := .data } (by simp) rfl
                have s168 : a.tmps.getD 168 undef = .bool false := hG { on := 2, ground := .guard } (by simp) rfl
                have g168 := hF.get (by simp) s168
                go_wp2_with fail
                exact hK _ _ hS (Below.refl _ _) (by first | rfl | (show _ = _; simp))
              | 5, _ =>
                cases ho
                have s17 : a.tmps.getD 17 undef = Value.int IntKind.i64 ((2 : Int) ^ h - 1) := hF.slots 17 (by simp) (by decide)
                have s168 : a.tmps.getD 168 undef = .bool false := hG { on := 2, ground := .guard } (by simp) rfl
                have g168 := hF.get (by simp) s168
                go_wp2_with fail
                exact hK _ _ hS (Below.refl _ _) (by first | rfl | (show _ = _; simp))
              | 6, _ =>
                cases ho
                have s170 : a.tmps.getD 170 undef = undef := hG { on := 4, ground := .data } (by simp) rfl
                have s171 : a.tmps.getD 171 undef = undef := hG { on := 5, ground := .data } (by simp) rfl
                have s168 : a.tmps.getD 168 undef = .bool false := hG { on := 2, ground := .guard } (by simp) rfl
                have g168 := hF.get (by simp) s168
                go_wp2_with fail
                exact hK _ _ hS (Below.refl _ _) (by first | rfl | (show _ = _; simp))
              | 7, _ =>
                cases ho
                have s172 : a.tmps.getD 172 undef = undef := hG { on := 6, ground := .data } (by simp) rfl
                have s168 : a.tmps.getD 168 undef = .bool false := hG { on := 2, ground := .guard } (by simp) rfl
                have g168 := hF.get (by simp) s168
                go_wp2_with fail
                exact hK _ _ hS (Below.refl _ _) (by first | rfl | (show _ = _; simp))
              | 8, _ =>
                cases ho
                have s15 : a.tmps.getD 15 undef = Value.pointer (some { block := w4.heap.size, off := 0 }) := hF.slots 15 (by simp) (by decide)
                have s173 : a.tmps.getD 173 undef = undef := hG { on := 7, ground := .guard } (by simp) rfl
                have g173 : a.tmps[173]? = some (.tuple #[]) := hF.get (by simp) s173
                go_wp2_with fail
                exact hK _ _ hS (Below.refl _ _) (by first | rfl | (show _ = _; simp))
              | 9, _ =>
                cases ho
                have s174 : a.tmps.getD 174 undef = undef := hG { on := 8, ground := .data } (by simp) rfl
                have s173 : a.tmps.getD 173 undef = undef := hG { on := 7, ground := .guard } (by simp) rfl
                have g173 : a.tmps[173]? = some (.tuple #[]) := hF.get (by simp) s173
                go_wp2_with fail
                exact hK _ _ hS (Below.refl _ _) (by first | rfl | (show _ = _; simp))
              | 10, _ =>
                cases ho
                have s4 : a.tmps.getD 4 undef = Value.pointer (some { block := w.heap.size, off := 0 }) := hF.slots 4 (by simp) (by decide)
                have s173 : a.tmps.getD 173 undef = undef := hG { on := 7, ground := .guard } (by simp) rfl
                have g173 : a.tmps[173]? = some (.tuple #[]) := hF.get (by simp) s173
                go_wp2_with fail
                exact hK _ _ hS (Below.refl _ _) (by first | rfl | (show _ = _; simp))
              | 11, _ =>
                cases ho
                have s9 : a.tmps.getD 9 undef = Value.int IntKind.i64 ↑h := hF.slots 9 (by simp) (by decide)
                have s173 : a.tmps.getD 173 undef = undef := hG { on := 7, ground := .guard } (by simp) rfl
                have g173 : a.tmps[173]? = some (.tuple #[]) := hF.get (by simp) s173
                go_wp2_with fail
                exact hK _ _ hS (Below.refl _ _) (by first | rfl | (show _ = _; simp))
              | 12, _ =>
                cases ho
                have s17 : a.tmps.getD 17 undef = Value.int IntKind.i64 ((2 : Int) ^ h - 1) := hF.slots 17 (by simp) (by decide)
                have s173 : a.tmps.getD 173 undef = undef := hG { on := 7, ground := .guard } (by simp) rfl
                have g173 : a.tmps[173]? = some (.tuple #[]) := hF.get (by simp) s173
                go_wp2_with fail
                exact hK _ _ hS (Below.refl _ _) (by first | rfl | (show _ = _; simp))
              | 13, _ =>
                cases ho
                have s3 : a.tmps.getD 3 undef = Value.slice (some { block := b, off := o }) n c := hF.slots 3 (by simp) (by decide)
                have s173 : a.tmps.getD 173 undef = undef := hG { on := 7, ground := .guard } (by simp) rfl
                have g173 : a.tmps[173]? = some (.tuple #[]) := hF.get (by simp) s173
                go_wp2_with fail
                exact hK _ _ hS (Below.refl _ _) (by first | rfl | (show _ = _; simp))
              | 14, _ =>
                cases ho
                have s14 : a.tmps.getD 14 undef = Value.int IntKind.i64 ↑k := hF.slots 14 (by simp) (by decide)
                have s173 : a.tmps.getD 173 undef = undef := hG { on := 7, ground := .guard } (by simp) rfl
                have g173 : a.tmps[173]? = some (.tuple #[]) := hF.get (by simp) s173
                go_wp2_with fail
                exact hK _ _ hS (Below.refl _ _) (by first | rfl | (show _ = _; simp))
              | 15, _ =>
                cases ho
                have s179 : a.tmps.getD 179 undef = undef := hG { on := 13, ground := .data } (by simp) rfl
                have s180 : a.tmps.getD 180 undef = undef := hG { on := 14, ground := .data } (by simp) rfl
                have s173 : a.tmps.getD 173 undef = undef := hG { on := 7, ground := .guard } (by simp) rfl
                have g173 : a.tmps[173]? = some (.tuple #[]) := hF.get (by simp) s173
                go_wp2_with fail
                exact hK _ _ hS (Below.refl _ _) (by first | rfl | (show _ = _; simp))
              | 16, _ =>
                cases ho
                have s181 : a.tmps.getD 181 undef = undef := hG { on := 15, ground := .data } (by simp) rfl
                have s173 : a.tmps.getD 173 undef = undef := hG { on := 7, ground := .guard } (by simp) rfl
                have g173 : a.tmps[173]? = some (.tuple #[]) := hF.get (by simp) s173
                go_wp2_with fail
                exact hK _ _ hS (Below.refl _ _) (by first | rfl | (show _ = _; simp))
              | 17, _ =>
                cases ho
                have s182 : a.tmps.getD 182 undef = undef := hG { on := 16, ground := .data } (by simp) rfl
                have s173 : a.tmps.getD 173 undef = undef := hG { on := 7, ground := .guard } (by simp) rfl
                have g173 : a.tmps[173]? = some (.tuple #[]) := hF.get (by simp) s173
                go_wp2_with fail
                exact hK _ _ hS (Below.refl _ _) (by first | rfl | (show _ = _; simp))
              | 18, _ =>
                cases ho
                have s176 : a.tmps.getD 176 undef = undef := hG { on := 10, ground := .data } (by simp) rfl
                have s177 : a.tmps.getD 177 undef = undef := hG { on := 11, ground := .data } (by simp) rfl
                have s178 : a.tmps.getD 178 undef = undef := hG { on := 12, ground := .data } (by simp) rfl
                have s183 : a.tmps.getD 183 undef = undef := hG { on := 17, ground := .data } (by simp) rfl
                have s173 : a.tmps.getD 173 undef = undef := hG { on := 7, ground := .guard } (by simp) rfl
                have g173 : a.tmps[173]? = some (.tuple #[]) := hF.get (by simp) s173
                go_wp2_with fail
                exact hK _ _ hS (Below.refl _ _) (by first | rfl | (show _ = _; simp))
              | 19, _ =>
                cases ho
                have s175 : a.tmps.getD 175 undef = undef := hG { on := 9, ground := .data } (by simp) rfl
                have s184 : a.tmps.getD 184 undef = undef := hG { on := 18, ground := .data } (by simp) rfl
                have s173 : a.tmps.getD 173 undef = undef := hG { on := 7, ground := .guard } (by simp) rfl
                have g173 : a.tmps[173]? = some (.tuple #[]) := hF.get (by simp) s173
                go_wp2_with fail
                exact hK _ _ hS (Below.refl _ _) (by first | rfl | (show _ = _; simp))
              | 20, _ =>
                cases ho
                have s185 : a.tmps.getD 185 undef = undef := hG { on := 19, ground := .data } (by simp) rfl
                have s173 : a.tmps.getD 173 undef = undef := hG { on := 7, ground := .guard } (by simp) rfl
                have g173 : a.tmps[173]? = some (.tuple #[]) := hF.get (by simp) s173
                go_wp2_with fail
                exact hK _ _ hS (Below.refl _ _) (by first | rfl | (show _ = _; simp))
              | 21, _ =>
                cases ho
                have s173 : a.tmps.getD 173 undef = undef := hG { on := 7, ground := .data } (by simp) rfl
                have s186 : a.tmps.getD 186 undef = undef := hG { on := 20, ground := .data } (by simp) rfl
                have s168 : a.tmps.getD 168 undef = .bool false := hG { on := 2, ground := .guard } (by simp) rfl
                have g168 := hF.get (by simp) s168
                go_wp2_with fail
                exact hK _ _ hS (Below.refl _ _) (by first | rfl | (show _ = _; simp))
              | 22, _ =>
                cases ho
                have s168 : a.tmps.getD 168 undef = .bool false := hG { on := 2, ground := .data } (by simp) rfl
                have s187 : a.tmps.getD 187 undef = undef := hG { on := 21, ground := .data } (by simp) rfl
                go_wp2_with fail
                exact hK _ _ hS (Below.refl _ _) (by first | rfl | (show _ = _; simp))
              | 23, _ =>
                cases ho
                have s188 : a.tmps.getD 188 undef = .bool false := hG { on := 22, ground := .data } (by simp) rfl
                go_wp2_with fail
                exact hK _ _ hS (Below.refl _ _) (by first | rfl | (show _ = _; simp))
              | 24, _ =>
                cases ho
                have s18 : a.tmps.getD 18 undef = Value.int IntKind.i64 19 := hF.slots 18 (by simp) (by decide)
                have s189 : a.tmps.getD 189 undef = .bool false := hG { on := 23, ground := .guard } (by simp) rfl
                have g189 := hF.get (by simp) s189
                go_wp2_with fail
                exact hK _ _ hS (Below.refl _ _) (by first | rfl | (show _ = _; simp))
              | 25, _ =>
                cases ho
                have s190 : a.tmps.getD 190 undef = .int .i64 19 := hG { on := 24, ground := .data } (by simp) rfl
                have s189 : a.tmps.getD 189 undef = .bool false := hG { on := 23, ground := .guard } (by simp) rfl
                have g189 := hF.get (by simp) s189
                go_wp2_with fail
                exact hK _ _ hS (Below.refl _ _) (by first | rfl | (show _ = _; simp))
              | 26, _ =>
                cases ho
                have s191 : a.tmps.getD 191 undef = .bool true := hG { on := 25, ground := .data } (by simp) rfl
                have s189 : a.tmps.getD 189 undef = .bool false := hG { on := 23, ground := .guard } (by simp) rfl
                have g189 := hF.get (by simp) s189
                go_wp2_with fail
                exact hK _ _ hS (Below.refl _ _) (by first | rfl | (show _ = _; simp))
              | 27, _ =>
                cases ho
                have s15 : a.tmps.getD 15 undef = Value.pointer (some { block := w4.heap.size, off := 0 }) := hF.slots 15 (by simp) (by decide)
                have s192 : a.tmps.getD 192 undef = .bool true := hG { on := 26, ground := .guard } (by simp) rfl
                have g192 := hF.get (by simp) s192
                go_wp2_with fail
                exact hK _ _ hS (Below.refl _ _) (by first | rfl | (show _ = _; simp))
              | 28, _ =>
                cases ho
                have s193 : a.tmps.getD 193 undef = .agg (sigV 0 (zs 560) (.slice none 0 0)).toArray := hG { on := 27, ground := .data } (by simp) rfl
                have s192 : a.tmps.getD 192 undef = .bool true := hG { on := 26, ground := .guard } (by simp) rfl
                have g192 := hF.get (by simp) s192
                go_wp2_with fail
                refine (zb.out W _ (SlC.nil _ _)).mono ?_
                rintro e W2 ⟨p, rfl, ho2, hb2⟩
                go_wp2_with fail
                exact hK _ _ (AtU_keep hS hb2) hb2 ⟨p, rfl, SlC.of_own ho2⟩
              | 29, _ =>
                cases ho
                have s192 : a.tmps.getD 192 undef = .bool true := hG { on := 26, ground := .guard } (by simp) rfl
                have g192 := hF.get (by simp) s192
                go_wp2_with fail
                exact hK _ _ hS (Below.refl _ _) (by first | rfl | (show _ = _; simp))
              | 30, _ =>
                cases ho
                obtain ⟨p194, s194, hp194⟩ : O1bP w4 28 (a.tmps.getD 194 undef) W := hG { on := 28, ground := .data } (by simp) rfl
                have s195 : a.tmps.getD 195 undef = .agg (sigV 0 (zs 560) (.slice none 0 0)).toArray := hG { on := 29, ground := .data } (by simp) rfl
                have s192 : a.tmps.getD 192 undef = .bool true := hG { on := 26, ground := .guard } (by simp) rfl
                have g192 := hF.get (by simp) s192
                go_wp2_with fail
                refine (zq.out W _ _ hp194 (SlC.nil _ _)).mono ?_
                rintro e W2 ⟨rfl, hb2⟩
                go_wp2_with fail
                exact hK _ _ (AtU_keep hS hb2) hb2 (by show _ = _; simp)
              | 31, _ =>
                cases ho
                have s196 : a.tmps.getD 196 undef = .bool true := hG { on := 30, ground := .data } (by simp) rfl
                have s192 : a.tmps.getD 192 undef = .bool true := hG { on := 26, ground := .guard } (by simp) rfl
                have g192 := hF.get (by simp) s192
                go_wp2_with fail
                exact hK _ _ hS (Below.refl _ _) (by first | rfl | (show _ = _; simp))
              | 32, _ =>
                cases ho
                have s192 : a.tmps.getD 192 undef = .bool true := hG { on := 26, ground := .data } (by simp) rfl
                have s197 : a.tmps.getD 197 undef = .bool false := hG { on := 31, ground := .data } (by simp) rfl
                have s189 : a.tmps.getD 189 undef = .bool false := hG { on := 23, ground := .guard } (by simp) rfl
                have g189 := hF.get (by simp) s189
                go_wp2_with fail
                exact hK _ _ hS (Below.refl _ _) (by first | rfl | (show _ = _; simp))
              | i + 33, hi => exact absurd hi (by omega)
            · intro a W hS hF hG
              have t166 : a.tmps.getD 166 undef = .int .i64 19 := hG 0 (by omega)
              have t167 : a.tmps.getD 167 undef = .bool false := hG 1 (by omega)
              have t168 : a.tmps.getD 168 undef = .bool false := hG 2 (by omega)
              have t169 : a.tmps.getD 169 undef = undef := hG 3 (by omega)
              have t170 : a.tmps.getD 170 undef = undef := hG 4 (by omega)
              have t171 : a.tmps.getD 171 undef = undef := hG 5 (by omega)
              have t172 : a.tmps.getD 172 undef = undef := hG 6 (by omega)
              have t173 : a.tmps.getD 173 undef = undef := hG 7 (by omega)
              have t174 : a.tmps.getD 174 undef = undef := hG 8 (by omega)
              have t175 : a.tmps.getD 175 undef = undef := hG 9 (by omega)
              have t176 : a.tmps.getD 176 undef = undef := hG 10 (by omega)
              have t177 : a.tmps.getD 177 undef = undef := hG 11 (by omega)
              have t178 : a.tmps.getD 178 undef = undef := hG 12 (by omega)
              have t179 : a.tmps.getD 179 undef = undef := hG 13 (by omega)
              have t180 : a.tmps.getD 180 undef = undef := hG 14 (by omega)
              have t181 : a.tmps.getD 181 undef = undef := hG 15 (by omega)
              have t182 : a.tmps.getD 182 undef = undef := hG 16 (by omega)
              have t183 : a.tmps.getD 183 undef = undef := hG 17 (by omega)
              have t184 : a.tmps.getD 184 undef = undef := hG 18 (by omega)
              have t185 : a.tmps.getD 185 undef = undef := hG 19 (by omega)
              have t186 : a.tmps.getD 186 undef = undef := hG 20 (by omega)
              have t187 : a.tmps.getD 187 undef = undef := hG 21 (by omega)
              have t188 : a.tmps.getD 188 undef = .bool false := hG 22 (by omega)
              have t189 : a.tmps.getD 189 undef = .bool false := hG 23 (by omega)
              have t190 : a.tmps.getD 190 undef = .int .i64 19 := hG 24 (by omega)
              have t191 : a.tmps.getD 191 undef = .bool true := hG 25 (by omega)
              have t192 : a.tmps.getD 192 undef = .bool true := hG 26 (by omega)
              have t193 : a.tmps.getD 193 undef = .agg (sigV 0 (zs 560) (.slice none 0 0)).toArray := hG 27 (by omega)
              obtain ⟨p194, t194, hp194⟩ : O1bP w4 28 (a.tmps.getD 194 undef) W := hG 28 (by omega)
              have t195 : a.tmps.getD 195 undef = .agg (sigV 0 (zs 560) (.slice none 0 0)).toArray := hG 29 (by omega)
              have t196 : a.tmps.getD 196 undef = .bool true := hG 30 (by omega)
              have t197 : a.tmps.getD 197 undef = .bool false := hG 31 (by omega)
              have t198 : a.tmps.getD 198 undef = .bool false := hG 32 (by omega)
              have fr := Ord.frame_all (vs := (.int .i64 19 :: .bool false :: .bool false :: undef :: undef :: undef :: undef :: undef :: undef :: undef :: undef :: undef :: undef :: undef :: undef :: undef :: undef :: undef :: undef :: undef :: undef :: undef :: .bool false :: .bool false :: .int .i64 19 :: .bool true :: .bool true :: .agg (sigV 0 (zs 560) (.slice none 0 0)).toArray :: .agg (sigV 0 (zs 560) p194).toArray :: .agg (sigV 0 (zs 560) (.slice none 0 0)).toArray :: .bool true :: .bool false :: .bool false :: [])) hF (by rfl) (fun j hj => match j, hj with
                | 0, _ => t166
                | 1, _ => t167
                | 2, _ => t168
                | 3, _ => t169
                | 4, _ => t170
                | 5, _ => t171
                | 6, _ => t172
                | 7, _ => t173
                | 8, _ => t174
                | 9, _ => t175
                | 10, _ => t176
                | 11, _ => t177
                | 12, _ => t178
                | 13, _ => t179
                | 14, _ => t180
                | 15, _ => t181
                | 16, _ => t182
                | 17, _ => t183
                | 18, _ => t184
                | 19, _ => t185
                | 20, _ => t186
                | 21, _ => t187
                | 22, _ => t188
                | 23, _ => t189
                | 24, _ => t190
                | 25, _ => t191
                | 26, _ => t192
                | 27, _ => t193
                | 28, _ => t194
                | 29, _ => t195
                | 30, _ => t196
                | 31, _ => t197
                | 32, _ => t198
                | j + 33, hj => absurd hj (by simp))
              have fe : Ord.setAll (agg IntKind.u8 seed :: Value.int IntKind.u8 ↑m :: Value.int IntKind.i64 ((2 : Int) ^ h) :: Value.slice (some { block := b, off := o }) n c :: Value.pointer (some { block := w.heap.size, off := 0 }) :: undef :: undef :: undef :: u8 :: Value.int IntKind.i64 ↑h :: Value.pointer (some { block := w1.heap.size, off := 0 }) :: Value.pointer (some { block := g, off := 0 }) :: Value.int IntKind.i64 0 :: Value.int IntKind.i64 ((2 : Int) ^ h) :: Value.int IntKind.i64 ↑k :: Value.pointer (some { block := w4.heap.size, off := 0 }) :: Value.int IntKind.i64 19 :: Value.int IntKind.i64 ((2 : Int) ^ h - 1) :: Value.int IntKind.i64 19 :: Value.bool true :: Value.bool false :: Value.bool false :: Value.slice (some { block := b, off := o }) n c :: Value.int IntKind.i64 ↑n :: Value.bool false :: Value.bool false :: undef :: Value.int IntKind.u8 ↑m :: Value.int IntKind.i64 ↑h :: Value.agg (cl IntKind.u8 seed).toArray :: Value.int IntKind.i64 ↑h :: Value.agg (secV seed ↑h).toArray :: Value.tuple #[Value.pointer (some { block := g, off := 0 }), Value.int IntKind.i64 0] :: Value.agg (secV seed ↑h).toArray :: Value.int IntKind.i64 ↑next :: Value.tuple #[Value.pointer (some { block := g, off := 0 }), Value.int IntKind.i64 0] :: Value.pointer (some { block := g, off := 0 }) :: Value.int IntKind.i64 0 :: Value.int IntKind.i64 ↑h :: Value.int IntKind.i64 ((2 : Int) ^ h) :: Value.int IntKind.i64 ↑next :: Value.bool false :: Value.bool false :: Value.int IntKind.i64 ↑next :: Value.int IntKind.i64 ((2 : Int) ^ h) :: Value.bool false :: Value.bool false :: undef :: undef :: undef :: undef :: undef :: undef :: Value.int IntKind.i64 0 :: Value.bool false :: Value.bool false :: Value.pointer (some { block := g, off := 0 }) :: Value.agg (pubV (↑h) KR).toArray :: Value.int IntKind.i64 ↑h :: Value.int IntKind.i64 ↑h :: Value.bool false :: Value.bool false :: Value.bool false :: Value.pointer (some { block := g, off := 0 }) :: Value.agg (pubV (↑h) KR).toArray :: agg IntKind.u8 KR :: Value.agg (cl IntKind.u8 seed).toArray :: Value.int IntKind.i64 ↑h :: agg IntKind.u8 KR :: Value.bool false :: Value.bool false :: Value.int IntKind.i64 ↑k :: Value.slice (some { block := b, off := o }) n c :: Value.int IntKind.i64 ↑n :: Value.bool true :: u75 :: u76 :: Value.pointer (some { block := g, off := 0 }) :: Value.int IntKind.i64 ((2 : Int) ^ h) :: Value.int IntKind.i64 ((2 : Int) ^ h) :: Value.bool false :: Value.bool false :: Value.pointer (some { block := g, off := 0 }) :: Value.int IntKind.i64 0 :: Value.int IntKind.i64 ((2 : Int) ^ h) :: Value.int IntKind.i64 ((2 : Int) ^ h - 1) :: Value.int IntKind.i64 ((2 : Int) ^ h) :: Value.int IntKind.i64 ((2 : Int) ^ h - 1 - (2 : Int) ^ h) :: Value.int IntKind.i64 (max 0 ((2 : Int) ^ h - 1 - (2 : Int) ^ h)) :: Value.bool false :: Value.bool false :: Value.int IntKind.i64 ((2 : Int) ^ h) :: Value.slice (some { block := b, off := o }) n c :: Value.int IntKind.i64 ↑k :: Value.pointer (some { block := b, off := o + k * 18 }) :: Value.pointer (some { block := b, off := o + k * 18 }) :: Value.int IntKind.u8 ↑kd :: Value.int IntKind.u8 1 :: u98 :: u99 :: u100 :: u101 :: u102 :: u103 :: u104 :: u105 :: u106 :: u107 :: u108 :: u109 :: u110 :: u111 :: u112 :: u113 :: u114 :: u115 :: u116 :: u117 :: u118 :: u119 :: u120 :: u121 :: u122 :: u123 :: u124 :: u125 :: u126 :: Value.bool false :: Value.bool false :: u129 :: u130 :: u131 :: u132 :: u133 :: u134 :: u135 :: u136 :: u137 :: u138 :: u139 :: u140 :: u141 :: u142 :: u143 :: u144 :: Value.bool true :: Value.bool true :: Value.int IntKind.i64 ((2 : Int) ^ h) :: Value.int IntKind.i64 ((2 : Int) ^ h - 1) :: Value.tuple #[Value.agg (sigV 0 (zs 560) (Value.slice none 0 0)).toArray, Value.int IntKind.i64 19] :: Value.pointer (some { block := g, off := 0 }) :: Value.slice (some { block := b, off := o }) n c :: Value.int IntKind.i64 ↑k :: Value.pointer (some { block := b, off := o + k * 18 }) :: Value.pointer (some { block := b, off := o + k * 18 + 2 }) :: agg IntKind.u8 d :: Value.tuple #[Value.agg (sigV 0 (zs 560) (Value.slice none 0 0)).toArray, Value.int IntKind.i64 19] :: Value.agg (sigV 0 (zs 560) (Value.slice none 0 0)).toArray :: Value.int IntKind.i64 19 :: Value.int IntKind.i64 ((2 : Int) ^ h) :: Value.int IntKind.i64 ((2 : Int) ^ h) :: Value.bool true :: u162 :: Value.int IntKind.i64 19 :: Value.int IntKind.i64 19 :: Value.bool false :: u166 :: u167 :: u168 :: u169 :: u170 :: u171 :: u172 :: u173 :: u174 :: u175 :: u176 :: u177 :: u178 :: u179 :: u180 :: u181 :: u182 :: u183 :: u184 :: u185 :: u186 :: u187 :: u188 :: u189 :: u190 :: u191 :: u192 :: u193 :: u194 :: u195 :: u196 :: u197 :: u198 :: u199 :: undef :: undef :: undef :: undef :: []) (166 :: 167 :: 168 :: 169 :: 170 :: 171 :: 172 :: 173 :: 174 :: 175 :: 176 :: 177 :: 178 :: 179 :: 180 :: 181 :: 182 :: 183 :: 184 :: 185 :: 186 :: 187 :: 188 :: 189 :: 190 :: 191 :: 192 :: 193 :: 194 :: 195 :: 196 :: 197 :: 198 :: []) (.int .i64 19 :: .bool false :: .bool false :: undef :: undef :: undef :: undef :: undef :: undef :: undef :: undef :: undef :: undef :: undef :: undef :: undef :: undef :: undef :: undef :: undef :: undef :: undef :: .bool false :: .bool false :: .int .i64 19 :: .bool true :: .bool true :: .agg (sigV 0 (zs 560) (.slice none 0 0)).toArray :: .agg (sigV 0 (zs 560) p194).toArray :: .agg (sigV 0 (zs 560) (.slice none 0 0)).toArray :: .bool true :: .bool false :: .bool false :: []) = (agg IntKind.u8 seed :: Value.int IntKind.u8 ↑m :: Value.int IntKind.i64 ((2 : Int) ^ h) :: Value.slice (some { block := b, off := o }) n c :: Value.pointer (some { block := w.heap.size, off := 0 }) :: undef :: undef :: undef :: u8 :: Value.int IntKind.i64 ↑h :: Value.pointer (some { block := w1.heap.size, off := 0 }) :: Value.pointer (some { block := g, off := 0 }) :: Value.int IntKind.i64 0 :: Value.int IntKind.i64 ((2 : Int) ^ h) :: Value.int IntKind.i64 ↑k :: Value.pointer (some { block := w4.heap.size, off := 0 }) :: Value.int IntKind.i64 19 :: Value.int IntKind.i64 ((2 : Int) ^ h - 1) :: Value.int IntKind.i64 19 :: Value.bool true :: Value.bool false :: Value.bool false :: Value.slice (some { block := b, off := o }) n c :: Value.int IntKind.i64 ↑n :: Value.bool false :: Value.bool false :: undef :: Value.int IntKind.u8 ↑m :: Value.int IntKind.i64 ↑h :: Value.agg (cl IntKind.u8 seed).toArray :: Value.int IntKind.i64 ↑h :: Value.agg (secV seed ↑h).toArray :: Value.tuple #[Value.pointer (some { block := g, off := 0 }), Value.int IntKind.i64 0] :: Value.agg (secV seed ↑h).toArray :: Value.int IntKind.i64 ↑next :: Value.tuple #[Value.pointer (some { block := g, off := 0 }), Value.int IntKind.i64 0] :: Value.pointer (some { block := g, off := 0 }) :: Value.int IntKind.i64 0 :: Value.int IntKind.i64 ↑h :: Value.int IntKind.i64 ((2 : Int) ^ h) :: Value.int IntKind.i64 ↑next :: Value.bool false :: Value.bool false :: Value.int IntKind.i64 ↑next :: Value.int IntKind.i64 ((2 : Int) ^ h) :: Value.bool false :: Value.bool false :: undef :: undef :: undef :: undef :: undef :: undef :: Value.int IntKind.i64 0 :: Value.bool false :: Value.bool false :: Value.pointer (some { block := g, off := 0 }) :: Value.agg (pubV (↑h) KR).toArray :: Value.int IntKind.i64 ↑h :: Value.int IntKind.i64 ↑h :: Value.bool false :: Value.bool false :: Value.bool false :: Value.pointer (some { block := g, off := 0 }) :: Value.agg (pubV (↑h) KR).toArray :: agg IntKind.u8 KR :: Value.agg (cl IntKind.u8 seed).toArray :: Value.int IntKind.i64 ↑h :: agg IntKind.u8 KR :: Value.bool false :: Value.bool false :: Value.int IntKind.i64 ↑k :: Value.slice (some { block := b, off := o }) n c :: Value.int IntKind.i64 ↑n :: Value.bool true :: u75 :: u76 :: Value.pointer (some { block := g, off := 0 }) :: Value.int IntKind.i64 ((2 : Int) ^ h) :: Value.int IntKind.i64 ((2 : Int) ^ h) :: Value.bool false :: Value.bool false :: Value.pointer (some { block := g, off := 0 }) :: Value.int IntKind.i64 0 :: Value.int IntKind.i64 ((2 : Int) ^ h) :: Value.int IntKind.i64 ((2 : Int) ^ h - 1) :: Value.int IntKind.i64 ((2 : Int) ^ h) :: Value.int IntKind.i64 ((2 : Int) ^ h - 1 - (2 : Int) ^ h) :: Value.int IntKind.i64 (max 0 ((2 : Int) ^ h - 1 - (2 : Int) ^ h)) :: Value.bool false :: Value.bool false :: Value.int IntKind.i64 ((2 : Int) ^ h) :: Value.slice (some { block := b, off := o }) n c :: Value.int IntKind.i64 ↑k :: Value.pointer (some { block := b, off := o + k * 18 }) :: Value.pointer (some { block := b, off := o + k * 18 }) :: Value.int IntKind.u8 ↑kd :: Value.int IntKind.u8 1 :: u98 :: u99 :: u100 :: u101 :: u102 :: u103 :: u104 :: u105 :: u106 :: u107 :: u108 :: u109 :: u110 :: u111 :: u112 :: u113 :: u114 :: u115 :: u116 :: u117 :: u118 :: u119 :: u120 :: u121 :: u122 :: u123 :: u124 :: u125 :: u126 :: Value.bool false :: Value.bool false :: u129 :: u130 :: u131 :: u132 :: u133 :: u134 :: u135 :: u136 :: u137 :: u138 :: u139 :: u140 :: u141 :: u142 :: u143 :: u144 :: Value.bool true :: Value.bool true :: Value.int IntKind.i64 ((2 : Int) ^ h) :: Value.int IntKind.i64 ((2 : Int) ^ h - 1) :: Value.tuple #[Value.agg (sigV 0 (zs 560) (Value.slice none 0 0)).toArray, Value.int IntKind.i64 19] :: Value.pointer (some { block := g, off := 0 }) :: Value.slice (some { block := b, off := o }) n c :: Value.int IntKind.i64 ↑k :: Value.pointer (some { block := b, off := o + k * 18 }) :: Value.pointer (some { block := b, off := o + k * 18 + 2 }) :: agg IntKind.u8 d :: Value.tuple #[Value.agg (sigV 0 (zs 560) (Value.slice none 0 0)).toArray, Value.int IntKind.i64 19] :: Value.agg (sigV 0 (zs 560) (Value.slice none 0 0)).toArray :: Value.int IntKind.i64 19 :: Value.int IntKind.i64 ((2 : Int) ^ h) :: Value.int IntKind.i64 ((2 : Int) ^ h) :: Value.bool true :: u162 :: Value.int IntKind.i64 19 :: Value.int IntKind.i64 19 :: Value.bool false :: .int .i64 19 :: .bool false :: .bool false :: undef :: undef :: undef :: undef :: undef :: undef :: undef :: undef :: undef :: undef :: undef :: undef :: undef :: undef :: undef :: undef :: undef :: undef :: undef :: .bool false :: .bool false :: .int .i64 19 :: .bool true :: .bool true :: .agg (sigV 0 (zs 560) (.slice none 0 0)).toArray :: .agg (sigV 0 (zs 560) p194).toArray :: .agg (sigV 0 (zs 560) (.slice none 0 0)).toArray :: .bool true :: .bool false :: .bool false :: u199 :: undef :: undef :: undef :: undef :: []) := by kernel_rfl
              rw [fe] at fr
              clear fe
              subst fr
              clear hF hG t166 t167 t168 t169 t170 t171 t172 t173 t174 t175 t176 t177 t178 t179 t180 t181 t182 t183 t184 t185 t186 t187 t188 t189 t190 t191 t192 t193 t194 t195 t196 t197 t198
              simp only [List.drop_succ_cons, List.drop_zero]
              have HS7 := Lib.hid hS
              clear hS hp194
              go_wp2_with fail
              go_roundw
              case rel => exact ⟨nx, k + 1, by omega, by omega, by first | rfl | go_num, by go_num, HS7.out.1⟩
              case measure => simp [intOf]; omega
          · obtain ⟨M, hM⟩ : ∃ M : Nat, M = 2 ^ h := ⟨_, rfl⟩
            have eM : (M : Int) = 2 ^ h := by rw [hM]; norm_cast
            have hMp : 1 ≤ M := by omega
            obtain ⟨L, hL⟩ : ∃ L, L = M - 1 := ⟨_, rfl⟩
            have hL2 : L + 1 = 2 ^ h := by rw [← hM]; omega
            have eL : (L : Int) = 2 ^ h - 1 := by omega
            have cs := Lib.hid (fun W hB => signer_last W g h L seed KR d (h : Int) (nx : Int) HSS.out lK ld BD.out HH.out hL2 (by omega) hB)
            obtain ⟨S, hS⟩ : ∃ S, S = sg seed d L := ⟨_, rfl⟩
            obtain ⟨PS, hPS⟩ : ∃ PS, PS = sigPath seed h L := ⟨_, rfl⟩
            have lS : S.length = 560 := by rw [hS]; exact sg_length _ _ _
            have lP : PS.length = h := by rw [hPS]; exact sigPath_length _ _ _
            have nP : N16 PS := by rw [hPS]; exact sigPath_16 seed (by omega) (by omega)
            have c8 := Lib.hid (fun W => sign8 W seed d h L HSS.out ld BD.out HH.out (by omega))
            rw [← hS, ← hPS] at cs c8
            rw [eL] at cs c8
            have cb : Hid (∀ W y, SlN W y PS → Calls Tryz.prog 11 #[.agg (sigV ((2 : Int) ^ h - 1) S y).toArray] W fun e w' => ∃ p, e = .returned (.agg (sigV ((2 : Int) ^ h - 1) S p).toArray) ∧ OwnN 23 w' W.heap.size p PS ∧ Below W.heap.size W w') := Lib.hid fun W y hy => back W ((2 : Int) ^ h - 1) S y PS lS hy (by omega)
            have cq : Hid (∀ W v1 v2, SlN W v1 PS → SlN W v2 PS → Calls Tryz.prog 10 #[.agg (sigV ((2 : Int) ^ h - 1) S v1).toArray, .agg (sigV ((2 : Int) ^ h - 1) S v2).toArray] W fun e w' => e = .returned (.bool (decide (((2 : Int) ^ h - 1) = ((2 : Int) ^ h - 1) ∧ S = S ∧ PS = PS))) ∧ Below W.heap.size W w') := Lib.hid fun W v1 v2 h1 h2 => same W _ _ S S v1 v2 PS PS lS lS h1 h2 nP nP (by omega)
            have LP := Lib.hid lP
            clear hS hPS nP lP
            have EM := Lib.hid eM
            clear hL hL2 eL hMp hM eM
            have e1 : ((nx : Int) == 2 ^ h) = false := by simp; omega
            go_wp2_with fail
            refine (next_at _ g HSS.out lK A1.out.2.1).mono ?_
            rintro e w3 ⟨rfl, hb3⟩
            have A3 := Lib.hid (AtO_keep A1.out hb3)
            clear hb3
            go_wp2_with fail
            refine (left_zero _ g HSS.out lK (by omega) (by omega) (by omega) (by omega) A3.out.2.1).mono ?_
            rintro e w4 ⟨rfl, hb4⟩
            have A4 := Lib.hid (AtO_keep (AtO_keep A3.out hb4) ((Below.refl _ _).alloc (Nat.le_refl _) (.cells (sigV 0 (zs 560) (.slice none 0 0)).toArray 31)))
            have B4 := Lib.hid (blk_new w4 (sigV 0 (zs 560) (.slice none 0 0)) 31)
            have q1 := (HQ.out _ A4.out.2.2).1
            have q2 := (HQ.out _ A4.out.2.2).2.1
            have q3 := (HQ.out _ A4.out.2.2).2.2
            have h4 : g < w4.heap.size := by have := blk_lt A3.out.2.1; have := hb4.size; omega
            have g4 : w.heap.size < w4.heap.size := by omega
            clear hb4
            go_wp2_with fail
            refine (cs.out _ A4.out.2.1).mono ?_
            rintro e w5 ⟨p, rfl, ho5, hB5, hg5⟩
            have hp5 := SlC.of_own ho5
            obtain ⟨Ap, ap, rfl, -⟩ := id hp5
            have q5 := bk_of (blk_grown B4.out hg5 (by simp; omega))
            have A6 := Lib.hid (show AtP w g h seed KR ((2 : Int) ^ h) w4.heap.size ((2 : Int) ^ h - 1) S (.slice Ap PS.length ap) PS (w5.setRow w4.heap.size (sigV ((2 : Int) ^ h - 1) S (.slice Ap PS.length ap)).toArray) from ⟨⟨blk_setRow_ne (blk_grown A4.out.1 hg5 (by simp; omega)) _ (by omega), blk_setRow_ne hB5 _ (by omega), bel_setRow (A4.out.2.2.grown hg5 A4.out.2.2.size (fun j hj => by cases hj; omega)) (by omega) _⟩, blk_setRow (blk_grown B4.out hg5 (by simp; omega)) _, SlC.of_own (own_setRow ho5 (own_blk_ne ho5 (blk_grown B4.out hg5 (by simp; omega)) (by decide)))⟩)
            clear ho5 hB5 hg5 hp5
            go_wp2_with fail
            refine Ord.wp_region_tab2 33 (166 :: 167 :: 168 :: 169 :: 170 :: 171 :: 172 :: 173 :: 174 :: 175 :: 176 :: 177 :: 178 :: 179 :: 180 :: 181 :: 182 :: 183 :: 184 :: 185 :: 186 :: 187 :: 188 :: 189 :: 190 :: 191 :: 192 :: 193 :: 194 :: 195 :: 196 :: 197 :: 198 :: []) (agg IntKind.u8 seed :: Value.int IntKind.u8 ↑m :: Value.int IntKind.i64 ((2 : Int) ^ h) :: Value.slice (some { block := b, off := o }) n c :: Value.pointer (some { block := w.heap.size, off := 0 }) :: undef :: undef :: undef :: u8 :: Value.int IntKind.i64 ↑h :: Value.pointer (some { block := w1.heap.size, off := 0 }) :: Value.pointer (some { block := g, off := 0 }) :: Value.int IntKind.i64 0 :: Value.int IntKind.i64 ((2 : Int) ^ h) :: Value.int IntKind.i64 ↑k :: Value.pointer (some { block := w4.heap.size, off := 0 }) :: Value.int IntKind.i64 0 :: Value.int IntKind.i64 ((2 : Int) ^ h - 1) :: Value.int IntKind.i64 0 :: Value.bool true :: Value.bool false :: Value.bool false :: Value.slice (some { block := b, off := o }) n c :: Value.int IntKind.i64 ↑n :: Value.bool false :: Value.bool false :: undef :: Value.int IntKind.u8 ↑m :: Value.int IntKind.i64 ↑h :: Value.agg (cl IntKind.u8 seed).toArray :: Value.int IntKind.i64 ↑h :: Value.agg (secV seed ↑h).toArray :: Value.tuple #[Value.pointer (some { block := g, off := 0 }), Value.int IntKind.i64 0] :: Value.agg (secV seed ↑h).toArray :: Value.int IntKind.i64 ↑next :: Value.tuple #[Value.pointer (some { block := g, off := 0 }), Value.int IntKind.i64 0] :: Value.pointer (some { block := g, off := 0 }) :: Value.int IntKind.i64 0 :: Value.int IntKind.i64 ↑h :: Value.int IntKind.i64 ((2 : Int) ^ h) :: Value.int IntKind.i64 ↑next :: Value.bool false :: Value.bool false :: Value.int IntKind.i64 ↑next :: Value.int IntKind.i64 ((2 : Int) ^ h) :: Value.bool false :: Value.bool false :: undef :: undef :: undef :: undef :: undef :: undef :: Value.int IntKind.i64 0 :: Value.bool false :: Value.bool false :: Value.pointer (some { block := g, off := 0 }) :: Value.agg (pubV (↑h) KR).toArray :: Value.int IntKind.i64 ↑h :: Value.int IntKind.i64 ↑h :: Value.bool false :: Value.bool false :: Value.bool false :: Value.pointer (some { block := g, off := 0 }) :: Value.agg (pubV (↑h) KR).toArray :: agg IntKind.u8 KR :: Value.agg (cl IntKind.u8 seed).toArray :: Value.int IntKind.i64 ↑h :: agg IntKind.u8 KR :: Value.bool false :: Value.bool false :: Value.int IntKind.i64 ↑k :: Value.slice (some { block := b, off := o }) n c :: Value.int IntKind.i64 ↑n :: Value.bool true :: u75 :: u76 :: Value.pointer (some { block := g, off := 0 }) :: Value.int IntKind.i64 ↑nx :: Value.int IntKind.i64 ↑nx :: Value.bool false :: Value.bool false :: Value.pointer (some { block := g, off := 0 }) :: Value.int IntKind.i64 0 :: Value.int IntKind.i64 ((2 : Int) ^ h) :: Value.int IntKind.i64 ((2 : Int) ^ h - 1) :: Value.int IntKind.i64 ↑nx :: Value.int IntKind.i64 ((2 : Int) ^ h - 1 - ↑nx) :: Value.int IntKind.i64 (max 0 ((2 : Int) ^ h - 1 - ↑nx)) :: Value.bool false :: Value.bool false :: Value.int IntKind.i64 ↑nx :: Value.slice (some { block := b, off := o }) n c :: Value.int IntKind.i64 ↑k :: Value.pointer (some { block := b, off := o + k * 18 }) :: Value.pointer (some { block := b, off := o + k * 18 }) :: Value.int IntKind.u8 ↑kd :: Value.int IntKind.u8 1 :: u98 :: u99 :: u100 :: u101 :: u102 :: u103 :: u104 :: u105 :: u106 :: u107 :: u108 :: u109 :: u110 :: u111 :: u112 :: u113 :: u114 :: u115 :: u116 :: u117 :: u118 :: u119 :: u120 :: u121 :: u122 :: u123 :: u124 :: u125 :: u126 :: Value.bool false :: Value.bool false :: u129 :: u130 :: u131 :: u132 :: u133 :: u134 :: u135 :: u136 :: u137 :: u138 :: u139 :: u140 :: u141 :: u142 :: u143 :: u144 :: Value.bool true :: Value.bool true :: Value.int IntKind.i64 ((2 : Int) ^ h) :: Value.int IntKind.i64 ((2 : Int) ^ h - 1) :: Value.tuple #[Value.agg (sigV ((2 : Int) ^ h - 1) S (Value.slice Ap PS.length ap)).toArray, Value.int IntKind.i64 0] :: Value.pointer (some { block := g, off := 0 }) :: Value.slice (some { block := b, off := o }) n c :: Value.int IntKind.i64 ↑k :: Value.pointer (some { block := b, off := o + k * 18 }) :: Value.pointer (some { block := b, off := o + k * 18 + 2 }) :: agg IntKind.u8 d :: Value.tuple #[Value.agg (sigV ((2 : Int) ^ h - 1) S (Value.slice Ap PS.length ap)).toArray, Value.int IntKind.i64 0] :: Value.agg (sigV ((2 : Int) ^ h - 1) S (Value.slice Ap PS.length ap)).toArray :: Value.int IntKind.i64 0 :: Value.int IntKind.i64 ↑nx :: Value.int IntKind.i64 ((2 : Int) ^ h) :: Value.bool false :: Value.int IntKind.i64 ((2 : Int) ^ h) :: Value.int IntKind.i64 0 :: Value.int IntKind.i64 0 :: Value.bool false :: u166 :: u167 :: u168 :: u169 :: u170 :: u171 :: u172 :: u173 :: u174 :: u175 :: u176 :: u177 :: u178 :: u179 :: u180 :: u181 :: u182 :: u183 :: u184 :: u185 :: u186 :: u187 :: u188 :: u189 :: u190 :: u191 :: u192 :: u193 :: u194 :: u195 :: u196 :: u197 :: u198 :: u199 :: undef :: undef :: undef :: undef :: []) (fun W => AtP w g h seed KR ((2 : Int) ^ h) w4.heap.size ((2 : Int) ^ h - 1) S (.slice Ap PS.length ap) PS W) (O1cP w4 h k n c b o seed d S PS Ap ap) (by kernel_rfl) (by kernel_rfl) (by rfl) (AtP_keep A6.out (Below.refl _ _).drew) (fun i v W W' _ hb hQ => O1cP_mono w4 h k n c b o seed d S PS Ap ap i v W W' hb hQ) ?_ ?_
            · intro i o hi ho a W K hS hF hG hK
              have k1 := bk_of hS.1.1
              have k2 := bk_of hS.2.1
              have k3 := sig_leaf hS.2.1
              have k4 := (HQ.out W hS.1.2.2).2.2
              match i, hi with
              | 0, _ =>
                cases ho
                have s18 : a.tmps.getD 18 undef = Value.int IntKind.i64 0 := hF.slots 18 (by simp) (by decide)
                go_wp2_with fail
                exact hK _ _ hS (Below.refl _ _) (by first | rfl | (show _ = _; simp))
              | 1, _ =>
                cases ho
                have s166 : a.tmps.getD 166 undef = .int .i64 0 := hG { on := 0, ground := .data } (by simp) rfl
                go_wp2_with fail
                exact hK _ _ hS (Below.refl _ _) (by first | rfl | (show _ = _; simp))
              | 2, _ =>
                cases ho
                have s167 : a.tmps.getD 167 undef = .bool true := hG { on := 1, ground := .data } (by simp) rfl
                go_wp2_with fail
                exact hK _ _ hS (Below.refl _ _) (by first | rfl | (show _ = _; simp))
              | 3, _ =>
                cases ho
                have s15 : a.tmps.getD 15 undef = Value.pointer (some { block := w4.heap.size, off := 0 }) := hF.slots 15 (by simp) (by decide)
                have s168 : a.tmps.getD 168 undef = .bool true := hG { on := 2, ground := .guard } (by simp) rfl
                have g168 := hF.get (by simp) s168
                go_wp2_with fail
                exact hK _ _ hS (Below.refl _ _) (by first | rfl | (show _ = _; simp))
              | 4, _ =>
                cases ho
                have s169 : a.tmps.getD 169 undef = .pointer (some ⟨w4.heap.size, 0, none⟩) := hG { on := 3, ground := .data } (by simp) rfl
                have s168 : a.tmps.getD 168 undef = .bool true := hG { on := 2, ground := .guard } (by simp) rfl
                have g168 := hF.get (by simp) s168
                go_wp2_with fail
                exact hK _ _ hS (Below.refl _ _) (by first | rfl | (show _ = _; simp))
              | 5, _ =>
                cases ho
                have s17 : a.tmps.getD 17 undef = Value.int IntKind.i64 ((2 : Int) ^ h - 1) := hF.slots 17 (by simp) (by decide)
                have s168 : a.tmps.getD 168 undef = .bool true := hG { on := 2, ground := .guard } (by simp) rfl
                have g168 := hF.get (by simp) s168
                go_wp2_with fail
                exact hK _ _ hS (Below.refl _ _) (by first | rfl | (show _ = _; simp))
              | 6, _ =>
                cases ho
                have s170 : a.tmps.getD 170 undef = .int .i64 ((2 : Int) ^ h - 1) := hG { on := 4, ground := .data } (by simp) rfl
                have s171 : a.tmps.getD 171 undef = .int .i64 ((2 : Int) ^ h - 1) := hG { on := 5, ground := .data } (by simp) rfl
                have s168 : a.tmps.getD 168 undef = .bool true := hG { on := 2, ground := .guard } (by simp) rfl
                have g168 := hF.get (by simp) s168
                go_wp2_with fail
                exact hK _ _ hS (Below.refl _ _) (by first | rfl | (show _ = _; simp))
              | 7, _ =>
                cases ho
                have s172 : a.tmps.getD 172 undef = .bool false := hG { on := 6, ground := .data } (by simp) rfl
                have s168 : a.tmps.getD 168 undef = .bool true := hG { on := 2, ground := .guard } (by simp) rfl
                have g168 := hF.get (by simp) s168
                go_wp2_with fail
                exact hK _ _ hS (Below.refl _ _) (by first | rfl | (show _ = _; simp))
              | 8, _ =>
                cases ho
                have s15 : a.tmps.getD 15 undef = Value.pointer (some { block := w4.heap.size, off := 0 }) := hF.slots 15 (by simp) (by decide)
                have s173 : a.tmps.getD 173 undef = .bool false := hG { on := 7, ground := .guard } (by simp) rfl
                have g173 := hF.get (by simp) s173
                go_wp2_with fail
                exact hK _ _ hS (Below.refl _ _) (by first | rfl | (show _ = _; simp))
              | 9, _ =>
                cases ho
                have s174 : a.tmps.getD 174 undef = .agg (sigV ((2 : Int) ^ h - 1) S (.slice Ap PS.length ap)).toArray := hG { on := 8, ground := .data } (by simp) rfl
                have s173 : a.tmps.getD 173 undef = .bool false := hG { on := 7, ground := .guard } (by simp) rfl
                have g173 := hF.get (by simp) s173
                go_wp2_with fail
                refine (cb.out W _ hS.2.2).mono ?_
                rintro e W2 ⟨p, rfl, ho2, hb2⟩
                go_wp2_with fail
                exact hK _ _ (AtP_keep hS hb2) hb2 ⟨p, rfl, SlC.of_own ho2⟩
              | 10, _ =>
                cases ho
                have s4 : a.tmps.getD 4 undef = Value.pointer (some { block := w.heap.size, off := 0 }) := hF.slots 4 (by simp) (by decide)
                have s173 : a.tmps.getD 173 undef = .bool false := hG { on := 7, ground := .guard } (by simp) rfl
                have g173 := hF.get (by simp) s173
                go_wp2_with fail
                exact hK _ _ hS (Below.refl _ _) (by first | rfl | (show _ = _; simp))
              | 11, _ =>
                cases ho
                have s9 : a.tmps.getD 9 undef = Value.int IntKind.i64 ↑h := hF.slots 9 (by simp) (by decide)
                have s173 : a.tmps.getD 173 undef = .bool false := hG { on := 7, ground := .guard } (by simp) rfl
                have g173 := hF.get (by simp) s173
                go_wp2_with fail
                exact hK _ _ hS (Below.refl _ _) (by first | rfl | (show _ = _; simp))
              | 12, _ =>
                cases ho
                have s17 : a.tmps.getD 17 undef = Value.int IntKind.i64 ((2 : Int) ^ h - 1) := hF.slots 17 (by simp) (by decide)
                have s173 : a.tmps.getD 173 undef = .bool false := hG { on := 7, ground := .guard } (by simp) rfl
                have g173 := hF.get (by simp) s173
                go_wp2_with fail
                exact hK _ _ hS (Below.refl _ _) (by first | rfl | (show _ = _; simp))
              | 13, _ =>
                cases ho
                have s3 : a.tmps.getD 3 undef = Value.slice (some { block := b, off := o }) n c := hF.slots 3 (by simp) (by decide)
                have s173 : a.tmps.getD 173 undef = .bool false := hG { on := 7, ground := .guard } (by simp) rfl
                have g173 := hF.get (by simp) s173
                go_wp2_with fail
                exact hK _ _ hS (Below.refl _ _) (by first | rfl | (show _ = _; simp))
              | 14, _ =>
                cases ho
                have s14 : a.tmps.getD 14 undef = Value.int IntKind.i64 ↑k := hF.slots 14 (by simp) (by decide)
                have s173 : a.tmps.getD 173 undef = .bool false := hG { on := 7, ground := .guard } (by simp) rfl
                have g173 := hF.get (by simp) s173
                go_wp2_with fail
                exact hK _ _ hS (Below.refl _ _) (by first | rfl | (show _ = _; simp))
              | 15, _ =>
                cases ho
                have s179 : a.tmps.getD 179 undef = Value.slice (some { block := b, off := o }) n c := hG { on := 13, ground := .data } (by simp) rfl
                have s180 : a.tmps.getD 180 undef = .int .i64 (k : Int) := hG { on := 14, ground := .data } (by simp) rfl
                have s173 : a.tmps.getD 173 undef = .bool false := hG { on := 7, ground := .guard } (by simp) rfl
                have g173 := hF.get (by simp) s173
                go_wp2_with fail
                exact hK _ _ hS (Below.refl _ _) (by first | rfl | (show _ = _; simp))
              | 16, _ =>
                cases ho
                have s181 : a.tmps.getD 181 undef = .pointer (some ⟨b, o + k * 18, none⟩) := hG { on := 15, ground := .data } (by simp) rfl
                have s173 : a.tmps.getD 173 undef = .bool false := hG { on := 7, ground := .guard } (by simp) rfl
                have g173 := hF.get (by simp) s173
                go_wp2_with fail
                exact hK _ _ hS (Below.refl _ _) (by first | rfl | (show _ = _; simp))
              | 17, _ =>
                cases ho
                have s182 : a.tmps.getD 182 undef = .pointer (some ⟨b, o + k * 18 + 2, none⟩) := hG { on := 16, ground := .data } (by simp) rfl
                have s173 : a.tmps.getD 173 undef = .bool false := hG { on := 7, ground := .guard } (by simp) rfl
                have g173 := hF.get (by simp) s173
                go_wp2_with fail
                exact hK _ _ hS (Below.refl _ _) (by first | rfl | (show _ = _; simp))
              | 18, _ =>
                cases ho
                have s176 : a.tmps.getD 176 undef = agg .u8 seed := hG { on := 10, ground := .data } (by simp) rfl
                have s177 : a.tmps.getD 177 undef = .int .i64 (h : Int) := hG { on := 11, ground := .data } (by simp) rfl
                have s178 : a.tmps.getD 178 undef = .int .i64 ((2 : Int) ^ h - 1) := hG { on := 12, ground := .data } (by simp) rfl
                have s183 : a.tmps.getD 183 undef = agg .u8 d := hG { on := 17, ground := .data } (by simp) rfl
                have s173 : a.tmps.getD 173 undef = .bool false := hG { on := 7, ground := .guard } (by simp) rfl
                have g173 := hF.get (by simp) s173
                go_wp2_with fail
                refine (c8.out W).mono ?_
                rintro e W2 ⟨p, rfl, ho2, hb2⟩
                go_wp2_with fail
                exact hK _ _ (AtP_keep hS hb2) hb2 ⟨p, rfl, SlC.of_own ho2⟩
              | 19, _ =>
                cases ho
                obtain ⟨p175, s175, hp175⟩ : O1cP w4 h k n c b o seed d S PS Ap ap 9 (a.tmps.getD 175 undef) W := hG { on := 9, ground := .data } (by simp) rfl
                obtain ⟨p184, s184, hp184⟩ : O1cP w4 h k n c b o seed d S PS Ap ap 18 (a.tmps.getD 184 undef) W := hG { on := 18, ground := .data } (by simp) rfl
                have s173 : a.tmps.getD 173 undef = .bool false := hG { on := 7, ground := .guard } (by simp) rfl
                have g173 := hF.get (by simp) s173
                go_wp2_with fail
                refine (cq.out W _ _ hp175 hp184).mono ?_
                rintro e W2 ⟨rfl, hb2⟩
                go_wp2_with fail
                exact hK _ _ (AtP_keep hS hb2) hb2 (by show _ = _; simp)
              | 20, _ =>
                cases ho
                have s185 : a.tmps.getD 185 undef = .bool true := hG { on := 19, ground := .data } (by simp) rfl
                have s173 : a.tmps.getD 173 undef = .bool false := hG { on := 7, ground := .guard } (by simp) rfl
                have g173 := hF.get (by simp) s173
                go_wp2_with fail
                exact hK _ _ hS (Below.refl _ _) (by first | rfl | (show _ = _; simp))
              | 21, _ =>
                cases ho
                have s173 : a.tmps.getD 173 undef = .bool false := hG { on := 7, ground := .data } (by simp) rfl
                have s186 : a.tmps.getD 186 undef = .bool false := hG { on := 20, ground := .data } (by simp) rfl
                have s168 : a.tmps.getD 168 undef = .bool true := hG { on := 2, ground := .guard } (by simp) rfl
                have g168 := hF.get (by simp) s168
                go_wp2_with fail
                exact hK _ _ hS (Below.refl _ _) (by first | rfl | (show _ = _; simp))
              | 22, _ =>
                cases ho
                have s168 : a.tmps.getD 168 undef = .bool true := hG { on := 2, ground := .data } (by simp) rfl
                have s187 : a.tmps.getD 187 undef = .bool false := hG { on := 21, ground := .data } (by simp) rfl
                go_wp2_with fail
                exact hK _ _ hS (Below.refl _ _) (by first | rfl | (show _ = _; simp))
              | 23, _ =>
                cases ho
                have s188 : a.tmps.getD 188 undef = .bool false := hG { on := 22, ground := .data } (by simp) rfl
                go_wp2_with fail
                exact hK _ _ hS (Below.refl _ _) (by first | rfl | (show _ = _; simp))
              | 24, _ =>
                cases ho
                have s18 : a.tmps.getD 18 undef = Value.int IntKind.i64 0 := hF.slots 18 (by simp) (by decide)
                have s189 : a.tmps.getD 189 undef = .bool false := hG { on := 23, ground := .guard } (by simp) rfl
                have g189 := hF.get (by simp) s189
                go_wp2_with fail
                exact hK _ _ hS (Below.refl _ _) (by first | rfl | (show _ = _; simp))
              | 25, _ =>
                cases ho
                have s190 : a.tmps.getD 190 undef = .int .i64 0 := hG { on := 24, ground := .data } (by simp) rfl
                have s189 : a.tmps.getD 189 undef = .bool false := hG { on := 23, ground := .guard } (by simp) rfl
                have g189 := hF.get (by simp) s189
                go_wp2_with fail
                exact hK _ _ hS (Below.refl _ _) (by first | rfl | (show _ = _; simp))
              | 26, _ =>
                cases ho
                have s191 : a.tmps.getD 191 undef = .bool false := hG { on := 25, ground := .data } (by simp) rfl
                have s189 : a.tmps.getD 189 undef = .bool false := hG { on := 23, ground := .guard } (by simp) rfl
                have g189 := hF.get (by simp) s189
                go_wp2_with fail
                exact hK _ _ hS (Below.refl _ _) (by first | rfl | (show _ = _; simp))
              | 27, _ =>
                cases ho
                have s15 : a.tmps.getD 15 undef = Value.pointer (some { block := w4.heap.size, off := 0 }) := hF.slots 15 (by simp) (by decide)
                have s192 : a.tmps.getD 192 undef = .bool false := hG { on := 26, ground := .guard } (by simp) rfl
                have g192 := hF.get (by simp) s192
                go_wp2_with fail
                exact hK _ _ hS (Below.refl _ _) (by first | rfl | (show _ = _; simp))
              | 28, _ =>
                cases ho
                have s193 : a.tmps.getD 193 undef = undef := hG { on := 27, ground := .data } (by simp) rfl
                have s192 : a.tmps.getD 192 undef = .bool false := hG { on := 26, ground := .guard } (by simp) rfl
                have g192 := hF.get (by simp) s192
                go_wp2_with fail
                exact hK _ _ hS (Below.refl _ _) (by first | rfl | (show _ = _; simp))
              | 29, _ =>
                cases ho
                have s192 : a.tmps.getD 192 undef = .bool false := hG { on := 26, ground := .guard } (by simp) rfl
                have g192 := hF.get (by simp) s192
                go_wp2_with fail
                exact hK _ _ hS (Below.refl _ _) (by first | rfl | (show _ = _; simp))
              | 30, _ =>
                cases ho
                have s194 : a.tmps.getD 194 undef = undef := hG { on := 28, ground := .data } (by simp) rfl
                have s195 : a.tmps.getD 195 undef = undef := hG { on := 29, ground := .data } (by simp) rfl
                have s192 : a.tmps.getD 192 undef = .bool false := hG { on := 26, ground := .guard } (by simp) rfl
                have g192 := hF.get (by simp) s192
                go_wp2_with fail
                exact hK _ _ hS (Below.refl _ _) (by first | rfl | (show _ = _; simp))
              | 31, _ =>
                cases ho
                have s196 : a.tmps.getD 196 undef = undef := hG { on := 30, ground := .data } (by simp) rfl
                have s192 : a.tmps.getD 192 undef = .bool false := hG { on := 26, ground := .guard } (by simp) rfl
                have g192 := hF.get (by simp) s192
                go_wp2_with fail
                exact hK _ _ hS (Below.refl _ _) (by first | rfl | (show _ = _; simp))
              | 32, _ =>
                cases ho
                have s192 : a.tmps.getD 192 undef = .bool false := hG { on := 26, ground := .data } (by simp) rfl
                have s197 : a.tmps.getD 197 undef = undef := hG { on := 31, ground := .data } (by simp) rfl
                have s189 : a.tmps.getD 189 undef = .bool false := hG { on := 23, ground := .guard } (by simp) rfl
                have g189 := hF.get (by simp) s189
                go_wp2_with fail
                exact hK _ _ hS (Below.refl _ _) (by first | rfl | (show _ = _; simp))
              | i + 33, hi => exact absurd hi (by omega)
            · intro a W hS hF hG
              have t166 : a.tmps.getD 166 undef = .int .i64 0 := hG 0 (by omega)
              have t167 : a.tmps.getD 167 undef = .bool true := hG 1 (by omega)
              have t168 : a.tmps.getD 168 undef = .bool true := hG 2 (by omega)
              have t169 : a.tmps.getD 169 undef = .pointer (some ⟨w4.heap.size, 0, none⟩) := hG 3 (by omega)
              have t170 : a.tmps.getD 170 undef = .int .i64 ((2 : Int) ^ h - 1) := hG 4 (by omega)
              have t171 : a.tmps.getD 171 undef = .int .i64 ((2 : Int) ^ h - 1) := hG 5 (by omega)
              have t172 : a.tmps.getD 172 undef = .bool false := hG 6 (by omega)
              have t173 : a.tmps.getD 173 undef = .bool false := hG 7 (by omega)
              have t174 : a.tmps.getD 174 undef = .agg (sigV ((2 : Int) ^ h - 1) S (.slice Ap PS.length ap)).toArray := hG 8 (by omega)
              obtain ⟨p175, t175, hp175⟩ : O1cP w4 h k n c b o seed d S PS Ap ap 9 (a.tmps.getD 175 undef) W := hG 9 (by omega)
              have t176 : a.tmps.getD 176 undef = agg .u8 seed := hG 10 (by omega)
              have t177 : a.tmps.getD 177 undef = .int .i64 (h : Int) := hG 11 (by omega)
              have t178 : a.tmps.getD 178 undef = .int .i64 ((2 : Int) ^ h - 1) := hG 12 (by omega)
              have t179 : a.tmps.getD 179 undef = Value.slice (some { block := b, off := o }) n c := hG 13 (by omega)
              have t180 : a.tmps.getD 180 undef = .int .i64 (k : Int) := hG 14 (by omega)
              have t181 : a.tmps.getD 181 undef = .pointer (some ⟨b, o + k * 18, none⟩) := hG 15 (by omega)
              have t182 : a.tmps.getD 182 undef = .pointer (some ⟨b, o + k * 18 + 2, none⟩) := hG 16 (by omega)
              have t183 : a.tmps.getD 183 undef = agg .u8 d := hG 17 (by omega)
              obtain ⟨p184, t184, hp184⟩ : O1cP w4 h k n c b o seed d S PS Ap ap 18 (a.tmps.getD 184 undef) W := hG 18 (by omega)
              have t185 : a.tmps.getD 185 undef = .bool true := hG 19 (by omega)
              have t186 : a.tmps.getD 186 undef = .bool false := hG 20 (by omega)
              have t187 : a.tmps.getD 187 undef = .bool false := hG 21 (by omega)
              have t188 : a.tmps.getD 188 undef = .bool false := hG 22 (by omega)
              have t189 : a.tmps.getD 189 undef = .bool false := hG 23 (by omega)
              have t190 : a.tmps.getD 190 undef = .int .i64 0 := hG 24 (by omega)
              have t191 : a.tmps.getD 191 undef = .bool false := hG 25 (by omega)
              have t192 : a.tmps.getD 192 undef = .bool false := hG 26 (by omega)
              have t193 : a.tmps.getD 193 undef = undef := hG 27 (by omega)
              have t194 : a.tmps.getD 194 undef = undef := hG 28 (by omega)
              have t195 : a.tmps.getD 195 undef = undef := hG 29 (by omega)
              have t196 : a.tmps.getD 196 undef = undef := hG 30 (by omega)
              have t197 : a.tmps.getD 197 undef = undef := hG 31 (by omega)
              have t198 : a.tmps.getD 198 undef = .bool false := hG 32 (by omega)
              have fr := Ord.frame_all (vs := (.int .i64 0 :: .bool true :: .bool true :: .pointer (some ⟨w4.heap.size, 0, none⟩) :: .int .i64 ((2 : Int) ^ h - 1) :: .int .i64 ((2 : Int) ^ h - 1) :: .bool false :: .bool false :: .agg (sigV ((2 : Int) ^ h - 1) S (.slice Ap PS.length ap)).toArray :: .agg (sigV ((2 : Int) ^ h - 1) S p175).toArray :: agg .u8 seed :: .int .i64 (h : Int) :: .int .i64 ((2 : Int) ^ h - 1) :: Value.slice (some { block := b, off := o }) n c :: .int .i64 (k : Int) :: .pointer (some ⟨b, o + k * 18, none⟩) :: .pointer (some ⟨b, o + k * 18 + 2, none⟩) :: agg .u8 d :: .agg (sigV ((2 : Int) ^ h - 1) S p184).toArray :: .bool true :: .bool false :: .bool false :: .bool false :: .bool false :: .int .i64 0 :: .bool false :: .bool false :: undef :: undef :: undef :: undef :: undef :: .bool false :: [])) hF (by rfl) (fun j hj => match j, hj with
                | 0, _ => t166
                | 1, _ => t167
                | 2, _ => t168
                | 3, _ => t169
                | 4, _ => t170
                | 5, _ => t171
                | 6, _ => t172
                | 7, _ => t173
                | 8, _ => t174
                | 9, _ => t175
                | 10, _ => t176
                | 11, _ => t177
                | 12, _ => t178
                | 13, _ => t179
                | 14, _ => t180
                | 15, _ => t181
                | 16, _ => t182
                | 17, _ => t183
                | 18, _ => t184
                | 19, _ => t185
                | 20, _ => t186
                | 21, _ => t187
                | 22, _ => t188
                | 23, _ => t189
                | 24, _ => t190
                | 25, _ => t191
                | 26, _ => t192
                | 27, _ => t193
                | 28, _ => t194
                | 29, _ => t195
                | 30, _ => t196
                | 31, _ => t197
                | 32, _ => t198
                | j + 33, hj => absurd hj (by simp))
              have fe : Ord.setAll (agg IntKind.u8 seed :: Value.int IntKind.u8 ↑m :: Value.int IntKind.i64 ((2 : Int) ^ h) :: Value.slice (some { block := b, off := o }) n c :: Value.pointer (some { block := w.heap.size, off := 0 }) :: undef :: undef :: undef :: u8 :: Value.int IntKind.i64 ↑h :: Value.pointer (some { block := w1.heap.size, off := 0 }) :: Value.pointer (some { block := g, off := 0 }) :: Value.int IntKind.i64 0 :: Value.int IntKind.i64 ((2 : Int) ^ h) :: Value.int IntKind.i64 ↑k :: Value.pointer (some { block := w4.heap.size, off := 0 }) :: Value.int IntKind.i64 0 :: Value.int IntKind.i64 ((2 : Int) ^ h - 1) :: Value.int IntKind.i64 0 :: Value.bool true :: Value.bool false :: Value.bool false :: Value.slice (some { block := b, off := o }) n c :: Value.int IntKind.i64 ↑n :: Value.bool false :: Value.bool false :: undef :: Value.int IntKind.u8 ↑m :: Value.int IntKind.i64 ↑h :: Value.agg (cl IntKind.u8 seed).toArray :: Value.int IntKind.i64 ↑h :: Value.agg (secV seed ↑h).toArray :: Value.tuple #[Value.pointer (some { block := g, off := 0 }), Value.int IntKind.i64 0] :: Value.agg (secV seed ↑h).toArray :: Value.int IntKind.i64 ↑next :: Value.tuple #[Value.pointer (some { block := g, off := 0 }), Value.int IntKind.i64 0] :: Value.pointer (some { block := g, off := 0 }) :: Value.int IntKind.i64 0 :: Value.int IntKind.i64 ↑h :: Value.int IntKind.i64 ((2 : Int) ^ h) :: Value.int IntKind.i64 ↑next :: Value.bool false :: Value.bool false :: Value.int IntKind.i64 ↑next :: Value.int IntKind.i64 ((2 : Int) ^ h) :: Value.bool false :: Value.bool false :: undef :: undef :: undef :: undef :: undef :: undef :: Value.int IntKind.i64 0 :: Value.bool false :: Value.bool false :: Value.pointer (some { block := g, off := 0 }) :: Value.agg (pubV (↑h) KR).toArray :: Value.int IntKind.i64 ↑h :: Value.int IntKind.i64 ↑h :: Value.bool false :: Value.bool false :: Value.bool false :: Value.pointer (some { block := g, off := 0 }) :: Value.agg (pubV (↑h) KR).toArray :: agg IntKind.u8 KR :: Value.agg (cl IntKind.u8 seed).toArray :: Value.int IntKind.i64 ↑h :: agg IntKind.u8 KR :: Value.bool false :: Value.bool false :: Value.int IntKind.i64 ↑k :: Value.slice (some { block := b, off := o }) n c :: Value.int IntKind.i64 ↑n :: Value.bool true :: u75 :: u76 :: Value.pointer (some { block := g, off := 0 }) :: Value.int IntKind.i64 ↑nx :: Value.int IntKind.i64 ↑nx :: Value.bool false :: Value.bool false :: Value.pointer (some { block := g, off := 0 }) :: Value.int IntKind.i64 0 :: Value.int IntKind.i64 ((2 : Int) ^ h) :: Value.int IntKind.i64 ((2 : Int) ^ h - 1) :: Value.int IntKind.i64 ↑nx :: Value.int IntKind.i64 ((2 : Int) ^ h - 1 - ↑nx) :: Value.int IntKind.i64 (max 0 ((2 : Int) ^ h - 1 - ↑nx)) :: Value.bool false :: Value.bool false :: Value.int IntKind.i64 ↑nx :: Value.slice (some { block := b, off := o }) n c :: Value.int IntKind.i64 ↑k :: Value.pointer (some { block := b, off := o + k * 18 }) :: Value.pointer (some { block := b, off := o + k * 18 }) :: Value.int IntKind.u8 ↑kd :: Value.int IntKind.u8 1 :: u98 :: u99 :: u100 :: u101 :: u102 :: u103 :: u104 :: u105 :: u106 :: u107 :: u108 :: u109 :: u110 :: u111 :: u112 :: u113 :: u114 :: u115 :: u116 :: u117 :: u118 :: u119 :: u120 :: u121 :: u122 :: u123 :: u124 :: u125 :: u126 :: Value.bool false :: Value.bool false :: u129 :: u130 :: u131 :: u132 :: u133 :: u134 :: u135 :: u136 :: u137 :: u138 :: u139 :: u140 :: u141 :: u142 :: u143 :: u144 :: Value.bool true :: Value.bool true :: Value.int IntKind.i64 ((2 : Int) ^ h) :: Value.int IntKind.i64 ((2 : Int) ^ h - 1) :: Value.tuple #[Value.agg (sigV ((2 : Int) ^ h - 1) S (Value.slice Ap PS.length ap)).toArray, Value.int IntKind.i64 0] :: Value.pointer (some { block := g, off := 0 }) :: Value.slice (some { block := b, off := o }) n c :: Value.int IntKind.i64 ↑k :: Value.pointer (some { block := b, off := o + k * 18 }) :: Value.pointer (some { block := b, off := o + k * 18 + 2 }) :: agg IntKind.u8 d :: Value.tuple #[Value.agg (sigV ((2 : Int) ^ h - 1) S (Value.slice Ap PS.length ap)).toArray, Value.int IntKind.i64 0] :: Value.agg (sigV ((2 : Int) ^ h - 1) S (Value.slice Ap PS.length ap)).toArray :: Value.int IntKind.i64 0 :: Value.int IntKind.i64 ↑nx :: Value.int IntKind.i64 ((2 : Int) ^ h) :: Value.bool false :: Value.int IntKind.i64 ((2 : Int) ^ h) :: Value.int IntKind.i64 0 :: Value.int IntKind.i64 0 :: Value.bool false :: u166 :: u167 :: u168 :: u169 :: u170 :: u171 :: u172 :: u173 :: u174 :: u175 :: u176 :: u177 :: u178 :: u179 :: u180 :: u181 :: u182 :: u183 :: u184 :: u185 :: u186 :: u187 :: u188 :: u189 :: u190 :: u191 :: u192 :: u193 :: u194 :: u195 :: u196 :: u197 :: u198 :: u199 :: undef :: undef :: undef :: undef :: []) (166 :: 167 :: 168 :: 169 :: 170 :: 171 :: 172 :: 173 :: 174 :: 175 :: 176 :: 177 :: 178 :: 179 :: 180 :: 181 :: 182 :: 183 :: 184 :: 185 :: 186 :: 187 :: 188 :: 189 :: 190 :: 191 :: 192 :: 193 :: 194 :: 195 :: 196 :: 197 :: 198 :: []) (.int .i64 0 :: .bool true :: .bool true :: .pointer (some ⟨w4.heap.size, 0, none⟩) :: .int .i64 ((2 : Int) ^ h - 1) :: .int .i64 ((2 : Int) ^ h - 1) :: .bool false :: .bool false :: .agg (sigV ((2 : Int) ^ h - 1) S (.slice Ap PS.length ap)).toArray :: .agg (sigV ((2 : Int) ^ h - 1) S p175).toArray :: agg .u8 seed :: .int .i64 (h : Int) :: .int .i64 ((2 : Int) ^ h - 1) :: Value.slice (some { block := b, off := o }) n c :: .int .i64 (k : Int) :: .pointer (some ⟨b, o + k * 18, none⟩) :: .pointer (some ⟨b, o + k * 18 + 2, none⟩) :: agg .u8 d :: .agg (sigV ((2 : Int) ^ h - 1) S p184).toArray :: .bool true :: .bool false :: .bool false :: .bool false :: .bool false :: .int .i64 0 :: .bool false :: .bool false :: undef :: undef :: undef :: undef :: undef :: .bool false :: []) = (agg IntKind.u8 seed :: Value.int IntKind.u8 ↑m :: Value.int IntKind.i64 ((2 : Int) ^ h) :: Value.slice (some { block := b, off := o }) n c :: Value.pointer (some { block := w.heap.size, off := 0 }) :: undef :: undef :: undef :: u8 :: Value.int IntKind.i64 ↑h :: Value.pointer (some { block := w1.heap.size, off := 0 }) :: Value.pointer (some { block := g, off := 0 }) :: Value.int IntKind.i64 0 :: Value.int IntKind.i64 ((2 : Int) ^ h) :: Value.int IntKind.i64 ↑k :: Value.pointer (some { block := w4.heap.size, off := 0 }) :: Value.int IntKind.i64 0 :: Value.int IntKind.i64 ((2 : Int) ^ h - 1) :: Value.int IntKind.i64 0 :: Value.bool true :: Value.bool false :: Value.bool false :: Value.slice (some { block := b, off := o }) n c :: Value.int IntKind.i64 ↑n :: Value.bool false :: Value.bool false :: undef :: Value.int IntKind.u8 ↑m :: Value.int IntKind.i64 ↑h :: Value.agg (cl IntKind.u8 seed).toArray :: Value.int IntKind.i64 ↑h :: Value.agg (secV seed ↑h).toArray :: Value.tuple #[Value.pointer (some { block := g, off := 0 }), Value.int IntKind.i64 0] :: Value.agg (secV seed ↑h).toArray :: Value.int IntKind.i64 ↑next :: Value.tuple #[Value.pointer (some { block := g, off := 0 }), Value.int IntKind.i64 0] :: Value.pointer (some { block := g, off := 0 }) :: Value.int IntKind.i64 0 :: Value.int IntKind.i64 ↑h :: Value.int IntKind.i64 ((2 : Int) ^ h) :: Value.int IntKind.i64 ↑next :: Value.bool false :: Value.bool false :: Value.int IntKind.i64 ↑next :: Value.int IntKind.i64 ((2 : Int) ^ h) :: Value.bool false :: Value.bool false :: undef :: undef :: undef :: undef :: undef :: undef :: Value.int IntKind.i64 0 :: Value.bool false :: Value.bool false :: Value.pointer (some { block := g, off := 0 }) :: Value.agg (pubV (↑h) KR).toArray :: Value.int IntKind.i64 ↑h :: Value.int IntKind.i64 ↑h :: Value.bool false :: Value.bool false :: Value.bool false :: Value.pointer (some { block := g, off := 0 }) :: Value.agg (pubV (↑h) KR).toArray :: agg IntKind.u8 KR :: Value.agg (cl IntKind.u8 seed).toArray :: Value.int IntKind.i64 ↑h :: agg IntKind.u8 KR :: Value.bool false :: Value.bool false :: Value.int IntKind.i64 ↑k :: Value.slice (some { block := b, off := o }) n c :: Value.int IntKind.i64 ↑n :: Value.bool true :: u75 :: u76 :: Value.pointer (some { block := g, off := 0 }) :: Value.int IntKind.i64 ↑nx :: Value.int IntKind.i64 ↑nx :: Value.bool false :: Value.bool false :: Value.pointer (some { block := g, off := 0 }) :: Value.int IntKind.i64 0 :: Value.int IntKind.i64 ((2 : Int) ^ h) :: Value.int IntKind.i64 ((2 : Int) ^ h - 1) :: Value.int IntKind.i64 ↑nx :: Value.int IntKind.i64 ((2 : Int) ^ h - 1 - ↑nx) :: Value.int IntKind.i64 (max 0 ((2 : Int) ^ h - 1 - ↑nx)) :: Value.bool false :: Value.bool false :: Value.int IntKind.i64 ↑nx :: Value.slice (some { block := b, off := o }) n c :: Value.int IntKind.i64 ↑k :: Value.pointer (some { block := b, off := o + k * 18 }) :: Value.pointer (some { block := b, off := o + k * 18 }) :: Value.int IntKind.u8 ↑kd :: Value.int IntKind.u8 1 :: u98 :: u99 :: u100 :: u101 :: u102 :: u103 :: u104 :: u105 :: u106 :: u107 :: u108 :: u109 :: u110 :: u111 :: u112 :: u113 :: u114 :: u115 :: u116 :: u117 :: u118 :: u119 :: u120 :: u121 :: u122 :: u123 :: u124 :: u125 :: u126 :: Value.bool false :: Value.bool false :: u129 :: u130 :: u131 :: u132 :: u133 :: u134 :: u135 :: u136 :: u137 :: u138 :: u139 :: u140 :: u141 :: u142 :: u143 :: u144 :: Value.bool true :: Value.bool true :: Value.int IntKind.i64 ((2 : Int) ^ h) :: Value.int IntKind.i64 ((2 : Int) ^ h - 1) :: Value.tuple #[Value.agg (sigV ((2 : Int) ^ h - 1) S (Value.slice Ap PS.length ap)).toArray, Value.int IntKind.i64 0] :: Value.pointer (some { block := g, off := 0 }) :: Value.slice (some { block := b, off := o }) n c :: Value.int IntKind.i64 ↑k :: Value.pointer (some { block := b, off := o + k * 18 }) :: Value.pointer (some { block := b, off := o + k * 18 + 2 }) :: agg IntKind.u8 d :: Value.tuple #[Value.agg (sigV ((2 : Int) ^ h - 1) S (Value.slice Ap PS.length ap)).toArray, Value.int IntKind.i64 0] :: Value.agg (sigV ((2 : Int) ^ h - 1) S (Value.slice Ap PS.length ap)).toArray :: Value.int IntKind.i64 0 :: Value.int IntKind.i64 ↑nx :: Value.int IntKind.i64 ((2 : Int) ^ h) :: Value.bool false :: Value.int IntKind.i64 ((2 : Int) ^ h) :: Value.int IntKind.i64 0 :: Value.int IntKind.i64 0 :: Value.bool false :: .int .i64 0 :: .bool true :: .bool true :: .pointer (some ⟨w4.heap.size, 0, none⟩) :: .int .i64 ((2 : Int) ^ h - 1) :: .int .i64 ((2 : Int) ^ h - 1) :: .bool false :: .bool false :: .agg (sigV ((2 : Int) ^ h - 1) S (.slice Ap PS.length ap)).toArray :: .agg (sigV ((2 : Int) ^ h - 1) S p175).toArray :: agg .u8 seed :: .int .i64 (h : Int) :: .int .i64 ((2 : Int) ^ h - 1) :: Value.slice (some { block := b, off := o }) n c :: .int .i64 (k : Int) :: .pointer (some ⟨b, o + k * 18, none⟩) :: .pointer (some ⟨b, o + k * 18 + 2, none⟩) :: agg .u8 d :: .agg (sigV ((2 : Int) ^ h - 1) S p184).toArray :: .bool true :: .bool false :: .bool false :: .bool false :: .bool false :: .int .i64 0 :: .bool false :: .bool false :: undef :: undef :: undef :: undef :: undef :: .bool false :: u199 :: undef :: undef :: undef :: undef :: []) := by kernel_rfl
              rw [fe] at fr
              clear fe
              subst fr
              clear hF hG t166 t167 t168 t169 t170 t171 t172 t173 t174 t175 t176 t177 t178 t179 t180 t181 t182 t183 t184 t185 t186 t187 t188 t189 t190 t191 t192 t193 t194 t195 t196 t197 t198
              simp only [List.drop_succ_cons, List.drop_zero]
              have HS7 := Lib.hid hS
              clear hS hp175 hp184
              go_wp2_with fail
              go_roundw
              case rel => exact ⟨M, k + 1, by rw [EM.out]; omega, by omega, by rw [EM.out], by go_num, by rw [EM.out]; exact HS7.out.1⟩
              case measure => simp [intOf]; omega
        · obtain ⟨M, hM⟩ : ∃ M : Nat, M = 2 ^ h := ⟨_, rfl⟩
          have eM : (M : Int) = 2 ^ h := by rw [hM]; norm_cast
          have hMp : 1 ≤ M := by omega
          obtain ⟨L, hL⟩ : ∃ L, L = M - 1 := ⟨_, rfl⟩
          have hL2 : L + 1 = 2 ^ h := by rw [← hM]; omega
          have eL : (L : Int) = 2 ^ h - 1 := by omega
          have cs := Lib.hid (fun W hB => signer_last W g h L seed KR d (h : Int) (nx : Int) HSS.out lK ld BD.out HH.out hL2 (by omega) hB)
          obtain ⟨S, hS⟩ : ∃ S, S = sg seed d L := ⟨_, rfl⟩
          obtain ⟨PS, hPS⟩ : ∃ PS, PS = sigPath seed h L := ⟨_, rfl⟩
          have lS : S.length = 560 := by rw [hS]; exact sg_length _ _ _
          have lP : PS.length = h := by rw [hPS]; exact sigPath_length _ _ _
          have nP : N16 PS := by rw [hPS]; exact sigPath_16 seed (by omega) (by omega)
          have c8 := Lib.hid (fun W => sign8 W seed d h L HSS.out ld BD.out HH.out (by omega))
          rw [← hS, ← hPS] at cs c8
          rw [eL] at cs c8
          have cb : Hid (∀ W y, SlN W y PS → Calls Tryz.prog 11 #[.agg (sigV ((2 : Int) ^ h - 1) S y).toArray] W fun e w' => ∃ p, e = .returned (.agg (sigV ((2 : Int) ^ h - 1) S p).toArray) ∧ OwnN 23 w' W.heap.size p PS ∧ Below W.heap.size W w') := Lib.hid fun W y hy => back W ((2 : Int) ^ h - 1) S y PS lS hy (by omega)
          have cq : Hid (∀ W v1 v2, SlN W v1 PS → SlN W v2 PS → Calls Tryz.prog 10 #[.agg (sigV ((2 : Int) ^ h - 1) S v1).toArray, .agg (sigV ((2 : Int) ^ h - 1) S v2).toArray] W fun e w' => e = .returned (.bool (decide (((2 : Int) ^ h - 1) = ((2 : Int) ^ h - 1) ∧ S = S ∧ PS = PS))) ∧ Below W.heap.size W w') := Lib.hid fun W v1 v2 h1 h2 => same W _ _ S S v1 v2 PS PS lS lS h1 h2 nP nP (by omega)
          have LP := Lib.hid lP
          clear hS hPS nP lP
          have EM := Lib.hid eM
          clear hL hL2 eL hMp hM eM
          go_wp2_with fail
          refine (next_at _ g HSS.out lK A1.out.2.1).mono ?_
          rintro e w3 ⟨rfl, hb3⟩
          have A3 := Lib.hid (AtO_keep A1.out hb3)
          clear hb3
          go_wp2_with fail
          refine (left_pos _ g HSS.out lK (by omega) (by omega) (by omega) (by omega) A3.out.2.1).mono ?_
          rintro e w4 ⟨rfl, hb4⟩
          have A4 := Lib.hid (AtO_keep (AtO_keep A3.out hb4) ((Below.refl _ _).alloc (Nat.le_refl _) (.cells (sigV 0 (zs 560) (.slice none 0 0)).toArray 31)))
          have B4 := Lib.hid (blk_new w4 (sigV 0 (zs 560) (.slice none 0 0)) 31)
          have q1 := (HQ.out _ A4.out.2.2).1
          have q2 := (HQ.out _ A4.out.2.2).2.1
          have q3 := (HQ.out _ A4.out.2.2).2.2
          have h4 : g < w4.heap.size := by have := blk_lt A3.out.2.1; have := hb4.size; omega
          have g4 : w.heap.size < w4.heap.size := by omega
          clear hb4
          go_wp2_with fail
          refine (cs.out _ A4.out.2.1).mono ?_
          rintro e w5 ⟨p, rfl, ho5, hB5, hg5⟩
          have hp5 := SlC.of_own ho5
          obtain ⟨Ap, ap, rfl, -⟩ := id hp5
          have q5 := bk_of (blk_grown B4.out hg5 (by simp; omega))
          have A6 := Lib.hid (show AtP w g h seed KR ((2 : Int) ^ h) w4.heap.size ((2 : Int) ^ h - 1) S (.slice Ap PS.length ap) PS (w5.setRow w4.heap.size (sigV ((2 : Int) ^ h - 1) S (.slice Ap PS.length ap)).toArray) from ⟨⟨blk_setRow_ne (blk_grown A4.out.1 hg5 (by simp; omega)) _ (by omega), blk_setRow_ne hB5 _ (by omega), bel_setRow (A4.out.2.2.grown hg5 A4.out.2.2.size (fun j hj => by cases hj; omega)) (by omega) _⟩, blk_setRow (blk_grown B4.out hg5 (by simp; omega)) _, SlC.of_own (own_setRow ho5 (own_blk_ne ho5 (blk_grown B4.out hg5 (by simp; omega)) (by decide)))⟩)
          clear ho5 hB5 hg5 hp5
          go_wp2_with fail
          refine Ord.wp_region_tab2 33 (166 :: 167 :: 168 :: 169 :: 170 :: 171 :: 172 :: 173 :: 174 :: 175 :: 176 :: 177 :: 178 :: 179 :: 180 :: 181 :: 182 :: 183 :: 184 :: 185 :: 186 :: 187 :: 188 :: 189 :: 190 :: 191 :: 192 :: 193 :: 194 :: 195 :: 196 :: 197 :: 198 :: []) (agg IntKind.u8 seed :: Value.int IntKind.u8 ↑m :: Value.int IntKind.i64 ((2 : Int) ^ h) :: Value.slice (some { block := b, off := o }) n c :: Value.pointer (some { block := w.heap.size, off := 0 }) :: undef :: undef :: undef :: u8 :: Value.int IntKind.i64 ↑h :: Value.pointer (some { block := w1.heap.size, off := 0 }) :: Value.pointer (some { block := g, off := 0 }) :: Value.int IntKind.i64 0 :: Value.int IntKind.i64 ((2 : Int) ^ h) :: Value.int IntKind.i64 ↑k :: Value.pointer (some { block := w4.heap.size, off := 0 }) :: Value.int IntKind.i64 0 :: Value.int IntKind.i64 ((2 : Int) ^ h - 1) :: Value.int IntKind.i64 0 :: Value.bool true :: Value.bool false :: Value.bool false :: Value.slice (some { block := b, off := o }) n c :: Value.int IntKind.i64 ↑n :: Value.bool false :: Value.bool false :: undef :: Value.int IntKind.u8 ↑m :: Value.int IntKind.i64 ↑h :: Value.agg (cl IntKind.u8 seed).toArray :: Value.int IntKind.i64 ↑h :: Value.agg (secV seed ↑h).toArray :: Value.tuple #[Value.pointer (some { block := g, off := 0 }), Value.int IntKind.i64 0] :: Value.agg (secV seed ↑h).toArray :: Value.int IntKind.i64 ↑next :: Value.tuple #[Value.pointer (some { block := g, off := 0 }), Value.int IntKind.i64 0] :: Value.pointer (some { block := g, off := 0 }) :: Value.int IntKind.i64 0 :: Value.int IntKind.i64 ↑h :: Value.int IntKind.i64 ((2 : Int) ^ h) :: Value.int IntKind.i64 ↑next :: Value.bool false :: Value.bool false :: Value.int IntKind.i64 ↑next :: Value.int IntKind.i64 ((2 : Int) ^ h) :: Value.bool false :: Value.bool false :: undef :: undef :: undef :: undef :: undef :: undef :: Value.int IntKind.i64 0 :: Value.bool false :: Value.bool false :: Value.pointer (some { block := g, off := 0 }) :: Value.agg (pubV (↑h) KR).toArray :: Value.int IntKind.i64 ↑h :: Value.int IntKind.i64 ↑h :: Value.bool false :: Value.bool false :: Value.bool false :: Value.pointer (some { block := g, off := 0 }) :: Value.agg (pubV (↑h) KR).toArray :: agg IntKind.u8 KR :: Value.agg (cl IntKind.u8 seed).toArray :: Value.int IntKind.i64 ↑h :: agg IntKind.u8 KR :: Value.bool false :: Value.bool false :: Value.int IntKind.i64 ↑k :: Value.slice (some { block := b, off := o }) n c :: Value.int IntKind.i64 ↑n :: Value.bool true :: u75 :: u76 :: Value.pointer (some { block := g, off := 0 }) :: Value.int IntKind.i64 ↑nx :: Value.int IntKind.i64 ↑nx :: Value.bool false :: Value.bool false :: Value.pointer (some { block := g, off := 0 }) :: Value.int IntKind.i64 ((2 : Int) ^ h - 1 - ↑nx) :: Value.int IntKind.i64 ((2 : Int) ^ h) :: Value.int IntKind.i64 ((2 : Int) ^ h - 1) :: Value.int IntKind.i64 ↑nx :: Value.int IntKind.i64 ((2 : Int) ^ h - 1 - ↑nx) :: Value.int IntKind.i64 (max 0 ((2 : Int) ^ h - 1 - ↑nx)) :: Value.bool false :: Value.bool false :: Value.int IntKind.i64 ↑nx :: Value.slice (some { block := b, off := o }) n c :: Value.int IntKind.i64 ↑k :: Value.pointer (some { block := b, off := o + k * 18 }) :: Value.pointer (some { block := b, off := o + k * 18 }) :: Value.int IntKind.u8 ↑kd :: Value.int IntKind.u8 1 :: u98 :: u99 :: u100 :: u101 :: u102 :: u103 :: u104 :: u105 :: u106 :: u107 :: u108 :: u109 :: u110 :: u111 :: u112 :: u113 :: u114 :: u115 :: u116 :: u117 :: u118 :: u119 :: u120 :: u121 :: u122 :: u123 :: u124 :: u125 :: u126 :: Value.bool false :: Value.bool false :: u129 :: u130 :: u131 :: u132 :: u133 :: u134 :: u135 :: u136 :: u137 :: u138 :: u139 :: u140 :: u141 :: u142 :: u143 :: u144 :: Value.bool true :: Value.bool true :: Value.int IntKind.i64 ((2 : Int) ^ h) :: Value.int IntKind.i64 ((2 : Int) ^ h - 1) :: Value.tuple #[Value.agg (sigV ((2 : Int) ^ h - 1) S (Value.slice Ap PS.length ap)).toArray, Value.int IntKind.i64 0] :: Value.pointer (some { block := g, off := 0 }) :: Value.slice (some { block := b, off := o }) n c :: Value.int IntKind.i64 ↑k :: Value.pointer (some { block := b, off := o + k * 18 }) :: Value.pointer (some { block := b, off := o + k * 18 + 2 }) :: agg IntKind.u8 d :: Value.tuple #[Value.agg (sigV ((2 : Int) ^ h - 1) S (Value.slice Ap PS.length ap)).toArray, Value.int IntKind.i64 0] :: Value.agg (sigV ((2 : Int) ^ h - 1) S (Value.slice Ap PS.length ap)).toArray :: Value.int IntKind.i64 0 :: Value.int IntKind.i64 ↑nx :: Value.int IntKind.i64 ((2 : Int) ^ h) :: Value.bool (↑nx == (2 : Int) ^ h) :: Value.int IntKind.i64 ((2 : Int) ^ h) :: Value.int IntKind.i64 0 :: Value.int IntKind.i64 0 :: Value.bool false :: u166 :: u167 :: u168 :: u169 :: u170 :: u171 :: u172 :: u173 :: u174 :: u175 :: u176 :: u177 :: u178 :: u179 :: u180 :: u181 :: u182 :: u183 :: u184 :: u185 :: u186 :: u187 :: u188 :: u189 :: u190 :: u191 :: u192 :: u193 :: u194 :: u195 :: u196 :: u197 :: u198 :: u199 :: undef :: undef :: undef :: undef :: []) (fun W => AtP w g h seed KR ((2 : Int) ^ h) w4.heap.size ((2 : Int) ^ h - 1) S (.slice Ap PS.length ap) PS W) (O1aP w4 h k n c b o seed d S PS Ap ap) (by kernel_rfl) (by kernel_rfl) (by rfl) (AtP_keep A6.out (Below.refl _ _).drew) (fun i v W W' _ hb hQ => O1aP_mono w4 h k n c b o seed d S PS Ap ap i v W W' hb hQ) ?_ ?_
          · intro i o hi ho a W K hS hF hG hK
            have k1 := bk_of hS.1.1
            have k2 := bk_of hS.2.1
            have k3 := sig_leaf hS.2.1
            have k4 := (HQ.out W hS.1.2.2).2.2
            match i, hi with
            | 0, _ =>
              cases ho
              have s18 : a.tmps.getD 18 undef = Value.int IntKind.i64 0 := hF.slots 18 (by simp) (by decide)
              go_wp2_with fail
              exact hK _ _ hS (Below.refl _ _) (by first | rfl | (show _ = _; simp))
            | 1, _ =>
              cases ho
              have s166 : a.tmps.getD 166 undef = .int .i64 0 := hG { on := 0, ground := .data } (by simp) rfl
              go_wp2_with fail
              exact hK _ _ hS (Below.refl _ _) (by first | rfl | (show _ = _; simp))
            | 2, _ =>
              cases ho
              have s167 : a.tmps.getD 167 undef = .bool true := hG { on := 1, ground := .data } (by simp) rfl
              go_wp2_with fail
              exact hK _ _ hS (Below.refl _ _) (by first | rfl | (show _ = _; simp))
            | 3, _ =>
              cases ho
              have s15 : a.tmps.getD 15 undef = Value.pointer (some { block := w4.heap.size, off := 0 }) := hF.slots 15 (by simp) (by decide)
              have s168 : a.tmps.getD 168 undef = .bool true := hG { on := 2, ground := .guard } (by simp) rfl
              have g168 := hF.get (by simp) s168
              go_wp2_with fail
              exact hK _ _ hS (Below.refl _ _) (by first | rfl | (show _ = _; simp))
            | 4, _ =>
              cases ho
              have s169 : a.tmps.getD 169 undef = .pointer (some ⟨w4.heap.size, 0, none⟩) := hG { on := 3, ground := .data } (by simp) rfl
              have s168 : a.tmps.getD 168 undef = .bool true := hG { on := 2, ground := .guard } (by simp) rfl
              have g168 := hF.get (by simp) s168
              go_wp2_with fail
              exact hK _ _ hS (Below.refl _ _) (by first | rfl | (show _ = _; simp))
            | 5, _ =>
              cases ho
              have s17 : a.tmps.getD 17 undef = Value.int IntKind.i64 ((2 : Int) ^ h - 1) := hF.slots 17 (by simp) (by decide)
              have s168 : a.tmps.getD 168 undef = .bool true := hG { on := 2, ground := .guard } (by simp) rfl
              have g168 := hF.get (by simp) s168
              go_wp2_with fail
              exact hK _ _ hS (Below.refl _ _) (by first | rfl | (show _ = _; simp))
            | 6, _ =>
              cases ho
              have s170 : a.tmps.getD 170 undef = .int .i64 ((2 : Int) ^ h - 1) := hG { on := 4, ground := .data } (by simp) rfl
              have s171 : a.tmps.getD 171 undef = .int .i64 ((2 : Int) ^ h - 1) := hG { on := 5, ground := .data } (by simp) rfl
              have s168 : a.tmps.getD 168 undef = .bool true := hG { on := 2, ground := .guard } (by simp) rfl
              have g168 := hF.get (by simp) s168
              go_wp2_with fail
              exact hK _ _ hS (Below.refl _ _) (by first | rfl | (show _ = _; simp))
            | 7, _ =>
              cases ho
              have s172 : a.tmps.getD 172 undef = .bool false := hG { on := 6, ground := .data } (by simp) rfl
              have s168 : a.tmps.getD 168 undef = .bool true := hG { on := 2, ground := .guard } (by simp) rfl
              have g168 := hF.get (by simp) s168
              go_wp2_with fail
              exact hK _ _ hS (Below.refl _ _) (by first | rfl | (show _ = _; simp))
            | 8, _ =>
              cases ho
              have s15 : a.tmps.getD 15 undef = Value.pointer (some { block := w4.heap.size, off := 0 }) := hF.slots 15 (by simp) (by decide)
              have s173 : a.tmps.getD 173 undef = .bool false := hG { on := 7, ground := .guard } (by simp) rfl
              have g173 := hF.get (by simp) s173
              go_wp2_with fail
              exact hK _ _ hS (Below.refl _ _) (by first | rfl | (show _ = _; simp))
            | 9, _ =>
              cases ho
              have s174 : a.tmps.getD 174 undef = .agg (sigV ((2 : Int) ^ h - 1) S (.slice Ap PS.length ap)).toArray := hG { on := 8, ground := .data } (by simp) rfl
              have s173 : a.tmps.getD 173 undef = .bool false := hG { on := 7, ground := .guard } (by simp) rfl
              have g173 := hF.get (by simp) s173
              go_wp2_with fail
              refine (cb.out W _ hS.2.2).mono ?_
              rintro e W2 ⟨p, rfl, ho2, hb2⟩
              go_wp2_with fail
              exact hK _ _ (AtP_keep hS hb2) hb2 ⟨p, rfl, SlC.of_own ho2⟩
            | 10, _ =>
              cases ho
              have s4 : a.tmps.getD 4 undef = Value.pointer (some { block := w.heap.size, off := 0 }) := hF.slots 4 (by simp) (by decide)
              have s173 : a.tmps.getD 173 undef = .bool false := hG { on := 7, ground := .guard } (by simp) rfl
              have g173 := hF.get (by simp) s173
              go_wp2_with fail
              exact hK _ _ hS (Below.refl _ _) (by first | rfl | (show _ = _; simp))
            | 11, _ =>
              cases ho
              have s9 : a.tmps.getD 9 undef = Value.int IntKind.i64 ↑h := hF.slots 9 (by simp) (by decide)
              have s173 : a.tmps.getD 173 undef = .bool false := hG { on := 7, ground := .guard } (by simp) rfl
              have g173 := hF.get (by simp) s173
              go_wp2_with fail
              exact hK _ _ hS (Below.refl _ _) (by first | rfl | (show _ = _; simp))
            | 12, _ =>
              cases ho
              have s17 : a.tmps.getD 17 undef = Value.int IntKind.i64 ((2 : Int) ^ h - 1) := hF.slots 17 (by simp) (by decide)
              have s173 : a.tmps.getD 173 undef = .bool false := hG { on := 7, ground := .guard } (by simp) rfl
              have g173 := hF.get (by simp) s173
              go_wp2_with fail
              exact hK _ _ hS (Below.refl _ _) (by first | rfl | (show _ = _; simp))
            | 13, _ =>
              cases ho
              have s3 : a.tmps.getD 3 undef = Value.slice (some { block := b, off := o }) n c := hF.slots 3 (by simp) (by decide)
              have s173 : a.tmps.getD 173 undef = .bool false := hG { on := 7, ground := .guard } (by simp) rfl
              have g173 := hF.get (by simp) s173
              go_wp2_with fail
              exact hK _ _ hS (Below.refl _ _) (by first | rfl | (show _ = _; simp))
            | 14, _ =>
              cases ho
              have s14 : a.tmps.getD 14 undef = Value.int IntKind.i64 ↑k := hF.slots 14 (by simp) (by decide)
              have s173 : a.tmps.getD 173 undef = .bool false := hG { on := 7, ground := .guard } (by simp) rfl
              have g173 := hF.get (by simp) s173
              go_wp2_with fail
              exact hK _ _ hS (Below.refl _ _) (by first | rfl | (show _ = _; simp))
            | 15, _ =>
              cases ho
              have s179 : a.tmps.getD 179 undef = Value.slice (some { block := b, off := o }) n c := hG { on := 13, ground := .data } (by simp) rfl
              have s180 : a.tmps.getD 180 undef = .int .i64 (k : Int) := hG { on := 14, ground := .data } (by simp) rfl
              have s173 : a.tmps.getD 173 undef = .bool false := hG { on := 7, ground := .guard } (by simp) rfl
              have g173 := hF.get (by simp) s173
              go_wp2_with fail
              exact hK _ _ hS (Below.refl _ _) (by first | rfl | (show _ = _; simp))
            | 16, _ =>
              cases ho
              have s181 : a.tmps.getD 181 undef = .pointer (some ⟨b, o + k * 18, none⟩) := hG { on := 15, ground := .data } (by simp) rfl
              have s173 : a.tmps.getD 173 undef = .bool false := hG { on := 7, ground := .guard } (by simp) rfl
              have g173 := hF.get (by simp) s173
              go_wp2_with fail
              exact hK _ _ hS (Below.refl _ _) (by first | rfl | (show _ = _; simp))
            | 17, _ =>
              cases ho
              have s182 : a.tmps.getD 182 undef = .pointer (some ⟨b, o + k * 18 + 2, none⟩) := hG { on := 16, ground := .data } (by simp) rfl
              have s173 : a.tmps.getD 173 undef = .bool false := hG { on := 7, ground := .guard } (by simp) rfl
              have g173 := hF.get (by simp) s173
              go_wp2_with fail
              exact hK _ _ hS (Below.refl _ _) (by first | rfl | (show _ = _; simp))
            | 18, _ =>
              cases ho
              have s176 : a.tmps.getD 176 undef = agg .u8 seed := hG { on := 10, ground := .data } (by simp) rfl
              have s177 : a.tmps.getD 177 undef = .int .i64 (h : Int) := hG { on := 11, ground := .data } (by simp) rfl
              have s178 : a.tmps.getD 178 undef = .int .i64 ((2 : Int) ^ h - 1) := hG { on := 12, ground := .data } (by simp) rfl
              have s183 : a.tmps.getD 183 undef = agg .u8 d := hG { on := 17, ground := .data } (by simp) rfl
              have s173 : a.tmps.getD 173 undef = .bool false := hG { on := 7, ground := .guard } (by simp) rfl
              have g173 := hF.get (by simp) s173
              go_wp2_with fail
              refine (c8.out W).mono ?_
              rintro e W2 ⟨p, rfl, ho2, hb2⟩
              go_wp2_with fail
              exact hK _ _ (AtP_keep hS hb2) hb2 ⟨p, rfl, SlC.of_own ho2⟩
            | 19, _ =>
              cases ho
              obtain ⟨p175, s175, hp175⟩ : O1aP w4 h k n c b o seed d S PS Ap ap 9 (a.tmps.getD 175 undef) W := hG { on := 9, ground := .data } (by simp) rfl
              obtain ⟨p184, s184, hp184⟩ : O1aP w4 h k n c b o seed d S PS Ap ap 18 (a.tmps.getD 184 undef) W := hG { on := 18, ground := .data } (by simp) rfl
              have s173 : a.tmps.getD 173 undef = .bool false := hG { on := 7, ground := .guard } (by simp) rfl
              have g173 := hF.get (by simp) s173
              go_wp2_with fail
              refine (cq.out W _ _ hp175 hp184).mono ?_
              rintro e W2 ⟨rfl, hb2⟩
              go_wp2_with fail
              exact hK _ _ (AtP_keep hS hb2) hb2 (by show _ = _; simp)
            | 20, _ =>
              cases ho
              have s185 : a.tmps.getD 185 undef = .bool true := hG { on := 19, ground := .data } (by simp) rfl
              have s173 : a.tmps.getD 173 undef = .bool false := hG { on := 7, ground := .guard } (by simp) rfl
              have g173 := hF.get (by simp) s173
              go_wp2_with fail
              exact hK _ _ hS (Below.refl _ _) (by first | rfl | (show _ = _; simp))
            | 21, _ =>
              cases ho
              have s173 : a.tmps.getD 173 undef = .bool false := hG { on := 7, ground := .data } (by simp) rfl
              have s186 : a.tmps.getD 186 undef = .bool false := hG { on := 20, ground := .data } (by simp) rfl
              have s168 : a.tmps.getD 168 undef = .bool true := hG { on := 2, ground := .guard } (by simp) rfl
              have g168 := hF.get (by simp) s168
              go_wp2_with fail
              exact hK _ _ hS (Below.refl _ _) (by first | rfl | (show _ = _; simp))
            | 22, _ =>
              cases ho
              have s168 : a.tmps.getD 168 undef = .bool true := hG { on := 2, ground := .data } (by simp) rfl
              have s187 : a.tmps.getD 187 undef = .bool false := hG { on := 21, ground := .data } (by simp) rfl
              go_wp2_with fail
              exact hK _ _ hS (Below.refl _ _) (by first | rfl | (show _ = _; simp))
            | 23, _ =>
              cases ho
              have s188 : a.tmps.getD 188 undef = .bool false := hG { on := 22, ground := .data } (by simp) rfl
              go_wp2_with fail
              exact hK _ _ hS (Below.refl _ _) (by first | rfl | (show _ = _; simp))
            | 24, _ =>
              cases ho
              have s18 : a.tmps.getD 18 undef = Value.int IntKind.i64 0 := hF.slots 18 (by simp) (by decide)
              have s189 : a.tmps.getD 189 undef = .bool false := hG { on := 23, ground := .guard } (by simp) rfl
              have g189 := hF.get (by simp) s189
              go_wp2_with fail
              exact hK _ _ hS (Below.refl _ _) (by first | rfl | (show _ = _; simp))
            | 25, _ =>
              cases ho
              have s190 : a.tmps.getD 190 undef = .int .i64 0 := hG { on := 24, ground := .data } (by simp) rfl
              have s189 : a.tmps.getD 189 undef = .bool false := hG { on := 23, ground := .guard } (by simp) rfl
              have g189 := hF.get (by simp) s189
              go_wp2_with fail
              exact hK _ _ hS (Below.refl _ _) (by first | rfl | (show _ = _; simp))
            | 26, _ =>
              cases ho
              have s191 : a.tmps.getD 191 undef = .bool false := hG { on := 25, ground := .data } (by simp) rfl
              have s189 : a.tmps.getD 189 undef = .bool false := hG { on := 23, ground := .guard } (by simp) rfl
              have g189 := hF.get (by simp) s189
              go_wp2_with fail
              exact hK _ _ hS (Below.refl _ _) (by first | rfl | (show _ = _; simp))
            | 27, _ =>
              cases ho
              have s15 : a.tmps.getD 15 undef = Value.pointer (some { block := w4.heap.size, off := 0 }) := hF.slots 15 (by simp) (by decide)
              have s192 : a.tmps.getD 192 undef = .bool false := hG { on := 26, ground := .guard } (by simp) rfl
              have g192 := hF.get (by simp) s192
              go_wp2_with fail
              exact hK _ _ hS (Below.refl _ _) (by first | rfl | (show _ = _; simp))
            | 28, _ =>
              cases ho
              have s193 : a.tmps.getD 193 undef = undef := hG { on := 27, ground := .data } (by simp) rfl
              have s192 : a.tmps.getD 192 undef = .bool false := hG { on := 26, ground := .guard } (by simp) rfl
              have g192 := hF.get (by simp) s192
              go_wp2_with fail
              exact hK _ _ hS (Below.refl _ _) (by first | rfl | (show _ = _; simp))
            | 29, _ =>
              cases ho
              have s192 : a.tmps.getD 192 undef = .bool false := hG { on := 26, ground := .guard } (by simp) rfl
              have g192 := hF.get (by simp) s192
              go_wp2_with fail
              exact hK _ _ hS (Below.refl _ _) (by first | rfl | (show _ = _; simp))
            | 30, _ =>
              cases ho
              have s194 : a.tmps.getD 194 undef = undef := hG { on := 28, ground := .data } (by simp) rfl
              have s195 : a.tmps.getD 195 undef = undef := hG { on := 29, ground := .data } (by simp) rfl
              have s192 : a.tmps.getD 192 undef = .bool false := hG { on := 26, ground := .guard } (by simp) rfl
              have g192 := hF.get (by simp) s192
              go_wp2_with fail
              exact hK _ _ hS (Below.refl _ _) (by first | rfl | (show _ = _; simp))
            | 31, _ =>
              cases ho
              have s196 : a.tmps.getD 196 undef = undef := hG { on := 30, ground := .data } (by simp) rfl
              have s192 : a.tmps.getD 192 undef = .bool false := hG { on := 26, ground := .guard } (by simp) rfl
              have g192 := hF.get (by simp) s192
              go_wp2_with fail
              exact hK _ _ hS (Below.refl _ _) (by first | rfl | (show _ = _; simp))
            | 32, _ =>
              cases ho
              have s192 : a.tmps.getD 192 undef = .bool false := hG { on := 26, ground := .data } (by simp) rfl
              have s197 : a.tmps.getD 197 undef = undef := hG { on := 31, ground := .data } (by simp) rfl
              have s189 : a.tmps.getD 189 undef = .bool false := hG { on := 23, ground := .guard } (by simp) rfl
              have g189 := hF.get (by simp) s189
              go_wp2_with fail
              exact hK _ _ hS (Below.refl _ _) (by first | rfl | (show _ = _; simp))
            | i + 33, hi => exact absurd hi (by omega)
          · intro a W hS hF hG
            have t166 : a.tmps.getD 166 undef = .int .i64 0 := hG 0 (by omega)
            have t167 : a.tmps.getD 167 undef = .bool true := hG 1 (by omega)
            have t168 : a.tmps.getD 168 undef = .bool true := hG 2 (by omega)
            have t169 : a.tmps.getD 169 undef = .pointer (some ⟨w4.heap.size, 0, none⟩) := hG 3 (by omega)
            have t170 : a.tmps.getD 170 undef = .int .i64 ((2 : Int) ^ h - 1) := hG 4 (by omega)
            have t171 : a.tmps.getD 171 undef = .int .i64 ((2 : Int) ^ h - 1) := hG 5 (by omega)
            have t172 : a.tmps.getD 172 undef = .bool false := hG 6 (by omega)
            have t173 : a.tmps.getD 173 undef = .bool false := hG 7 (by omega)
            have t174 : a.tmps.getD 174 undef = .agg (sigV ((2 : Int) ^ h - 1) S (.slice Ap PS.length ap)).toArray := hG 8 (by omega)
            obtain ⟨p175, t175, hp175⟩ : O1aP w4 h k n c b o seed d S PS Ap ap 9 (a.tmps.getD 175 undef) W := hG 9 (by omega)
            have t176 : a.tmps.getD 176 undef = agg .u8 seed := hG 10 (by omega)
            have t177 : a.tmps.getD 177 undef = .int .i64 (h : Int) := hG 11 (by omega)
            have t178 : a.tmps.getD 178 undef = .int .i64 ((2 : Int) ^ h - 1) := hG 12 (by omega)
            have t179 : a.tmps.getD 179 undef = Value.slice (some { block := b, off := o }) n c := hG 13 (by omega)
            have t180 : a.tmps.getD 180 undef = .int .i64 (k : Int) := hG 14 (by omega)
            have t181 : a.tmps.getD 181 undef = .pointer (some ⟨b, o + k * 18, none⟩) := hG 15 (by omega)
            have t182 : a.tmps.getD 182 undef = .pointer (some ⟨b, o + k * 18 + 2, none⟩) := hG 16 (by omega)
            have t183 : a.tmps.getD 183 undef = agg .u8 d := hG 17 (by omega)
            obtain ⟨p184, t184, hp184⟩ : O1aP w4 h k n c b o seed d S PS Ap ap 18 (a.tmps.getD 184 undef) W := hG 18 (by omega)
            have t185 : a.tmps.getD 185 undef = .bool true := hG 19 (by omega)
            have t186 : a.tmps.getD 186 undef = .bool false := hG 20 (by omega)
            have t187 : a.tmps.getD 187 undef = .bool false := hG 21 (by omega)
            have t188 : a.tmps.getD 188 undef = .bool false := hG 22 (by omega)
            have t189 : a.tmps.getD 189 undef = .bool false := hG 23 (by omega)
            have t190 : a.tmps.getD 190 undef = .int .i64 0 := hG 24 (by omega)
            have t191 : a.tmps.getD 191 undef = .bool false := hG 25 (by omega)
            have t192 : a.tmps.getD 192 undef = .bool false := hG 26 (by omega)
            have t193 : a.tmps.getD 193 undef = undef := hG 27 (by omega)
            have t194 : a.tmps.getD 194 undef = undef := hG 28 (by omega)
            have t195 : a.tmps.getD 195 undef = undef := hG 29 (by omega)
            have t196 : a.tmps.getD 196 undef = undef := hG 30 (by omega)
            have t197 : a.tmps.getD 197 undef = undef := hG 31 (by omega)
            have t198 : a.tmps.getD 198 undef = .bool false := hG 32 (by omega)
            have fr := Ord.frame_all (vs := (.int .i64 0 :: .bool true :: .bool true :: .pointer (some ⟨w4.heap.size, 0, none⟩) :: .int .i64 ((2 : Int) ^ h - 1) :: .int .i64 ((2 : Int) ^ h - 1) :: .bool false :: .bool false :: .agg (sigV ((2 : Int) ^ h - 1) S (.slice Ap PS.length ap)).toArray :: .agg (sigV ((2 : Int) ^ h - 1) S p175).toArray :: agg .u8 seed :: .int .i64 (h : Int) :: .int .i64 ((2 : Int) ^ h - 1) :: Value.slice (some { block := b, off := o }) n c :: .int .i64 (k : Int) :: .pointer (some ⟨b, o + k * 18, none⟩) :: .pointer (some ⟨b, o + k * 18 + 2, none⟩) :: agg .u8 d :: .agg (sigV ((2 : Int) ^ h - 1) S p184).toArray :: .bool true :: .bool false :: .bool false :: .bool false :: .bool false :: .int .i64 0 :: .bool false :: .bool false :: undef :: undef :: undef :: undef :: undef :: .bool false :: [])) hF (by rfl) (fun j hj => match j, hj with
              | 0, _ => t166
              | 1, _ => t167
              | 2, _ => t168
              | 3, _ => t169
              | 4, _ => t170
              | 5, _ => t171
              | 6, _ => t172
              | 7, _ => t173
              | 8, _ => t174
              | 9, _ => t175
              | 10, _ => t176
              | 11, _ => t177
              | 12, _ => t178
              | 13, _ => t179
              | 14, _ => t180
              | 15, _ => t181
              | 16, _ => t182
              | 17, _ => t183
              | 18, _ => t184
              | 19, _ => t185
              | 20, _ => t186
              | 21, _ => t187
              | 22, _ => t188
              | 23, _ => t189
              | 24, _ => t190
              | 25, _ => t191
              | 26, _ => t192
              | 27, _ => t193
              | 28, _ => t194
              | 29, _ => t195
              | 30, _ => t196
              | 31, _ => t197
              | 32, _ => t198
              | j + 33, hj => absurd hj (by simp))
            have fe : Ord.setAll (agg IntKind.u8 seed :: Value.int IntKind.u8 ↑m :: Value.int IntKind.i64 ((2 : Int) ^ h) :: Value.slice (some { block := b, off := o }) n c :: Value.pointer (some { block := w.heap.size, off := 0 }) :: undef :: undef :: undef :: u8 :: Value.int IntKind.i64 ↑h :: Value.pointer (some { block := w1.heap.size, off := 0 }) :: Value.pointer (some { block := g, off := 0 }) :: Value.int IntKind.i64 0 :: Value.int IntKind.i64 ((2 : Int) ^ h) :: Value.int IntKind.i64 ↑k :: Value.pointer (some { block := w4.heap.size, off := 0 }) :: Value.int IntKind.i64 0 :: Value.int IntKind.i64 ((2 : Int) ^ h - 1) :: Value.int IntKind.i64 0 :: Value.bool true :: Value.bool false :: Value.bool false :: Value.slice (some { block := b, off := o }) n c :: Value.int IntKind.i64 ↑n :: Value.bool false :: Value.bool false :: undef :: Value.int IntKind.u8 ↑m :: Value.int IntKind.i64 ↑h :: Value.agg (cl IntKind.u8 seed).toArray :: Value.int IntKind.i64 ↑h :: Value.agg (secV seed ↑h).toArray :: Value.tuple #[Value.pointer (some { block := g, off := 0 }), Value.int IntKind.i64 0] :: Value.agg (secV seed ↑h).toArray :: Value.int IntKind.i64 ↑next :: Value.tuple #[Value.pointer (some { block := g, off := 0 }), Value.int IntKind.i64 0] :: Value.pointer (some { block := g, off := 0 }) :: Value.int IntKind.i64 0 :: Value.int IntKind.i64 ↑h :: Value.int IntKind.i64 ((2 : Int) ^ h) :: Value.int IntKind.i64 ↑next :: Value.bool false :: Value.bool false :: Value.int IntKind.i64 ↑next :: Value.int IntKind.i64 ((2 : Int) ^ h) :: Value.bool false :: Value.bool false :: undef :: undef :: undef :: undef :: undef :: undef :: Value.int IntKind.i64 0 :: Value.bool false :: Value.bool false :: Value.pointer (some { block := g, off := 0 }) :: Value.agg (pubV (↑h) KR).toArray :: Value.int IntKind.i64 ↑h :: Value.int IntKind.i64 ↑h :: Value.bool false :: Value.bool false :: Value.bool false :: Value.pointer (some { block := g, off := 0 }) :: Value.agg (pubV (↑h) KR).toArray :: agg IntKind.u8 KR :: Value.agg (cl IntKind.u8 seed).toArray :: Value.int IntKind.i64 ↑h :: agg IntKind.u8 KR :: Value.bool false :: Value.bool false :: Value.int IntKind.i64 ↑k :: Value.slice (some { block := b, off := o }) n c :: Value.int IntKind.i64 ↑n :: Value.bool true :: u75 :: u76 :: Value.pointer (some { block := g, off := 0 }) :: Value.int IntKind.i64 ↑nx :: Value.int IntKind.i64 ↑nx :: Value.bool false :: Value.bool false :: Value.pointer (some { block := g, off := 0 }) :: Value.int IntKind.i64 ((2 : Int) ^ h - 1 - ↑nx) :: Value.int IntKind.i64 ((2 : Int) ^ h) :: Value.int IntKind.i64 ((2 : Int) ^ h - 1) :: Value.int IntKind.i64 ↑nx :: Value.int IntKind.i64 ((2 : Int) ^ h - 1 - ↑nx) :: Value.int IntKind.i64 (max 0 ((2 : Int) ^ h - 1 - ↑nx)) :: Value.bool false :: Value.bool false :: Value.int IntKind.i64 ↑nx :: Value.slice (some { block := b, off := o }) n c :: Value.int IntKind.i64 ↑k :: Value.pointer (some { block := b, off := o + k * 18 }) :: Value.pointer (some { block := b, off := o + k * 18 }) :: Value.int IntKind.u8 ↑kd :: Value.int IntKind.u8 1 :: u98 :: u99 :: u100 :: u101 :: u102 :: u103 :: u104 :: u105 :: u106 :: u107 :: u108 :: u109 :: u110 :: u111 :: u112 :: u113 :: u114 :: u115 :: u116 :: u117 :: u118 :: u119 :: u120 :: u121 :: u122 :: u123 :: u124 :: u125 :: u126 :: Value.bool false :: Value.bool false :: u129 :: u130 :: u131 :: u132 :: u133 :: u134 :: u135 :: u136 :: u137 :: u138 :: u139 :: u140 :: u141 :: u142 :: u143 :: u144 :: Value.bool true :: Value.bool true :: Value.int IntKind.i64 ((2 : Int) ^ h) :: Value.int IntKind.i64 ((2 : Int) ^ h - 1) :: Value.tuple #[Value.agg (sigV ((2 : Int) ^ h - 1) S (Value.slice Ap PS.length ap)).toArray, Value.int IntKind.i64 0] :: Value.pointer (some { block := g, off := 0 }) :: Value.slice (some { block := b, off := o }) n c :: Value.int IntKind.i64 ↑k :: Value.pointer (some { block := b, off := o + k * 18 }) :: Value.pointer (some { block := b, off := o + k * 18 + 2 }) :: agg IntKind.u8 d :: Value.tuple #[Value.agg (sigV ((2 : Int) ^ h - 1) S (Value.slice Ap PS.length ap)).toArray, Value.int IntKind.i64 0] :: Value.agg (sigV ((2 : Int) ^ h - 1) S (Value.slice Ap PS.length ap)).toArray :: Value.int IntKind.i64 0 :: Value.int IntKind.i64 ↑nx :: Value.int IntKind.i64 ((2 : Int) ^ h) :: Value.bool (↑nx == (2 : Int) ^ h) :: Value.int IntKind.i64 ((2 : Int) ^ h) :: Value.int IntKind.i64 0 :: Value.int IntKind.i64 0 :: Value.bool false :: u166 :: u167 :: u168 :: u169 :: u170 :: u171 :: u172 :: u173 :: u174 :: u175 :: u176 :: u177 :: u178 :: u179 :: u180 :: u181 :: u182 :: u183 :: u184 :: u185 :: u186 :: u187 :: u188 :: u189 :: u190 :: u191 :: u192 :: u193 :: u194 :: u195 :: u196 :: u197 :: u198 :: u199 :: undef :: undef :: undef :: undef :: []) (166 :: 167 :: 168 :: 169 :: 170 :: 171 :: 172 :: 173 :: 174 :: 175 :: 176 :: 177 :: 178 :: 179 :: 180 :: 181 :: 182 :: 183 :: 184 :: 185 :: 186 :: 187 :: 188 :: 189 :: 190 :: 191 :: 192 :: 193 :: 194 :: 195 :: 196 :: 197 :: 198 :: []) (.int .i64 0 :: .bool true :: .bool true :: .pointer (some ⟨w4.heap.size, 0, none⟩) :: .int .i64 ((2 : Int) ^ h - 1) :: .int .i64 ((2 : Int) ^ h - 1) :: .bool false :: .bool false :: .agg (sigV ((2 : Int) ^ h - 1) S (.slice Ap PS.length ap)).toArray :: .agg (sigV ((2 : Int) ^ h - 1) S p175).toArray :: agg .u8 seed :: .int .i64 (h : Int) :: .int .i64 ((2 : Int) ^ h - 1) :: Value.slice (some { block := b, off := o }) n c :: .int .i64 (k : Int) :: .pointer (some ⟨b, o + k * 18, none⟩) :: .pointer (some ⟨b, o + k * 18 + 2, none⟩) :: agg .u8 d :: .agg (sigV ((2 : Int) ^ h - 1) S p184).toArray :: .bool true :: .bool false :: .bool false :: .bool false :: .bool false :: .int .i64 0 :: .bool false :: .bool false :: undef :: undef :: undef :: undef :: undef :: .bool false :: []) = (agg IntKind.u8 seed :: Value.int IntKind.u8 ↑m :: Value.int IntKind.i64 ((2 : Int) ^ h) :: Value.slice (some { block := b, off := o }) n c :: Value.pointer (some { block := w.heap.size, off := 0 }) :: undef :: undef :: undef :: u8 :: Value.int IntKind.i64 ↑h :: Value.pointer (some { block := w1.heap.size, off := 0 }) :: Value.pointer (some { block := g, off := 0 }) :: Value.int IntKind.i64 0 :: Value.int IntKind.i64 ((2 : Int) ^ h) :: Value.int IntKind.i64 ↑k :: Value.pointer (some { block := w4.heap.size, off := 0 }) :: Value.int IntKind.i64 0 :: Value.int IntKind.i64 ((2 : Int) ^ h - 1) :: Value.int IntKind.i64 0 :: Value.bool true :: Value.bool false :: Value.bool false :: Value.slice (some { block := b, off := o }) n c :: Value.int IntKind.i64 ↑n :: Value.bool false :: Value.bool false :: undef :: Value.int IntKind.u8 ↑m :: Value.int IntKind.i64 ↑h :: Value.agg (cl IntKind.u8 seed).toArray :: Value.int IntKind.i64 ↑h :: Value.agg (secV seed ↑h).toArray :: Value.tuple #[Value.pointer (some { block := g, off := 0 }), Value.int IntKind.i64 0] :: Value.agg (secV seed ↑h).toArray :: Value.int IntKind.i64 ↑next :: Value.tuple #[Value.pointer (some { block := g, off := 0 }), Value.int IntKind.i64 0] :: Value.pointer (some { block := g, off := 0 }) :: Value.int IntKind.i64 0 :: Value.int IntKind.i64 ↑h :: Value.int IntKind.i64 ((2 : Int) ^ h) :: Value.int IntKind.i64 ↑next :: Value.bool false :: Value.bool false :: Value.int IntKind.i64 ↑next :: Value.int IntKind.i64 ((2 : Int) ^ h) :: Value.bool false :: Value.bool false :: undef :: undef :: undef :: undef :: undef :: undef :: Value.int IntKind.i64 0 :: Value.bool false :: Value.bool false :: Value.pointer (some { block := g, off := 0 }) :: Value.agg (pubV (↑h) KR).toArray :: Value.int IntKind.i64 ↑h :: Value.int IntKind.i64 ↑h :: Value.bool false :: Value.bool false :: Value.bool false :: Value.pointer (some { block := g, off := 0 }) :: Value.agg (pubV (↑h) KR).toArray :: agg IntKind.u8 KR :: Value.agg (cl IntKind.u8 seed).toArray :: Value.int IntKind.i64 ↑h :: agg IntKind.u8 KR :: Value.bool false :: Value.bool false :: Value.int IntKind.i64 ↑k :: Value.slice (some { block := b, off := o }) n c :: Value.int IntKind.i64 ↑n :: Value.bool true :: u75 :: u76 :: Value.pointer (some { block := g, off := 0 }) :: Value.int IntKind.i64 ↑nx :: Value.int IntKind.i64 ↑nx :: Value.bool false :: Value.bool false :: Value.pointer (some { block := g, off := 0 }) :: Value.int IntKind.i64 ((2 : Int) ^ h - 1 - ↑nx) :: Value.int IntKind.i64 ((2 : Int) ^ h) :: Value.int IntKind.i64 ((2 : Int) ^ h - 1) :: Value.int IntKind.i64 ↑nx :: Value.int IntKind.i64 ((2 : Int) ^ h - 1 - ↑nx) :: Value.int IntKind.i64 (max 0 ((2 : Int) ^ h - 1 - ↑nx)) :: Value.bool false :: Value.bool false :: Value.int IntKind.i64 ↑nx :: Value.slice (some { block := b, off := o }) n c :: Value.int IntKind.i64 ↑k :: Value.pointer (some { block := b, off := o + k * 18 }) :: Value.pointer (some { block := b, off := o + k * 18 }) :: Value.int IntKind.u8 ↑kd :: Value.int IntKind.u8 1 :: u98 :: u99 :: u100 :: u101 :: u102 :: u103 :: u104 :: u105 :: u106 :: u107 :: u108 :: u109 :: u110 :: u111 :: u112 :: u113 :: u114 :: u115 :: u116 :: u117 :: u118 :: u119 :: u120 :: u121 :: u122 :: u123 :: u124 :: u125 :: u126 :: Value.bool false :: Value.bool false :: u129 :: u130 :: u131 :: u132 :: u133 :: u134 :: u135 :: u136 :: u137 :: u138 :: u139 :: u140 :: u141 :: u142 :: u143 :: u144 :: Value.bool true :: Value.bool true :: Value.int IntKind.i64 ((2 : Int) ^ h) :: Value.int IntKind.i64 ((2 : Int) ^ h - 1) :: Value.tuple #[Value.agg (sigV ((2 : Int) ^ h - 1) S (Value.slice Ap PS.length ap)).toArray, Value.int IntKind.i64 0] :: Value.pointer (some { block := g, off := 0 }) :: Value.slice (some { block := b, off := o }) n c :: Value.int IntKind.i64 ↑k :: Value.pointer (some { block := b, off := o + k * 18 }) :: Value.pointer (some { block := b, off := o + k * 18 + 2 }) :: agg IntKind.u8 d :: Value.tuple #[Value.agg (sigV ((2 : Int) ^ h - 1) S (Value.slice Ap PS.length ap)).toArray, Value.int IntKind.i64 0] :: Value.agg (sigV ((2 : Int) ^ h - 1) S (Value.slice Ap PS.length ap)).toArray :: Value.int IntKind.i64 0 :: Value.int IntKind.i64 ↑nx :: Value.int IntKind.i64 ((2 : Int) ^ h) :: Value.bool (↑nx == (2 : Int) ^ h) :: Value.int IntKind.i64 ((2 : Int) ^ h) :: Value.int IntKind.i64 0 :: Value.int IntKind.i64 0 :: Value.bool false :: .int .i64 0 :: .bool true :: .bool true :: .pointer (some ⟨w4.heap.size, 0, none⟩) :: .int .i64 ((2 : Int) ^ h - 1) :: .int .i64 ((2 : Int) ^ h - 1) :: .bool false :: .bool false :: .agg (sigV ((2 : Int) ^ h - 1) S (.slice Ap PS.length ap)).toArray :: .agg (sigV ((2 : Int) ^ h - 1) S p175).toArray :: agg .u8 seed :: .int .i64 (h : Int) :: .int .i64 ((2 : Int) ^ h - 1) :: Value.slice (some { block := b, off := o }) n c :: .int .i64 (k : Int) :: .pointer (some ⟨b, o + k * 18, none⟩) :: .pointer (some ⟨b, o + k * 18 + 2, none⟩) :: agg .u8 d :: .agg (sigV ((2 : Int) ^ h - 1) S p184).toArray :: .bool true :: .bool false :: .bool false :: .bool false :: .bool false :: .int .i64 0 :: .bool false :: .bool false :: undef :: undef :: undef :: undef :: undef :: .bool false :: u199 :: undef :: undef :: undef :: undef :: []) := by kernel_rfl
            rw [fe] at fr
            clear fe
            subst fr
            clear hF hG t166 t167 t168 t169 t170 t171 t172 t173 t174 t175 t176 t177 t178 t179 t180 t181 t182 t183 t184 t185 t186 t187 t188 t189 t190 t191 t192 t193 t194 t195 t196 t197 t198
            simp only [List.drop_succ_cons, List.drop_zero]
            have HS7 := Lib.hid hS
            clear hS hp175 hp184
            go_wp2_with fail
            go_roundw
            case rel => exact ⟨M, k + 1, by rw [EM.out]; omega, by omega, by rw [EM.out], by go_num, by rw [EM.out]; exact HS7.out.1⟩
            case measure => simp [intOf]; omega
      · have e0 : (kd : Int) % 3 = 2 := by omega
        clear h0
        by_cases hu : (2 : Int) ^ h - 1 ≤ (nx : Int)
        · go_wp2_with fail
          refine (next_at _ g HSS.out lK A1.out.2.1).mono ?_
          rintro e w3 ⟨rfl, hb3⟩
          have A3 := Lib.hid (AtO_keep A1.out hb3)
          clear hb3
          go_wp2_with fail
          refine (left_zero _ g HSS.out lK (by omega) (by omega) (by omega) (by omega) A3.out.2.1).mono ?_
          rintro e w4 ⟨rfl, hb4⟩
          have A4 := Lib.hid (AtO_keep (AtO_keep A3.out hb4) ((Below.refl _ _).alloc (Nat.le_refl _) (.cells (sigV 0 (zs 560) (.slice none 0 0)).toArray 31)))
          have B4 := Lib.hid (blk_new w4 (sigV 0 (zs 560) (.slice none 0 0)) 31)
          have q1 := (HQ.out _ A4.out.2.2).1
          have q2 := (HQ.out _ A4.out.2.2).2.1
          have q3 := (HQ.out _ A4.out.2.2).2.2
          have h4 : g < w4.heap.size := by have := blk_lt A3.out.2.1; have := hb4.size; omega
          have g4 : w.heap.size < w4.heap.size := by omega
          clear hb4
          go_wp2_with fail
          by_cases hr1 : (2 : Int) ^ h < N
          · refine (skip_range _ g N HSS.out lK (by omega) hr1 A4.out.2.1).mono ?_
            rintro e w5 ⟨rfl, rfl⟩
            go_wp2_with fail
            go_roundw
            case rel => exact ⟨nx, k + 1, by omega, by omega, rfl, by go_num, A4.out⟩
            case measure => simp [intOf]; omega
          · by_cases hr2 : N < (nx : Int)
            · refine (skip_seq _ g N HSS.out lK (by omega) (by omega) hr2 A4.out.2.1).mono ?_
              rintro e w5 ⟨rfl, rfl⟩
              go_wp2_with fail
              go_roundw
              case rel => exact ⟨nx, k + 1, by omega, by omega, rfl, by go_num, A4.out⟩
              case measure => simp [intOf]; omega
            · obtain ⟨Nn, rfl⟩ := Int.eq_ofNat_of_zero_le (show 0 ≤ N by omega)
              refine (skip_ok _ g (Nn : Int) HSS.out lK (by omega) (by omega) (by omega) A4.out.2.1).mono ?_
              rintro e w5 ⟨rfl, hB5, hg5⟩
              have A6 := Lib.hid (show AtO w g h seed KR (Nn : Int) w5 from ⟨blk_grown A4.out.1 hg5 (by simp; omega), hB5, A4.out.2.2.grown hg5 A4.out.2.2.size (fun j hj => by cases hj; omega)⟩)
              have q6 := (HQ.out _ A6.out.2.2).2.1
              clear hB5 hg5
              go_wp2_with fail
              go_roundw
              case rel => exact ⟨Nn, k + 1, by omega, by omega, rfl, by go_num, A6.out⟩
              case measure => simp [intOf]; omega
        · go_wp2_with fail
          refine (next_at _ g HSS.out lK A1.out.2.1).mono ?_
          rintro e w3 ⟨rfl, hb3⟩
          have A3 := Lib.hid (AtO_keep A1.out hb3)
          clear hb3
          go_wp2_with fail
          refine (left_pos _ g HSS.out lK (by omega) (by omega) (by omega) (by omega) A3.out.2.1).mono ?_
          rintro e w4 ⟨rfl, hb4⟩
          have A4 := Lib.hid (AtO_keep (AtO_keep A3.out hb4) ((Below.refl _ _).alloc (Nat.le_refl _) (.cells (sigV 0 (zs 560) (.slice none 0 0)).toArray 31)))
          have B4 := Lib.hid (blk_new w4 (sigV 0 (zs 560) (.slice none 0 0)) 31)
          have q1 := (HQ.out _ A4.out.2.2).1
          have q2 := (HQ.out _ A4.out.2.2).2.1
          have q3 := (HQ.out _ A4.out.2.2).2.2
          have h4 : g < w4.heap.size := by have := blk_lt A3.out.2.1; have := hb4.size; omega
          have g4 : w.heap.size < w4.heap.size := by omega
          clear hb4
          go_wp2_with fail
          by_cases hr1 : (2 : Int) ^ h < N
          · refine (skip_range _ g N HSS.out lK (by omega) hr1 A4.out.2.1).mono ?_
            rintro e w5 ⟨rfl, rfl⟩
            go_wp2_with fail
            go_roundw
            case rel => exact ⟨nx, k + 1, by omega, by omega, rfl, by go_num, A4.out⟩
            case measure => simp [intOf]; omega
          · by_cases hr2 : N < (nx : Int)
            · refine (skip_seq _ g N HSS.out lK (by omega) (by omega) hr2 A4.out.2.1).mono ?_
              rintro e w5 ⟨rfl, rfl⟩
              go_wp2_with fail
              go_roundw
              case rel => exact ⟨nx, k + 1, by omega, by omega, rfl, by go_num, A4.out⟩
              case measure => simp [intOf]; omega
            · obtain ⟨Nn, rfl⟩ := Int.eq_ofNat_of_zero_le (show 0 ≤ N by omega)
              refine (skip_ok _ g (Nn : Int) HSS.out lK (by omega) (by omega) (by omega) A4.out.2.1).mono ?_
              rintro e w5 ⟨rfl, hB5, hg5⟩
              have A6 := Lib.hid (show AtO w g h seed KR (Nn : Int) w5 from ⟨blk_grown A4.out.1 hg5 (by simp; omega), hB5, A4.out.2.2.grown hg5 A4.out.2.2.size (fun j hj => by cases hj; omega)⟩)
              have q6 := (HQ.out _ A6.out.2.2).2.1
              clear hB5 hg5
              go_wp2_with fail
              go_roundw
              case rel => exact ⟨Nn, k + 1, by omega, by omega, rfl, by go_num, A6.out⟩
              case measure => simp [intOf]; omega
    · obtain rfl : k = n := by omega
      clear hk2
      go_wp2_with fail
      refine (next_at _ g HSS.out lK A1.out.2.1).mono ?_
      rintro e w3 ⟨rfl, hb3⟩
      have A3 := Lib.hid (AtO_keep A1.out hb3)
      clear hb3
      go_wp2_with fail
      go_ret
      exact ⟨by simp, A3.out.2.2⟩
end Go.Proofs.YtlgpipdeckdmjaaGreat.Rm
