/-
  SHA-256 as the program has it: the bytes that are taken in.
-/
import Derived.Test.YtlgpipdeckdmjaaSha4
import Derived.Test.YtlgpipdeckdmjaaSlice
set_option linter.unusedVariables false
set_option linter.unusedSimpArgs false
namespace Go.Proofs.Ytlgpipdeckdmjaa.Sha
open Go.RowKit Base Reg Types Slice
/-- All complete blocks, one after another; what is left. -/
def absorb (s l : List Nat) : List Nat × List Nat := if l.length < 64 then (s, l) else absorb (process s (words l)) (l.drop 64)
termination_by l.length
decreasing_by simp; omega
theorem absorb_end (s l : List Nat) (h : l.length < 64) : absorb s l = (s, l) := by rw [absorb, if_pos h]
theorem absorb_step (s l : List Nat) (h : ¬ l.length < 64) : absorb s l = absorb (process s (words l)) (l.drop 64) := by rw [absorb, if_neg h]
theorem process_length (s b : List Nat) : (process s b).length = 8 := by unfold process; exact addS_length _ _
theorem words_length (l : List Nat) : (words l).length = 16 := by simp [words]
/-- The cells of a Hash. -/
def hc (s : List Nat) (rest : Value) (n : Int) : List Value := cl .u32 s ++ [rest, .int .i64 n, .bool true]
/-- The Hash in block g. -/
abbrev HB (w : World) (g : Nat) (s : List Nat) (rest : Value) (n : Int) : Prop := blk w g (hc s rest n) 200
section
variable {w : World} {g : Nat} {s : List Nat} {rest : Value} {n : Int}
theorem hc_length (hs : s.length = 8) : (hc s rest n).length = 11 := by simp [hc, cl_length, hs]
theorem HB.c8 (h : HB w g s rest n) (hs : s.length = 8) : w.cell? ⟨g, 8, none⟩ = some rest := by rw [blk_cell h]; simp [hc, List.getElem?_append_right, cl_length, hs]
theorem HB.c9 (h : HB w g s rest n) (hs : s.length = 8) : w.cell? ⟨g, 9, none⟩ = some (.int .i64 n) := by rw [blk_cell h]; simp [hc, List.getElem?_append_right, cl_length, hs]
theorem HB.c10 (h : HB w g s rest n) (hs : s.length = 8) : w.cell? ⟨g, 10, none⟩ = some (.bool true) := by rw [blk_cell h]; simp [hc, List.getElem?_append_right, cl_length, hs]
theorem HB.ld (h : HB w g s rest n) (hs : s.length = 8) : ldGot Try.prog 197 g 8 w (bk w g) = .ok (agg .u32 s) w := by
  have := ld_part (P := Try.prog) (ty := 197) (n := 8) (d := (Try.prog.underlying 197).get (by kernel_rfl)) h (by kernel_rfl) (by kernel_rfl) (by kernel_rfl) (by rw [hc_length hs]; omega)
  rw [this]
  have e : (hc s rest n).take 8 = cl .u32 s := by unfold hc; rw [List.take_left' (by rw [cl_length, hs])]
  rw [e]
theorem HB.st (h : HB w g s rest n) (hs : s.length = 8) (s' : List Nat) (hs' : s'.length = 8) : stGot Try.prog 197 g 8 (agg .u32 s') w (bk w g) = .ok () (w.setRow g (hc s' rest n).toArray) := by
  have := st_part (P := Try.prog) (ty := 197) (n := 8) (vs := cl .u32 s') h (by kernel_rfl) (by rw [cl_length, hs']) (by rw [hc_length hs]; omega) (cl_one _ _)
  rw [this]
  have e : (hc s rest n).drop 8 = [rest, .int .i64 n, .bool true] := by unfold hc; rw [List.drop_left' (by rw [cl_length, hs])]
  rw [e]
  rfl
end
/-- A slice's length, for a measure. -/
def slen : Value → Nat
  | .slice _ n _ => n
  | _ => 0

/-- Where the loop stands: the state and the bytes that are left. -/
def At5 (w : World) (g : Nat) (rest : Value) (n : Int) (s1 : List Nat) (v1 : Value) (l1 : List Nat) (wr : World) : Prop :=
  HB wr g s1 rest n ∧ Sl wr v1 l1 ∧ w.grownBy wr (some g) ∧ (∀ b, v1.ownBlock = some b → w.heap.size ≤ b)
theorem grown_below {w w' w'' : World} {r : Option Nat} (h : w.grownBy w' r) (hb : Below w'.heap.size w' w'') : w.grownBy w'' r := by
  obtain ⟨h1, h2, h3, h4, h5⟩ := h
  exact ⟨hb.os.trans h1, hb.tape.trans h2, hb.output.trans h3, Nat.le_trans h4 hb.size, fun k hk hr => (hb.block k (Nat.lt_of_lt_of_le hk h4)).trans (h5 k hk hr)⟩
theorem At5.drew {w : World} {g : Nat} {rest : Value} {n : Int} {s1 : List Nat} {v1 : Value} {l1 : List Nat} {wr : World} (h : At5 w g rest n s1 v1 l1 wr) : At5 w g rest n s1 v1 l1 wr.drew := ⟨blk_drew h.1, h.2.1.keep (Below.refl _ _).drew, grown_below h.2.2.1 (Below.refl _ _).drew, h.2.2.2⟩
theorem At5.below {w : World} {g : Nat} {rest : Value} {n : Int} {s1 : List Nat} {v1 : Value} {l1 : List Nat} {W W' : World} (h : At5 w g rest n s1 v1 l1 W) (hb : Below W.heap.size W W') : At5 w g rest n s1 v1 l1 W' :=
  ⟨blk_keep h.1 hb, h.2.1.keep hb, grown_below h.2.2.1 hb, h.2.2.2⟩
theorem own_block {w : World} {base : Nat} {v : Value} {l : List Nat} (h : Own w base v l) : ∀ b, v.ownBlock = some b → base ≤ b := by
  rcases h.2 with ⟨rfl, _⟩ | ⟨g, cap, cur, rfl, hb, _⟩
  · intro b hb; cases hb
  · intro b h; cases h; exact hb
theorem slen_own {w : World} {base : Nat} {v : Value} {l : List Nat} (h : Own w base v l) : slen v = l.length := by
  rcases h.2 with ⟨rfl, h2⟩ | ⟨g, cap, cur, rfl, _⟩
  · simp [slen, h2]
  · rfl
theorem Sl.slen_eq {w : World} {v : Value} {l : List Nat} (h : Sl w v l) : slen v = l.length := by
  obtain ⟨A, c, rfl, _⟩ := h
  rfl
theorem load_sl {w : World} {v : Value} {l : List Nat} (h : Sl w v l) (h64 : 64 ≤ l.length) (hm : l.length ≤ 4294967296) :
    Calls Try.prog 141 #[v] w fun e w' => e = .returned (agg .u32 (words l)) ∧ Below w.heap.size w w' := by
  obtain ⟨A, c, rfl, hc, -, hn, hr⟩ := h
  cases A with
  | none => have := hn rfl; omega
  | some ad =>
    obtain ⟨b, o, rfl, hlt, hcell⟩ := hr _ rfl
    exact load b o l.length c l w h64 rfl hlt hm (fun j hj => hcell j _ (cl_get .u8 l j hj))
theorem take_calls (g : Nat) (s : List Nat) (hs : s.length = 8) (rest x : Value) (n : Int) (rl l : List Nat) (w : World) (hH : HB w g s rest n) (hr : Sl w rest rl) (hx : Sl w x l) (hm : rl.length + l.length ≤ 1048576) :
    Calls Try.prog 137 #[.pointer (some ⟨g, 0, none⟩), x] w fun e w' => e = .returned (.tuple #[]) ∧ w.grownBy w' (some g) ∧
      ∃ rest', HB w' g (absorb s (rl ++ l)).1 rest' n ∧ Sl w' rest' (absorb s (rl ++ l)).2 ∧ (∀ b, rest'.ownBlock = some b → w.heap.size ≤ b) := by
  have hlt := blk_lt hH
  have c10 := hH.c10 hs
  have c8 := hH.c8 hs
  go_enter Try.func137, Try.ntmps137
  have HR := Lib.hid hr
  have HX := Lib.hid hx
  have HH := Lib.hid hH
  clear hr hx hH
  go_wp2_with (first
    | (at_builtin; refine wpList_append_bytes rfl (.tmp 17) (.tmp 21) rfl rfl rfl (own_empty w) (HR.out.keep ((Below.refl _ _).alloc (Nat.le_refl _) _)) (by simp; omega) (by simp) ?_; intro v1 w1 ho1 hg1; have hb1 := ((Below.refl w.heap.size w).alloc (Nat.le_refl _) _).grown hg1 (by simp) (by intro k hk; have : w.heap.size = k := (by simpa [Act.eval, Value.ownBlock] using hk); omega))
    | (at_builtin; refine wpList_append_bytes rfl (.tmp 22) (.tmp 23) rfl rfl rfl ho1 (HX.out.keep hb1) (by simp; omega) hb1.size ?_; intro v2 w2 ho2 hg2))
  have hg : w.grownBy w2 (some g) := by
    have h1 : Below w.heap.size w w2 := hb1.grown hg2 hb1.size (by intro k hk; exact own_block ho1 k (by simpa [Act.eval] using hk))
    exact ⟨h1.os, h1.tape, h1.output, h1.size, fun k hk _ => h1.block k hk⟩
  have A0 : At5 w g rest n s v2 (rl ++ l) w2 := ⟨blk_below HH.out (hb1.grown hg2 hb1.size (by intro k hk; exact own_block ho1 k (by simpa [Act.eval] using hk))) hlt, by have := SlC.of_own ho2; rw [List.nil_append] at this; exact this, hg, own_block ho2⟩
  clear ho1 ho2 hg1 hg2 hb1 hg
  go_loopw [4] (fun v wr => ∃ s1 l1, s1.length = 8 ∧ l1.length ≤ 1048576 ∧ absorb s1 l1 = absorb s (rl ++ l) ∧ At5 w g rest n s1 v l1 wr) (fun v _ => slen v)
  case atStart => exact ⟨s, rl ++ l, hs, by simp; omega, rfl, A0⟩
  case round =>
    obtain ⟨s1, l1, hs1, hl1, hab, hA⟩ := hrel
    clear A0
    obtain ⟨A, c, rfl, hcap, -, hnil, hr⟩ := hA.2.1
    by_cases h64 : 64 ≤ l1.length
    · cases A with
      | none => have := hnil rfl; omega
      | some ad =>
        obtain ⟨b, o, rfl, hlb, hcell⟩ := hr _ rfl
        have i1 : (64 : Int) ≤ (l1.length : Int) := by omega
        clear hr hcell hnil
        go_wp2
        obtain ⟨ι, F, hF, hin⟩ := class_of (At5 w g rest n s1 (.slice (some ⟨b, o, none⟩) l1.length c) l1)
        have h0 := hin _ hA.drew
        have hne : Nonempty ι := ⟨h0.choose⟩
        have q1 : ∀ i, ldGot Try.prog 197 g 8 (F i) (bk (F i) g) = .ok (agg .u32 s1) (F i) := fun i => (hF i).1.ld hs1
        have q2 : ∀ i, stGot Try.prog 197 g 8 (agg .u32 (process s1 (words l1))) (F i) (bk (F i) g) = .ok () ((F i).setRow g (hc (process s1 (words l1)) rest n).toArray) := fun i => (hF i).1.st hs1 _ (process_length _ _)
        have HF := Lib.hid hF
        have HI := Lib.hid hin
        clear hF hin
        refine wp_region_tail F 10 (by kernel_rfl) (by kernel_rfl) h0 ?_
        clear h0 hA
        simp only [List.take_succ_cons, List.take_zero, List.drop_succ_cons, List.drop_zero]
        repeat (go_big_quiet_step (first
          | (go_at_call 141; exact quiet_below HF.out HI.out (fun _ _ => At5.below) (load_sl (HF.out _).2.1 h64 (by omega)))
          | (go_at_call 140; exact quiet_below HF.out HI.out (fun _ _ => At5.below) (process_calls _ _ hs1 (words_length _) _))))
        refine wpQuiet_nil ?_
        intro i
        go_wp2
        have hb := (HF.out i).2.2.2 b rfl
        refine ⟨⟨process s1 (words l1), l1.drop 64, process_length _ _, by simp; omega, by rw [← hab, absorb_step s1 l1 (by omega)], ?_, ?_, ?_, ?_⟩, by simp [slen]; omega⟩
        · exact blk_setRow (HF.out i).1 _
        · exact ((HF.out i).2.1.drop h64).keepBy (by simp) (fun b' hb' => by
            have : b' = b := by
              by_cases hck : c = 64 <;> simp [Value.ownBlock, hck] at hb' <;> exact hb'.symm
            subst this
            exact setRow_other _ _ _ _ (by omega))
        · obtain ⟨h1, h2, h3, h4, h5⟩ := (HF.out i).2.2.1
          exact ⟨h1, h2, h3, by simpa using h4, fun k hk hr => (setRow_other _ _ _ _ (by simp at hr; omega)).trans (h5 k hk hr)⟩
        · intro b' hb'
          have : b' = b := by
              by_cases hck : c = 64 <;> simp [Value.ownBlock, hck] at hb' <;> exact hb'.symm
          omega
    · have hA2 := Lib.hid hA
      have f1 := hA.1.c8 hs1
      have f2 : wr.frozen? ⟨g, 8, none⟩ = false := blk_free hA.1 _
      have i1 : ¬ (64 : Int) ≤ (l1.length : Int) := by omega
      clear hA hr hnil
      go_wp2
      go_end0
      have hA := hA2.out
      have hab1 := absorb_end s1 l1 (by omega)
      rw [hab1] at hab
      obtain ⟨h1, h2, h3, h4, h5⟩ := hA.2.2.1
      refine ⟨rfl, ⟨h1, h2, h3, by simpa using h4, fun k hk hr => (Below.heap_setCell _ _ _ _ (by simp at hr; simpa using hr)).trans (h5 k hk hr)⟩, .slice A l1.length c, ?_, ?_, hA.2.2.2⟩
      · rw [← hab]
        have h := blk_setCell hA.1 8 (.slice A l1.length c)
        have e : (hc s1 rest n).set 8 (.slice A l1.length c) = hc s1 (.slice A l1.length c) n := by simp [hc, List.set_append, cl_length, hs1]
        rw [e] at h
        exact h
      · rw [← hab]
        exact hA.2.1.keepBy (by simp) (fun b hb => Below.heap_setCell _ _ _ _ (by have := hA.2.2.2 b hb; simp; omega))
end Go.Proofs.Ytlgpipdeckdmjaa.Sha
