/-
  Several texts laid into one (merge.py): Open4, NilWalk, NilProof.
-/
import Derived.Test.YtlgpipdeckdmjaaNl02
import Derived.Test.YtlgpipdeckdmjaaNl22
import Derived.Test.YtlgpipdeckdmjaaRows
import Derived.WalkKit
import Derived.ProofKit
import Derived.OpenShut
import Derived.ShutString
import Derived.ChangeOld
import Derived.Below
/-
  A signature that comes in, opened. No program.
-/
set_option linter.unusedVariables false
set_option linter.unusedSimpArgs false
namespace Go.Proofs.Ytlgpipdeckdmjaa.Opened
open Go.ChangeShapes Go.WideShapes Go.ChangeAt Go.RowKit Base
open Go.Proofs.Ytlgpipdeckdmjaa.Str Go.Proofs.Ytlgpipdeckdmjaa.Mer
/-- A list cut into rows of 16. -/
def cut16 : Nat → List Nat → List (List Nat)
  | 0, _ => []
  | n + 1, l => l.take 16 :: cut16 n (l.drop 16)
theorem cut16_flatten : ∀ (n : Nat) (l : List Nat), l.length = n * 16 → (cut16 n l).flatten = l
  | 0, l, h => by
    have : l = [] := List.eq_nil_of_length_eq_zero (by omega)
    subst this
    rfl
  | n + 1, l, h => by rw [cut16, List.flatten_cons, cut16_flatten n (l.drop 16) (by rw [List.length_drop]; omega), List.take_append_drop]
theorem cut16_length : ∀ (n : Nat) (l : List Nat), (cut16 n l).length = n
  | 0, _ => rfl
  | n + 1, l => by rw [cut16, List.length_cons, cut16_length n]
theorem cut16_16 : ∀ (n : Nat) (l : List Nat), l.length = n * 16 → N16 (cut16 n l)
  | 0, l, _ => fun x hx => by cases hx
  | n + 1, l, h => fun x hx => by
    rcases List.mem_cons.1 hx with rfl | hx
    · rw [List.length_take]; omega
    · exact cut16_16 n (l.drop 16) (by rw [List.length_drop]; omega) x hx
theorem rd_sln {w : World} {v : Value} {n : Nat} {l : List Nat} (h : Rd w 16 v n (cl .u8 l)) (hl : l.length = n * 16) (ha : ∀ ad k c, v = .slice (some ad) k c → ad.spot = none ∧ ad.block < w.heap.size) : SlN w v (cut16 n l) := by
  obtain ⟨A, c, rfl, hc, hm, hx, hn, hr⟩ := h
  refine ⟨A, c, by rw [cut16_length], by rw [cut16_length]; exact hc, by rw [cut16_length, cut16_flatten n l hl]; exact hx, hn, fun ad had => ?_⟩
  rw [cut16_flatten n l hl]
  subst had
  obtain ⟨h1, h2⟩ := ha ad n c rfl
  obtain ⟨b, o, sp⟩ := ad
  simp only at h1 h2
  subst h1
  refine ⟨b, o, rfl, h2, fun j u hj => ?_⟩
  by_cases h0 : 0 < n
  · obtain ⟨b', o', hA, hlt, hcell⟩ := hr h0
    cases hA
    exact hcell j u hj
  · have : l = [] := List.eq_nil_of_length_eq_zero (by omega)
    subst this
    cases hj
section
variable {H : Type} {enc : TypeId × Value → H} {P : Program} {w : World} {base : Nat} {spare : Nat → Bool} {held : Bool} {t e u : TypeId} {v : Value}
theorem open_sig {r : Reach} {d : DataW H} {pl : List MemPlace} {f0 f1 f2 : Field} (ht : P.underlying t = some (.struct #[f0, f1, f2])) (hcs : P.cellsOf t = 562) (o0 : f0.offset = 0) (o1 : f1.offset = 1) (o2 : f2.offset = 561) (c0 : P.cellsOf f0.type = 1) (c1 : P.cellsOf f1.type = 560) (c2 : P.cellsOf f2.type = 1)
    (u0 : P.underlying f0.type = some (.int .i64)) (u1 : P.underlying f1.type = some (.array 35 e)) (he : P.underlying e = some (.array 16 u)) (hu : P.underlying u = some (.int .u8)) (hcu : P.cellsOf u = 1) (hce : P.cellsOf e = 16) (u2 : P.underlying f2.type = some (.slice e))
    (hts : (P.cellTypes P.depth t).map (fun ts => (ts.length, ts[561]?)) = some (562, some f2.type))
    {b0 : Nat} (hval : Value.okWide P w r b0 t v) (hd : DataW.Trod enc P w base spare held t v d pl) :
    ∃ (l : Int) (ch : List Nat) (p : Value) (ps : List (List Nat)), v = .agg (sigV l ch p).toArray ∧ (Lit.int .i64 l).wf = true ∧ ch.length = 560 ∧ By8 ch ∧ SlN w p ps ∧ N16 ps ∧ (∀ x ∈ ps.flatten, x < 256) := by
  unfold Value.okWide at hval
  simp only [ht] at hval
  obtain ⟨cs, rfl, hs, ts, h1, _, h3⟩ := hval
  rw [h1] at hts
  simp only [Option.map_some, Option.some.injEq, Prod.mk.injEq] at hts
  obtain ⟨t1, t2⟩ := hts
  obtain ⟨fuel, hf⟩ := hd
  obtain ⟨xs, m, _, hx, hl, hlen, hfd⟩ := DataW.trod_struct ht hf
  have hl' : cs.toList.length = 562 := by rw [← hcs]; exact hl
  have d0 := hfd 0 f0 rfl
  have d1 := hfd 1 f1 rfl
  have d2 := hfd 2 f2 rfl
  rw [o0, c0] at d0
  rw [o1, c1] at d1
  rw [o2, c2] at d2
  rw [show (Value.agg cs).cells.toList = cs.toList from rfl] at d0 d1 d2
  have hx3 : xs.length = 3 := hlen
  rw [List.getElem?_eq_getElem (by omega)] at d0 d1 d2
  obtain ⟨z, hz, _, hwf⟩ := DataW.trod_int u0 d0
  obtain ⟨a1, a2⟩ := cells_rows u1 he hu hcu hce (by rw [c1]) d1
  obtain ⟨ch, e1, e2, e3⟩ := allU8_cl a1
  obtain ⟨p, n, l, g1, g2, g3, g4⟩ := cells_slice u2 he hu hcu hce (by omega) d2
  have hC : cs.toList = sigV z ch p := by
    have h5 : cs.toList = cs.toList.take 1 ++ ((cs.toList.drop 1).take 560 ++ (cs.toList.drop 561).take 1) := by
      have x1 : (cs.toList.drop 561).take 1 = cs.toList.drop 561 := List.take_of_length_le (by rw [List.length_drop, hl']; omega)
      have x2 : (cs.toList.drop 1).take 560 ++ cs.toList.drop 561 = cs.toList.drop 1 := by
        have := List.take_append_drop 560 (cs.toList.drop 1)
        rwa [List.drop_drop] at this
      rw [x1, x2, List.take_append_drop]
    rw [h5, g1, e1]
    have hz' : cs.toList.take 1 = [Value.int .i64 z] := by simpa using hz
    rw [hz']
    rfl
  have hp : cs[561]? = some p := by
    rw [← Array.getElem?_toList]
    have : ((cs.toList.drop 561).take 1)[0]? = some p := by rw [g1]; rfl
    rwa [List.getElem?_take, if_pos (by omega), List.getElem?_drop] at this
  have hok := h3 561 p hp
  rw [t1] at hok
  obtain ⟨q, hq1, hq2⟩ := hok
  rw [show 561 % 562 = 561 from rfl, t2] at hq1
  cases hq1
  refine ⟨z, ch, p, cut16 n l, ?_, hwf, by rw [e2, a2], e3, rd_sln g2 g3 ?_, cut16_16 n l g3, ?_⟩
  · congr 1
    apply Array.ext'
    rw [hC]
  · intro ad k c hv
    subst hv
    unfold Cell.okWide Cell.ok at hq2
    simp only [u2] at hq2
    obtain ⟨_, _, _, h6, row, cells, h7, _⟩ := hq2
    refine ⟨h6, ?_⟩
    unfold World.shape? at h7
    rcases Nat.lt_or_ge ad.block w.heap.size with h8 | h8
    · exact h8
    · simp [Array.getElem?_eq_none h8] at h7
  · rw [cut16_flatten n l g3]
    intro x hx
    obtain ⟨j, hj, rfl⟩ := List.mem_iff_getElem.1 hx
    have := g4 j
    rwa [List.getD_eq_getElem?_getD, List.getElem?_eq_getElem hj] at this
end
end Go.Proofs.Ytlgpipdeckdmjaa.Opened
/-
  SignerNil: the walk, whatever comes in.
-/
set_option linter.unusedVariables false
namespace Go.Proofs.Ytlgpipdeckdmjaa.NilWalk
open Go.RowKit Base Reg Types Slice Sha
open Go.Proofs.Ytlgpipdeckdmjaa.One Go.Proofs.Ytlgpipdeckdmjaa.Str Go.Proofs.Ytlgpipdeckdmjaa.Mer Go.Proofs.Ytlgpipdeckdmjaa.Nil
theorem walk (w : World) (l1 : Int) (x1 : List Nat) (v1 : Value) (ps : List (List Nat)) (l2 : Int) (x2 : List Nat) (v2 : Value) (qs : List (List Nat)) (k : Int)
    (h1 : x1.length = 560) (b1 : Opened.By8 x1) (hp : SlN w v1 ps) (N1 : N16 ps) (f1 : ∀ x ∈ ps.flatten, x < 256) (wl1 : (Lit.int .i64 l1).wf = true) (h2 : x2.length = 560) (b2 : Opened.By8 x2) (hq : SlN w v2 qs) (N2 : N16 qs) (f2 : ∀ x ∈ qs.flatten, x < 256) (wl2 : (Lit.int .i64 l2).wf = true) (wk : (Lit.int .i64 k).wf = true) :
    Calls Try.prog 12 #[.agg (sigV l1 x1 v1).toArray, .agg (sigV l2 x2 v2).toArray, .int .i64 k] w fun e w' => e = .returned (.bool true) ∧ Below w.heap.size w w' := by
  by_cases h : ps.length ≤ 20 ∧ qs.length ≤ 20
  · exact walk_in w l1 l2 k x1 x2 v1 v2 ps qs h1 h2 hp hq N1 N2 h.1 h.2
  · obtain ⟨A1, c1, rfl, -⟩ := hp
    obtain ⟨A2, c2, rfl, -⟩ := hq
    exact walk_out w l1 l2 k x1 x2 A1 A2 ps.length qs.length c1 c2 h1 h2 h
end Go.Proofs.Ytlgpipdeckdmjaa.NilWalk
/-
  SignerNil: the row's step over the walk.
-/
set_option linter.unusedVariables false
namespace Go.Proofs.Ytlgpipdeckdmjaa
namespace NilProof
open Go.ChangeShapes Go.WideShapes Go.ChangeAt Go.RowKit
theorem own : ownKnob Try.prog.godebug = none := by kernel_rfl
theorem laidOut : laidOutB Try.prog = true := by kernel_rfl
set_option maxRecDepth 100000 in
theorem lifted (os : Os) (started : os.Started) (H : Type) (enc : TypeId × Value → H) :
    ReturnsInHanded {} Try.checked os 12 .any (Rows.signerNilSpec.pre6 enc Try.prog Try.f12 Rows.signerNilRow.domain false) (Rows.signerNilSpec.post enc Try.prog Try.f12 false true false false) := by
  refine returnsInHanded_of_change (C := Try.checked) own started (by kernel_rfl) Try.func12
    (ChangeSpec.witness6 (enc := enc) (C := Try.checked) false ⟨#[], #[.agg (Str.sigV 0 (Base.zs 560) (.slice none 0 0)).toArray, .agg (Str.sigV 0 (Base.zs 560) (.slice none 0 0)).toArray, .int .i64 0], []⟩ 8 (by kernel_rfl) (by kernel_rfl) (by kernel_rfl) (by kernel_rfl)) ?_
  intro W base args ds gs before hval0 hW hcnd _
  have hval : ∀ (j : Nat) t v, Try.f12.params[j]? = some t → args[j]? = some v → Value.okWide Try.prog W .any base t v := hval0
  have hW' := hW
  obtain ⟨p, q, hA0, hV, rfl, hfz, hnd⟩ := hW
  have hA : DataW.TrodAll enc Try.prog W 0 (fun _ => true) true Try.f12.params.toList args.toList ds p := hA0
  rw [Try.params12] at hA hval
  obtain ⟨v0, vs0, d0, ds0, p0, q0, hargs, rfl, rfl, h0, r0⟩ := trodAll_cons hA
  obtain ⟨v1, vs1, d1, ds1, p1, q1, rfl, rfl, rfl, h1, r1⟩ := trodAll_cons r0
  obtain ⟨v2, vs2, d2, ds2, p2, q2, rfl, rfl, rfl, h2, r2⟩ := trodAll_cons r1
  obtain ⟨rfl, rfl, rfl⟩ := trodAll_nil r2
  obtain rfl : args = #[v0, v1, v2] := by cases args; simp_all
  obtain ⟨rfl, rfl⟩ := trodVars_none hV
  have k0 := h0
  have lt0 : ∀ x ∈ p0, x.block < W.heap.size := by obtain ⟨m, hm⟩ := k0; exact DataW.trod_lt m _ _ _ hm
  obtain ⟨l0, ch0, pv0, ps0, rfl, wl0, hc0, bc0, hs0, hn0, hb0⟩ := Opened.open_sig Try.underlying61 (by kernel_rfl) (by kernel_rfl) (by kernel_rfl) (by kernel_rfl) (by kernel_rfl) (by kernel_rfl) (by kernel_rfl) Try.underlying3 Try.underlying55 Try.underlying22 Try.underlying5 (by kernel_rfl) (by kernel_rfl) Try.underlying56 (by kernel_rfl) (hval 0 61 v0 rfl rfl) h0
  have k1 := h1
  have lt1 : ∀ x ∈ p1, x.block < W.heap.size := by obtain ⟨m, hm⟩ := k1; exact DataW.trod_lt m _ _ _ hm
  obtain ⟨l1, ch1, pv1, ps1, rfl, wl1, hc1, bc1, hs1, hn1, hb1⟩ := Opened.open_sig Try.underlying61 (by kernel_rfl) (by kernel_rfl) (by kernel_rfl) (by kernel_rfl) (by kernel_rfl) (by kernel_rfl) (by kernel_rfl) Try.underlying3 Try.underlying55 Try.underlying22 Try.underlying5 (by kernel_rfl) (by kernel_rfl) Try.underlying56 (by kernel_rfl) (hval 1 61 v1 rfl rfl) h1
  obtain ⟨a2, rfl, rfl, rfl, w2⟩ := open_int Try.underlying3 (hval 2 3 v2 rfl rfl) h2
  clear hA0 hval0
  refine (NilWalk.walk W l0 ch0 pv0 ps0 l1 ch1 pv1 ps1 a2 hc0 bc0 hs0 hn0 hb0 wl0 hc1 bc1 hs1 hn1 hb1 wl1 w2).mono fun e W' ⟨he, bel⟩ => ?_
  subst he
  exact ⟨_, rfl, _, _, _, [], _, [], hW', trodAll_mk1 (shut_bool Try.underlying4 _), (trodAll_cons_mk (Below.trod laidOut (by kernel_rfl) (of_decide_eq_true (by kernel_rfl)) k0 bel lt0) (trodAll_cons_mk (Below.trod laidOut (by kernel_rfl) (of_decide_eq_true (by kernel_rfl)) k1 bel lt1) (trodAll_cons_mk (shut_int Try.underlying3 w2) trodAll_mk0))), rfl, bel.frame _, fun h => by cases h⟩

theorem over : Rows.signerNilRow.holds Try.pinned (OpenSpec.ofChange Rows.signerNilSpec) :=
  OpenClaim.holds_of_wide 12 Try.f12 rfl rfl rfl rfl rfl rfl rfl ⟨rfl, rfl, rfl, rfl, rfl⟩ rfl rfl rfl rfl rfl (by kernel_rfl) Try.func12 (by kernel_rfl)
    (of_decide_eq_true (by kernel_rfl)) (by unfold Func.isWrapper; first | (rw [if_pos (by decide +kernel)]; kernel_rfl) | (rw [if_neg (by decide +kernel)]; exact ⟨rfl, rfl⟩))
    (fun os started H enc _ => lifted os started H enc)
end NilProof
theorem nilProved : Rows.SignerNilSaid := NilProof.over
end Go.Proofs.Ytlgpipdeckdmjaa
