/-
  No cell of these rows narrows 'for every input' (looked for: loops, veiled, ifaces, maps, wideKeys, modest, calm, conditions, laid).
  DERIVED. THE GIVEN ROWS OF THIS SEAT. 4 by the template 'for every input the law returns true; each argument reads behind the call as it read before'; 0 by the template 'total and deterministic' (their statements: YtlgpipdeckdmjaaGreatTotals.lean).
  GIVEN WITH THE SEED: the statements are not yours to turn. If you find one false, say at which input.
  Laid BY PROGRAM, IN A SANDBOX (cutbox-rows.mjs): the forced cells as the released guide's own fill.sh prints them over the translation ea1f10919710e476… (all of the seat's roots in one cut). By AI agents, Wed Nov 11 2026. No macro, syntax, notation, axiom, sorry.
-/
import Derived.Test.YtlgpipdeckdmjaaGreatChecked
import GoSem.Claim
import GoSem.ClaimJoined
import GoSem.ClaimMapViews
import Derived.JoinedTies
import Derived.KernelRfl
namespace Go.Proofs.YtlgpipdeckdmjaaGreat
/- THE CELL 'sum', in the pinned program and in every row, IS THE sha256 OF THE DUMP (.gsa) THAT YtlgpipdeckdmjaaGreatProg.lean LOADS. Nothing in Lean hashes anything: it is a label: what it is worth is what the hold of that sum in a sandbox is worth. -/
noncomputable def Tryz.pinned : Pinned := { name := "ytlgpipdeckdmjaagreat", sum := "ea1f10919710e476061fcb266a75d98a32999104a8c353f3e7eca1291747e543", checked := Tryz.checked }
namespace Rows
def none {H : Type} : Left H := { results := [], args := [] }

/-- 'bulletinlaw08.SignerSign': WHATEVER THE INPUT: true; the input reads as it did. -/
def signerSignSpec : ChangeSpec := { name := "signerSign", fn := fun _ => fun
  | [d1, d2, d3, d4] => { results := [.lit (.bool true)], args := [d1, d2, d3, d4] }
  | _ => none }
def signerSignRow : OpenClaim := { program := "ytlgpipdeckdmjaagreat", sum := "ea1f10919710e476061fcb266a75d98a32999104a8c353f3e7eca1291747e543", func := "bulletin/bulletinlaw08.SignerSign", spec := "signerSign", inPlace := ["internal/abi.NoEscape"], unfollowed := true, recurses := true, apart := false }
def SignerSignSaid : Prop := signerSignRow.holds Tryz.pinned (OpenSpec.ofChange signerSignSpec)

/-- ITS FALSE NEIGHBOUR: 'it returns false'. Refute it at one input. -/
def signerSignWrong : ChangeSpec := { name := "signerSign", fn := fun _ => fun
  | [d1, d2, d3, d4] => { results := [.lit (.bool false)], args := [d1, d2, d3, d4] }
  | _ => none }
def SignerSignWrongFalsely : Prop := signerSignRow.holds Tryz.pinned (OpenSpec.ofChange signerSignWrong)

/-- 'bulletinlaw08.SignerVerify': WHATEVER THE INPUT: true; the input reads as it did. -/
def signerVerifySpec : ChangeSpec := { name := "signerVerify", fn := fun _ => fun
  | [d1, d2, d3, d4] => { results := [.lit (.bool true)], args := [d1, d2, d3, d4] }
  | _ => none }
def signerVerifyRow : OpenClaim := { program := "ytlgpipdeckdmjaagreat", sum := "ea1f10919710e476061fcb266a75d98a32999104a8c353f3e7eca1291747e543", func := "bulletin/bulletinlaw08.SignerVerify", spec := "signerVerify", inPlace := ["internal/abi.NoEscape"], unfollowed := true, recurses := true, apart := false }
def SignerVerifySaid : Prop := signerVerifyRow.holds Tryz.pinned (OpenSpec.ofChange signerVerifySpec)

/-- ITS FALSE NEIGHBOUR: 'it returns false'. Refute it at one input. -/
def signerVerifyWrong : ChangeSpec := { name := "signerVerify", fn := fun _ => fun
  | [d1, d2, d3, d4] => { results := [.lit (.bool false)], args := [d1, d2, d3, d4] }
  | _ => none }
def SignerVerifyWrongFalsely : Prop := signerVerifyRow.holds Tryz.pinned (OpenSpec.ofChange signerVerifyWrong)

/-- 'bulletinlaw08.SignerKeys': WHATEVER THE INPUT: true; the input reads as it did. -/
def signerKeysSpec : ChangeSpec := { name := "signerKeys", fn := fun _ => fun
  | [d1, d2, d3] => { results := [.lit (.bool true)], args := [d1, d2, d3] }
  | _ => none }
def signerKeysRow : OpenClaim := { program := "ytlgpipdeckdmjaagreat", sum := "ea1f10919710e476061fcb266a75d98a32999104a8c353f3e7eca1291747e543", func := "bulletin/bulletinlaw08.SignerKeys", spec := "signerKeys", inPlace := ["internal/abi.NoEscape"], unfollowed := true, recurses := true, apart := false }
def SignerKeysSaid : Prop := signerKeysRow.holds Tryz.pinned (OpenSpec.ofChange signerKeysSpec)

/-- ITS FALSE NEIGHBOUR: 'it returns false'. Refute it at one input. -/
def signerKeysWrong : ChangeSpec := { name := "signerKeys", fn := fun _ => fun
  | [d1, d2, d3] => { results := [.lit (.bool false)], args := [d1, d2, d3] }
  | _ => none }
def SignerKeysWrongFalsely : Prop := signerKeysRow.holds Tryz.pinned (OpenSpec.ofChange signerKeysWrong)

/-- 'bulletinlaw08.SignerOnce': WHATEVER THE INPUT: true; the input reads as it did. -/
def signerOnceSpec : ChangeSpec := { name := "signerOnce", fn := fun _ => fun
  | [d1, d2, d3, d4] => { results := [.lit (.bool true)], args := [d1, d2, d3, d4] }
  | _ => none }
def signerOnceRow : OpenClaim := { program := "ytlgpipdeckdmjaagreat", sum := "ea1f10919710e476061fcb266a75d98a32999104a8c353f3e7eca1291747e543", func := "bulletin/bulletinlaw08.SignerOnce", spec := "signerOnce", inPlace := ["internal/abi.NoEscape"], unfollowed := true, recurses := true, apart := false }
def SignerOnceSaid : Prop := signerOnceRow.holds Tryz.pinned (OpenSpec.ofChange signerOnceSpec)

/-- ITS FALSE NEIGHBOUR: 'it returns false'. Refute it at one input. -/
def signerOnceWrong : ChangeSpec := { name := "signerOnce", fn := fun _ => fun
  | [d1, d2, d3, d4] => { results := [.lit (.bool false)], args := [d1, d2, d3, d4] }
  | _ => none }
def SignerOnceWrongFalsely : Prop := signerOnceRow.holds Tryz.pinned (OpenSpec.ofChange signerOnceWrong)

/- THE SECOND FORM. 'bulk': how many values and letters a reading holds, each counted each time it is reached (what is shared counts as often as it is met; a slice's spare places count too). A statement '..UptoSaid' is the law's where the arguments, and the package variables that the reading takes, are together of bulk at most 1048576: NARROWER than '..Said'. Prove '..Said' where nothing that the law and all that it calls make is longer than what came in: it says more and counts as full. Else prove '..UptoSaid'. A law counts once. -/
mutual
def uptoBulk {H : Type} : DataW H → Nat
  | .lit (.string bytes) => bytes.length + 1
  | .lit _ => 1
  | .nil => 1
  | .ptr d => uptoBulk d + 1
  | .slice elems spare => uptoBulkAll elems + uptoBulkAll spare + 1
  | .agg parts => uptoBulkAll parts + 1
  | .iface _ d => uptoBulk d + 1
  | .map entries => uptoBulkEntries entries + 1
  | .held _ => 1
def uptoBulkAll {H : Type} : List (DataW H) → Nat
  | [] => 0
  | d :: r => uptoBulk d + uptoBulkAll r
def uptoBulkEntries {H : Type} : List (Lit × DataW H) → Nat
  | [] => 0
  | x :: r => uptoBulkEntry x + uptoBulkEntries r
def uptoBulkEntry {H : Type} : Lit × DataW H → Nat
  | (.string bytes, d) => bytes.length + uptoBulk d + 1
  | (_, d) => uptoBulk d + 1
 end
def uptoSmall : (H : Type) → List (DataW H) → Bool := fun _ ds => decide (uptoBulkAll ds ≤ 1048576)
def OpenSpec.upto (s : _root_.Go.ChangeSpec) : _root_.Go.OpenSpec := { _root_.Go.OpenSpec.ofChange s with cond := some uptoSmall }

/-- 'bulletinlaw08.SignerSign', WHERE WHAT IT READS IS OF BULK AT MOST 1048576: true; the input reads as it did. -/
def signerSignUptoRow : OpenClaim := { program := "ytlgpipdeckdmjaagreat", sum := "ea1f10919710e476061fcb266a75d98a32999104a8c353f3e7eca1291747e543", func := "bulletin/bulletinlaw08.SignerSign", spec := "signerSign", inPlace := ["internal/abi.NoEscape"], unfollowed := true, recurses := true, apart := false, narrowed := true }
def SignerSignUptoSaid : Prop := signerSignUptoRow.holds Tryz.pinned (OpenSpec.upto signerSignSpec)

/-- 'bulletinlaw08.SignerVerify', WHERE WHAT IT READS IS OF BULK AT MOST 1048576: true; the input reads as it did. -/
def signerVerifyUptoRow : OpenClaim := { program := "ytlgpipdeckdmjaagreat", sum := "ea1f10919710e476061fcb266a75d98a32999104a8c353f3e7eca1291747e543", func := "bulletin/bulletinlaw08.SignerVerify", spec := "signerVerify", inPlace := ["internal/abi.NoEscape"], unfollowed := true, recurses := true, apart := false, narrowed := true }
def SignerVerifyUptoSaid : Prop := signerVerifyUptoRow.holds Tryz.pinned (OpenSpec.upto signerVerifySpec)

/-- 'bulletinlaw08.SignerKeys', WHERE WHAT IT READS IS OF BULK AT MOST 1048576: true; the input reads as it did. -/
def signerKeysUptoRow : OpenClaim := { program := "ytlgpipdeckdmjaagreat", sum := "ea1f10919710e476061fcb266a75d98a32999104a8c353f3e7eca1291747e543", func := "bulletin/bulletinlaw08.SignerKeys", spec := "signerKeys", inPlace := ["internal/abi.NoEscape"], unfollowed := true, recurses := true, apart := false, narrowed := true }
def SignerKeysUptoSaid : Prop := signerKeysUptoRow.holds Tryz.pinned (OpenSpec.upto signerKeysSpec)

/-- 'bulletinlaw08.SignerOnce', WHERE WHAT IT READS IS OF BULK AT MOST 1048576: true; the input reads as it did. -/
def signerOnceUptoRow : OpenClaim := { program := "ytlgpipdeckdmjaagreat", sum := "ea1f10919710e476061fcb266a75d98a32999104a8c353f3e7eca1291747e543", func := "bulletin/bulletinlaw08.SignerOnce", spec := "signerOnce", inPlace := ["internal/abi.NoEscape"], unfollowed := true, recurses := true, apart := false, narrowed := true }
def SignerOnceUptoSaid : Prop := signerOnceUptoRow.holds Tryz.pinned (OpenSpec.upto signerOnceSpec)

end Rows
end Go.Proofs.YtlgpipdeckdmjaaGreat
