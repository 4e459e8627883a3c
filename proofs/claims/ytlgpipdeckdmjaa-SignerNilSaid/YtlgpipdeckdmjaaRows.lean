/-
  No cell of these rows narrows 'for every input' (looked for: loops, veiled, ifaces, maps, wideKeys, modest, calm, conditions, laid).
  DERIVED. THE GIVEN ROWS OF THIS SEAT. 11 by the template 'for every input the law returns true; each argument reads behind the call as it read before'; 0 by the template 'total and deterministic' (their statements: YtlgpipdeckdmjaaTotals.lean).
  GIVEN WITH THE SEED: the statements are not yours to turn. If you find one false, say at which input.
  Laid BY PROGRAM, IN A SANDBOX (cutbox-rows.mjs): the forced cells as the released guide's own fill.sh prints them over the translation 0691ee21914611f6… (all of the seat's roots in one cut). By AI agents, Wed Nov 11 2026. No macro, syntax, notation, axiom, sorry.
-/
import Derived.Test.YtlgpipdeckdmjaaChecked
import GoSem.Claim
import GoSem.ClaimJoined
import GoSem.ClaimMapViews
import Derived.JoinedTies
import Derived.KernelRfl
namespace Go.Proofs.Ytlgpipdeckdmjaa
/- THE CELL 'sum', in the pinned program and in every row, IS THE sha256 OF THE DUMP (.gsa) THAT YtlgpipdeckdmjaaProg.lean LOADS. Nothing in Lean hashes anything: it is a label: what it is worth is what the hold of that sum in a sandbox is worth. -/
noncomputable def Try.pinned : Pinned := { name := "ytlgpipdeckdmjaa", sum := "0691ee21914611f6f4a52f8d888aeb762c97af2f6d9dd929b39802d46cc6c56a", checked := Try.checked }
namespace Rows
def none {H : Type} : Left H := { results := [], args := [] }

/-- 'bulletinlaw07.OnetimeDigits': WHATEVER THE INPUT: true; the input reads as it did. -/
def onetimeDigitsSpec : ChangeSpec := { name := "onetimeDigits", fn := fun _ => fun
  | [d1, d2] => { results := [.lit (.bool true)], args := [d1, d2] }
  | _ => none }
def onetimeDigitsRow : OpenClaim := { program := "ytlgpipdeckdmjaa", sum := "0691ee21914611f6f4a52f8d888aeb762c97af2f6d9dd929b39802d46cc6c56a", func := "bulletin/bulletinlaw07.OnetimeDigits", spec := "onetimeDigits", unfollowed := true, recurses := true, apart := false }
def OnetimeDigitsSaid : Prop := onetimeDigitsRow.holds Try.pinned (OpenSpec.ofChange onetimeDigitsSpec)

/-- ITS FALSE NEIGHBOUR: 'it returns false'. Refute it at one input. -/
def onetimeDigitsWrong : ChangeSpec := { name := "onetimeDigits", fn := fun _ => fun
  | [d1, d2] => { results := [.lit (.bool false)], args := [d1, d2] }
  | _ => none }
def OnetimeDigitsWrongFalsely : Prop := onetimeDigitsRow.holds Try.pinned (OpenSpec.ofChange onetimeDigitsWrong)

/-- 'bulletinlaw07.OnetimeOrder': WHATEVER THE INPUT: true; the input reads as it did. -/
def onetimeOrderSpec : ChangeSpec := { name := "onetimeOrder", fn := fun _ => fun
  | [d1, d2, d3] => { results := [.lit (.bool true)], args := [d1, d2, d3] }
  | _ => none }
def onetimeOrderRow : OpenClaim := { program := "ytlgpipdeckdmjaa", sum := "0691ee21914611f6f4a52f8d888aeb762c97af2f6d9dd929b39802d46cc6c56a", func := "bulletin/bulletinlaw07.OnetimeOrder", spec := "onetimeOrder", unfollowed := true, recurses := true, apart := false }
def OnetimeOrderSaid : Prop := onetimeOrderRow.holds Try.pinned (OpenSpec.ofChange onetimeOrderSpec)

/-- ITS FALSE NEIGHBOUR: 'it returns false'. Refute it at one input. -/
def onetimeOrderWrong : ChangeSpec := { name := "onetimeOrder", fn := fun _ => fun
  | [d1, d2, d3] => { results := [.lit (.bool false)], args := [d1, d2, d3] }
  | _ => none }
def OnetimeOrderWrongFalsely : Prop := onetimeOrderRow.holds Try.pinned (OpenSpec.ofChange onetimeOrderWrong)

/-- 'bulletinlaw07.OnetimeSecrets': WHATEVER THE INPUT: true; the input reads as it did. -/
def onetimeSecretsSpec : ChangeSpec := { name := "onetimeSecrets", fn := fun _ => fun
  | [d1, d2, d3] => { results := [.lit (.bool true)], args := [d1, d2, d3] }
  | _ => none }
def onetimeSecretsRow : OpenClaim := { program := "ytlgpipdeckdmjaa", sum := "0691ee21914611f6f4a52f8d888aeb762c97af2f6d9dd929b39802d46cc6c56a", func := "bulletin/bulletinlaw07.OnetimeSecrets", spec := "onetimeSecrets", unfollowed := true, recurses := true, apart := false }
def OnetimeSecretsSaid : Prop := onetimeSecretsRow.holds Try.pinned (OpenSpec.ofChange onetimeSecretsSpec)

/-- ITS FALSE NEIGHBOUR: 'it returns false'. Refute it at one input. -/
def onetimeSecretsWrong : ChangeSpec := { name := "onetimeSecrets", fn := fun _ => fun
  | [d1, d2, d3] => { results := [.lit (.bool false)], args := [d1, d2, d3] }
  | _ => none }
def OnetimeSecretsWrongFalsely : Prop := onetimeSecretsRow.holds Try.pinned (OpenSpec.ofChange onetimeSecretsWrong)

/-- 'bulletinlaw07.OnetimeSteps': WHATEVER THE INPUT: true; the input reads as it did. -/
def onetimeStepsSpec : ChangeSpec := { name := "onetimeSteps", fn := fun _ => fun
  | [d1, d2, d3] => { results := [.lit (.bool true)], args := [d1, d2, d3] }
  | _ => none }
def onetimeStepsRow : OpenClaim := { program := "ytlgpipdeckdmjaa", sum := "0691ee21914611f6f4a52f8d888aeb762c97af2f6d9dd929b39802d46cc6c56a", func := "bulletin/bulletinlaw07.OnetimeSteps", spec := "onetimeSteps", unfollowed := true, recurses := true, apart := false }
def OnetimeStepsSaid : Prop := onetimeStepsRow.holds Try.pinned (OpenSpec.ofChange onetimeStepsSpec)

/-- ITS FALSE NEIGHBOUR: 'it returns false'. Refute it at one input. -/
def onetimeStepsWrong : ChangeSpec := { name := "onetimeSteps", fn := fun _ => fun
  | [d1, d2, d3] => { results := [.lit (.bool false)], args := [d1, d2, d3] }
  | _ => none }
def OnetimeStepsWrongFalsely : Prop := onetimeStepsRow.holds Try.pinned (OpenSpec.ofChange onetimeStepsWrong)

/-- 'bulletinlaw07.OnetimeParts': WHATEVER THE INPUT: true; the input reads as it did. -/
def onetimePartsSpec : ChangeSpec := { name := "onetimeParts", fn := fun _ => fun
  | [d1, d2, d3] => { results := [.lit (.bool true)], args := [d1, d2, d3] }
  | _ => none }
def onetimePartsRow : OpenClaim := { program := "ytlgpipdeckdmjaa", sum := "0691ee21914611f6f4a52f8d888aeb762c97af2f6d9dd929b39802d46cc6c56a", func := "bulletin/bulletinlaw07.OnetimeParts", spec := "onetimeParts", unfollowed := true, recurses := true, apart := false }
def OnetimePartsSaid : Prop := onetimePartsRow.holds Try.pinned (OpenSpec.ofChange onetimePartsSpec)

/-- ITS FALSE NEIGHBOUR: 'it returns false'. Refute it at one input. -/
def onetimePartsWrong : ChangeSpec := { name := "onetimeParts", fn := fun _ => fun
  | [d1, d2, d3] => { results := [.lit (.bool false)], args := [d1, d2, d3] }
  | _ => none }
def OnetimePartsWrongFalsely : Prop := onetimePartsRow.holds Try.pinned (OpenSpec.ofChange onetimePartsWrong)

/-- 'bulletinlaw08.SignerParse': WHATEVER THE INPUT: true; the input reads as it did. -/
def signerParseSpec : ChangeSpec := { name := "signerParse", fn := fun _ => fun
  | [d] => { results := [.lit (.bool true)], args := [d] }
  | _ => none }
def signerParseRow : OpenClaim := { program := "ytlgpipdeckdmjaa", sum := "0691ee21914611f6f4a52f8d888aeb762c97af2f6d9dd929b39802d46cc6c56a", func := "bulletin/bulletinlaw08.SignerParse", spec := "signerParse", inPlace := ["internal/abi.NoEscape"], unfollowed := true, recurses := true, apart := false }
def SignerParseSaid : Prop := signerParseRow.holds Try.pinned (OpenSpec.ofChange signerParseSpec)

/-- ITS FALSE NEIGHBOUR: 'it returns false'. Refute it at one input. -/
def signerParseWrong : ChangeSpec := { name := "signerParse", fn := fun _ => fun
  | [d] => { results := [.lit (.bool false)], args := [d] }
  | _ => none }
def SignerParseWrongFalsely : Prop := signerParseRow.holds Try.pinned (OpenSpec.ofChange signerParseWrong)

/-- 'bulletinlaw07.OnetimeRecovers': WHATEVER THE INPUT: true; the input reads as it did. -/
def onetimeRecoversSpec : ChangeSpec := { name := "onetimeRecovers", fn := fun _ => fun
  | [d1, d2, d3] => { results := [.lit (.bool true)], args := [d1, d2, d3] }
  | _ => none }
def onetimeRecoversRow : OpenClaim := { program := "ytlgpipdeckdmjaa", sum := "0691ee21914611f6f4a52f8d888aeb762c97af2f6d9dd929b39802d46cc6c56a", func := "bulletin/bulletinlaw07.OnetimeRecovers", spec := "onetimeRecovers", unfollowed := true, recurses := true, apart := false }
def OnetimeRecoversSaid : Prop := onetimeRecoversRow.holds Try.pinned (OpenSpec.ofChange onetimeRecoversSpec)

/-- ITS FALSE NEIGHBOUR: 'it returns false'. Refute it at one input. -/
def onetimeRecoversWrong : ChangeSpec := { name := "onetimeRecovers", fn := fun _ => fun
  | [d1, d2, d3] => { results := [.lit (.bool false)], args := [d1, d2, d3] }
  | _ => none }
def OnetimeRecoversWrongFalsely : Prop := onetimeRecoversRow.holds Try.pinned (OpenSpec.ofChange onetimeRecoversWrong)

/-- 'bulletinlaw07.OnetimePublic': WHATEVER THE INPUT: true; the input reads as it did. -/
def onetimePublicSpec : ChangeSpec := { name := "onetimePublic", fn := fun _ => fun
  | [d1, d2] => { results := [.lit (.bool true)], args := [d1, d2] }
  | _ => none }
def onetimePublicRow : OpenClaim := { program := "ytlgpipdeckdmjaa", sum := "0691ee21914611f6f4a52f8d888aeb762c97af2f6d9dd929b39802d46cc6c56a", func := "bulletin/bulletinlaw07.OnetimePublic", spec := "onetimePublic", unfollowed := true, recurses := true, apart := false }
def OnetimePublicSaid : Prop := onetimePublicRow.holds Try.pinned (OpenSpec.ofChange onetimePublicSpec)

/-- ITS FALSE NEIGHBOUR: 'it returns false'. Refute it at one input. -/
def onetimePublicWrong : ChangeSpec := { name := "onetimePublic", fn := fun _ => fun
  | [d1, d2] => { results := [.lit (.bool false)], args := [d1, d2] }
  | _ => none }
def OnetimePublicWrongFalsely : Prop := onetimePublicRow.holds Try.pinned (OpenSpec.ofChange onetimePublicWrong)

/-- 'bulletinlaw07.OnetimeSigns': WHATEVER THE INPUT: true; the input reads as it did. -/
def onetimeSignsSpec : ChangeSpec := { name := "onetimeSigns", fn := fun _ => fun
  | [d1, d2, d3] => { results := [.lit (.bool true)], args := [d1, d2, d3] }
  | _ => none }
def onetimeSignsRow : OpenClaim := { program := "ytlgpipdeckdmjaa", sum := "0691ee21914611f6f4a52f8d888aeb762c97af2f6d9dd929b39802d46cc6c56a", func := "bulletin/bulletinlaw07.OnetimeSigns", spec := "onetimeSigns", unfollowed := true, recurses := true, apart := false }
def OnetimeSignsSaid : Prop := onetimeSignsRow.holds Try.pinned (OpenSpec.ofChange onetimeSignsSpec)

/-- ITS FALSE NEIGHBOUR: 'it returns false'. Refute it at one input. -/
def onetimeSignsWrong : ChangeSpec := { name := "onetimeSigns", fn := fun _ => fun
  | [d1, d2, d3] => { results := [.lit (.bool false)], args := [d1, d2, d3] }
  | _ => none }
def OnetimeSignsWrongFalsely : Prop := onetimeSignsRow.holds Try.pinned (OpenSpec.ofChange onetimeSignsWrong)

/-- 'bulletinlaw08.SignerNil': WHATEVER THE INPUT: true; the input reads as it did. -/
def signerNilSpec : ChangeSpec := { name := "signerNil", fn := fun _ => fun
  | [d1, d2, d3] => { results := [.lit (.bool true)], args := [d1, d2, d3] }
  | _ => none }
def signerNilRow : OpenClaim := { program := "ytlgpipdeckdmjaa", sum := "0691ee21914611f6f4a52f8d888aeb762c97af2f6d9dd929b39802d46cc6c56a", func := "bulletin/bulletinlaw08.SignerNil", spec := "signerNil", inPlace := ["internal/abi.NoEscape"], unfollowed := true, recurses := true, apart := false }
def SignerNilSaid : Prop := signerNilRow.holds Try.pinned (OpenSpec.ofChange signerNilSpec)

/-- ITS FALSE NEIGHBOUR: 'it returns false'. Refute it at one input. -/
def signerNilWrong : ChangeSpec := { name := "signerNil", fn := fun _ => fun
  | [d1, d2, d3] => { results := [.lit (.bool false)], args := [d1, d2, d3] }
  | _ => none }
def SignerNilWrongFalsely : Prop := signerNilRow.holds Try.pinned (OpenSpec.ofChange signerNilWrong)

/-- 'bulletinlaw08.SignerTexts': WHATEVER THE INPUT: true; the input reads as it did. -/
def signerTextsSpec : ChangeSpec := { name := "signerTexts", fn := fun _ => fun
  | [d1, d2, d3] => { results := [.lit (.bool true)], args := [d1, d2, d3] }
  | _ => none }
def signerTextsRow : OpenClaim := { program := "ytlgpipdeckdmjaa", sum := "0691ee21914611f6f4a52f8d888aeb762c97af2f6d9dd929b39802d46cc6c56a", func := "bulletin/bulletinlaw08.SignerTexts", spec := "signerTexts", inPlace := ["internal/abi.NoEscape"], unfollowed := true, recurses := true, apart := false }
def SignerTextsSaid : Prop := signerTextsRow.holds Try.pinned (OpenSpec.ofChange signerTextsSpec)

/-- ITS FALSE NEIGHBOUR: 'it returns false'. Refute it at one input. -/
def signerTextsWrong : ChangeSpec := { name := "signerTexts", fn := fun _ => fun
  | [d1, d2, d3] => { results := [.lit (.bool false)], args := [d1, d2, d3] }
  | _ => none }
def SignerTextsWrongFalsely : Prop := signerTextsRow.holds Try.pinned (OpenSpec.ofChange signerTextsWrong)

/- THE SECOND FORM. 'bulk': how many values and letters a reading holds, each counted each time it is reached (what is shared counts as often as it is met; a slice's spare places count too). A statement '..UptoSaid' is the law's where the arguments, and the package variables that the reading takes, are together of bulk at most 1048576: NARROWER than '..Said'. Prove '..Said' where nothing that the law and all that it calls make is longer than what came in: it says more and counts as full. Else prove '..UptoSaid'. A law counts once. -/
mutual
def uptoBulk {H : Type} : DataW H → Nat
  | .lit (.string bytes) => bytes.length + 1
  | .lit _ => 1
  | .nil => 1
  | .ptr d => uptoBulk d + 1
  | .slice elems spare => uptoBulkAll elems + uptoBulkAll spare + 1
  | .agg parts => uptoBulkAll parts + 1
  | .iface _ d => uptoBulk d + 1
  | .map entries => uptoBulkEntries entries + 1
  | .held _ => 1
def uptoBulkAll {H : Type} : List (DataW H) → Nat
  | [] => 0
  | d :: r => uptoBulk d + uptoBulkAll r
def uptoBulkEntries {H : Type} : List (Lit × DataW H) → Nat
  | [] => 0
  | x :: r => uptoBulkEntry x + uptoBulkEntries r
def uptoBulkEntry {H : Type} : Lit × DataW H → Nat
  | (.string bytes, d) => bytes.length + uptoBulk d + 1
  | (_, d) => uptoBulk d + 1
 end
def uptoSmall : (H : Type) → List (DataW H) → Bool := fun _ ds => decide (uptoBulkAll ds ≤ 1048576)
def OpenSpec.upto (s : _root_.Go.ChangeSpec) : _root_.Go.OpenSpec := { _root_.Go.OpenSpec.ofChange s with cond := some uptoSmall }

/-- 'bulletinlaw07.OnetimeDigits', WHERE WHAT IT READS IS OF BULK AT MOST 1048576: true; the input reads as it did. -/
def onetimeDigitsUptoRow : OpenClaim := { program := "ytlgpipdeckdmjaa", sum := "0691ee21914611f6f4a52f8d888aeb762c97af2f6d9dd929b39802d46cc6c56a", func := "bulletin/bulletinlaw07.OnetimeDigits", spec := "onetimeDigits", unfollowed := true, recurses := true, apart := false, narrowed := true }
def OnetimeDigitsUptoSaid : Prop := onetimeDigitsUptoRow.holds Try.pinned (OpenSpec.upto onetimeDigitsSpec)

/-- 'bulletinlaw07.OnetimeOrder', WHERE WHAT IT READS IS OF BULK AT MOST 1048576: true; the input reads as it did. -/
def onetimeOrderUptoRow : OpenClaim := { program := "ytlgpipdeckdmjaa", sum := "0691ee21914611f6f4a52f8d888aeb762c97af2f6d9dd929b39802d46cc6c56a", func := "bulletin/bulletinlaw07.OnetimeOrder", spec := "onetimeOrder", unfollowed := true, recurses := true, apart := false, narrowed := true }
def OnetimeOrderUptoSaid : Prop := onetimeOrderUptoRow.holds Try.pinned (OpenSpec.upto onetimeOrderSpec)

/-- 'bulletinlaw07.OnetimeSecrets', WHERE WHAT IT READS IS OF BULK AT MOST 1048576: true; the input reads as it did. -/
def onetimeSecretsUptoRow : OpenClaim := { program := "ytlgpipdeckdmjaa", sum := "0691ee21914611f6f4a52f8d888aeb762c97af2f6d9dd929b39802d46cc6c56a", func := "bulletin/bulletinlaw07.OnetimeSecrets", spec := "onetimeSecrets", unfollowed := true, recurses := true, apart := false, narrowed := true }
def OnetimeSecretsUptoSaid : Prop := onetimeSecretsUptoRow.holds Try.pinned (OpenSpec.upto onetimeSecretsSpec)

/-- 'bulletinlaw07.OnetimeSteps', WHERE WHAT IT READS IS OF BULK AT MOST 1048576: true; the input reads as it did. -/
def onetimeStepsUptoRow : OpenClaim := { program := "ytlgpipdeckdmjaa", sum := "0691ee21914611f6f4a52f8d888aeb762c97af2f6d9dd929b39802d46cc6c56a", func := "bulletin/bulletinlaw07.OnetimeSteps", spec := "onetimeSteps", unfollowed := true, recurses := true, apart := false, narrowed := true }
def OnetimeStepsUptoSaid : Prop := onetimeStepsUptoRow.holds Try.pinned (OpenSpec.upto onetimeStepsSpec)

/-- 'bulletinlaw07.OnetimeParts', WHERE WHAT IT READS IS OF BULK AT MOST 1048576: true; the input reads as it did. -/
def onetimePartsUptoRow : OpenClaim := { program := "ytlgpipdeckdmjaa", sum := "0691ee21914611f6f4a52f8d888aeb762c97af2f6d9dd929b39802d46cc6c56a", func := "bulletin/bulletinlaw07.OnetimeParts", spec := "onetimeParts", unfollowed := true, recurses := true, apart := false, narrowed := true }
def OnetimePartsUptoSaid : Prop := onetimePartsUptoRow.holds Try.pinned (OpenSpec.upto onetimePartsSpec)

/-- 'bulletinlaw08.SignerParse', WHERE WHAT IT READS IS OF BULK AT MOST 1048576: true; the input reads as it did. -/
def signerParseUptoRow : OpenClaim := { program := "ytlgpipdeckdmjaa", sum := "0691ee21914611f6f4a52f8d888aeb762c97af2f6d9dd929b39802d46cc6c56a", func := "bulletin/bulletinlaw08.SignerParse", spec := "signerParse", inPlace := ["internal/abi.NoEscape"], unfollowed := true, recurses := true, apart := false, narrowed := true }
def SignerParseUptoSaid : Prop := signerParseUptoRow.holds Try.pinned (OpenSpec.upto signerParseSpec)

/-- 'bulletinlaw07.OnetimeRecovers', WHERE WHAT IT READS IS OF BULK AT MOST 1048576: true; the input reads as it did. -/
def onetimeRecoversUptoRow : OpenClaim := { program := "ytlgpipdeckdmjaa", sum := "0691ee21914611f6f4a52f8d888aeb762c97af2f6d9dd929b39802d46cc6c56a", func := "bulletin/bulletinlaw07.OnetimeRecovers", spec := "onetimeRecovers", unfollowed := true, recurses := true, apart := false, narrowed := true }
def OnetimeRecoversUptoSaid : Prop := onetimeRecoversUptoRow.holds Try.pinned (OpenSpec.upto onetimeRecoversSpec)

/-- 'bulletinlaw07.OnetimePublic', WHERE WHAT IT READS IS OF BULK AT MOST 1048576: true; the input reads as it did. -/
def onetimePublicUptoRow : OpenClaim := { program := "ytlgpipdeckdmjaa", sum := "0691ee21914611f6f4a52f8d888aeb762c97af2f6d9dd929b39802d46cc6c56a", func := "bulletin/bulletinlaw07.OnetimePublic", spec := "onetimePublic", unfollowed := true, recurses := true, apart := false, narrowed := true }
def OnetimePublicUptoSaid : Prop := onetimePublicUptoRow.holds Try.pinned (OpenSpec.upto onetimePublicSpec)

/-- 'bulletinlaw07.OnetimeSigns', WHERE WHAT IT READS IS OF BULK AT MOST 1048576: true; the input reads as it did. -/
def onetimeSignsUptoRow : OpenClaim := { program := "ytlgpipdeckdmjaa", sum := "0691ee21914611f6f4a52f8d888aeb762c97af2f6d9dd929b39802d46cc6c56a", func := "bulletin/bulletinlaw07.OnetimeSigns", spec := "onetimeSigns", unfollowed := true, recurses := true, apart := false, narrowed := true }
def OnetimeSignsUptoSaid : Prop := onetimeSignsUptoRow.holds Try.pinned (OpenSpec.upto onetimeSignsSpec)

/-- 'bulletinlaw08.SignerNil', WHERE WHAT IT READS IS OF BULK AT MOST 1048576: true; the input reads as it did. -/
def signerNilUptoRow : OpenClaim := { program := "ytlgpipdeckdmjaa", sum := "0691ee21914611f6f4a52f8d888aeb762c97af2f6d9dd929b39802d46cc6c56a", func := "bulletin/bulletinlaw08.SignerNil", spec := "signerNil", inPlace := ["internal/abi.NoEscape"], unfollowed := true, recurses := true, apart := false, narrowed := true }
def SignerNilUptoSaid : Prop := signerNilUptoRow.holds Try.pinned (OpenSpec.upto signerNilSpec)

/-- 'bulletinlaw08.SignerTexts', WHERE WHAT IT READS IS OF BULK AT MOST 1048576: true; the input reads as it did. -/
def signerTextsUptoRow : OpenClaim := { program := "ytlgpipdeckdmjaa", sum := "0691ee21914611f6f4a52f8d888aeb762c97af2f6d9dd929b39802d46cc6c56a", func := "bulletin/bulletinlaw08.SignerTexts", spec := "signerTexts", inPlace := ["internal/abi.NoEscape"], unfollowed := true, recurses := true, apart := false, narrowed := true }
def SignerTextsUptoSaid : Prop := signerTextsUptoRow.holds Try.pinned (OpenSpec.upto signerTextsSpec)

end Rows
end Go.Proofs.Ytlgpipdeckdmjaa
