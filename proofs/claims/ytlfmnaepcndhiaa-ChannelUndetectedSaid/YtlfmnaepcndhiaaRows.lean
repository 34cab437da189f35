/-
  No cell of these rows narrows 'for every input' (looked for: loops, veiled, ifaces, maps, wideKeys, modest, calm, conditions, laid).
  DERIVED. THE GIVEN ROWS OF THIS SEAT. 5 by the template 'for every input the law returns true; each argument reads behind the call as it read before'; 0 by the template 'total and deterministic' (their statements: YtlfmnaepcndhiaaTotals.lean).
  GIVEN WITH THE SEED: the statements are not yours to turn. If you find one false, say at which input.
  Laid BY PROGRAM, IN A SANDBOX (cutbox-rows.mjs): the forced cells as the released guide's own fill.sh prints them over the translation 4a3710e4923ba7b4… (all of the seat's roots in one cut). By AI agents, Wed Nov 11 2026. No macro, syntax, notation, axiom, sorry.
-/
import Derived.Test.YtlfmnaepcndhiaaChecked
import GoSem.Claim
import GoSem.ClaimJoined
import GoSem.ClaimMapViews
import Derived.JoinedTies
import Derived.KernelRfl
namespace Go.Proofs.Ytlfmnaepcndhiaa
/- THE CELL 'sum', in the pinned program and in every row, IS THE sha256 OF THE DUMP (.gsa) THAT YtlfmnaepcndhiaaProg.lean LOADS. Nothing in Lean hashes anything: it is a label: what it is worth is what the hold of that sum in a sandbox is worth. -/
noncomputable def Try.pinned : Pinned := { name := "ytlfmnaepcndhiaa", sum := "4a3710e4923ba7b4e399c3eef1011b60c523f62d7d1a40c6dc8cf0aee8bb5f4d", checked := Try.checked }
namespace Rows
def none {H : Type} : Left H := { results := [], args := [] }

/-- 'codewrightlaw55.ChannelPatterns': WHATEVER THE INPUT: true; the input reads as it did. -/
def channelPatternsSpec : ChangeSpec := { name := "channelPatterns", fn := fun _ => fun
  | [d1, d2, d3] => { results := [.lit (.bool true)], args := [d1, d2, d3] }
  | _ => none }
def channelPatternsRow : OpenClaim := { program := "ytlfmnaepcndhiaa", sum := "4a3710e4923ba7b4e399c3eef1011b60c523f62d7d1a40c6dc8cf0aee8bb5f4d", func := "codewright/codewrightlaw55.ChannelPatterns", spec := "channelPatterns", apart := false }
def ChannelPatternsSaid : Prop := channelPatternsRow.holds Try.pinned (OpenSpec.ofChange channelPatternsSpec)

/-- ITS FALSE NEIGHBOUR: 'it returns false'. Refute it at one input. -/
def channelPatternsWrong : ChangeSpec := { name := "channelPatterns", fn := fun _ => fun
  | [d1, d2, d3] => { results := [.lit (.bool false)], args := [d1, d2, d3] }
  | _ => none }
def ChannelPatternsWrongFalsely : Prop := channelPatternsRow.holds Try.pinned (OpenSpec.ofChange channelPatternsWrong)

/-- 'codewrightlaw55.ChannelPolynomials': WHATEVER THE INPUT: true; the input reads as it did. -/
def channelPolynomialsSpec : ChangeSpec := { name := "channelPolynomials", fn := fun _ => fun
  | [d1, d2, d3] => { results := [.lit (.bool true)], args := [d1, d2, d3] }
  | _ => none }
def channelPolynomialsRow : OpenClaim := { program := "ytlfmnaepcndhiaa", sum := "4a3710e4923ba7b4e399c3eef1011b60c523f62d7d1a40c6dc8cf0aee8bb5f4d", func := "codewright/codewrightlaw55.ChannelPolynomials", spec := "channelPolynomials", apart := false }
def ChannelPolynomialsSaid : Prop := channelPolynomialsRow.holds Try.pinned (OpenSpec.ofChange channelPolynomialsSpec)

/-- ITS FALSE NEIGHBOUR: 'it returns false'. Refute it at one input. -/
def channelPolynomialsWrong : ChangeSpec := { name := "channelPolynomials", fn := fun _ => fun
  | [d1, d2, d3] => { results := [.lit (.bool false)], args := [d1, d2, d3] }
  | _ => none }
def ChannelPolynomialsWrongFalsely : Prop := channelPolynomialsRow.holds Try.pinned (OpenSpec.ofChange channelPolynomialsWrong)

/-- 'codewrightlaw55.ChannelValues': WHATEVER THE INPUT: true; the input reads as it did. -/
def channelValuesSpec : ChangeSpec := { name := "channelValues", fn := fun _ => fun
  | [d1, d2, d3] => { results := [.lit (.bool true)], args := [d1, d2, d3] }
  | _ => none }
def channelValuesRow : OpenClaim := { program := "ytlfmnaepcndhiaa", sum := "4a3710e4923ba7b4e399c3eef1011b60c523f62d7d1a40c6dc8cf0aee8bb5f4d", func := "codewright/codewrightlaw55.ChannelValues", spec := "channelValues", apart := false }
def ChannelValuesSaid : Prop := channelValuesRow.holds Try.pinned (OpenSpec.ofChange channelValuesSpec)

/-- ITS FALSE NEIGHBOUR: 'it returns false'. Refute it at one input. -/
def channelValuesWrong : ChangeSpec := { name := "channelValues", fn := fun _ => fun
  | [d1, d2, d3] => { results := [.lit (.bool false)], args := [d1, d2, d3] }
  | _ => none }
def ChannelValuesWrongFalsely : Prop := channelValuesRow.holds Try.pinned (OpenSpec.ofChange channelValuesWrong)

/-- 'codewrightlaw55.ChannelTotal': WHATEVER THE INPUT: true; the input reads as it did. -/
def channelTotalSpec : ChangeSpec := { name := "channelTotal", fn := fun _ => fun
  | [d1, d2] => { results := [.lit (.bool true)], args := [d1, d2] }
  | _ => none }
def channelTotalRow : OpenClaim := { program := "ytlfmnaepcndhiaa", sum := "4a3710e4923ba7b4e399c3eef1011b60c523f62d7d1a40c6dc8cf0aee8bb5f4d", func := "codewright/codewrightlaw55.ChannelTotal", spec := "channelTotal", apart := false }
def ChannelTotalSaid : Prop := channelTotalRow.holds Try.pinned (OpenSpec.ofChange channelTotalSpec)

/-- ITS FALSE NEIGHBOUR: 'it returns false'. Refute it at one input. -/
def channelTotalWrong : ChangeSpec := { name := "channelTotal", fn := fun _ => fun
  | [d1, d2] => { results := [.lit (.bool false)], args := [d1, d2] }
  | _ => none }
def ChannelTotalWrongFalsely : Prop := channelTotalRow.holds Try.pinned (OpenSpec.ofChange channelTotalWrong)

/-- 'codewrightlaw55.ChannelUndetected': WHATEVER THE INPUT: true; the input reads as it did. -/
def channelUndetectedSpec : ChangeSpec := { name := "channelUndetected", fn := fun _ => fun
  | [d1, d2] => { results := [.lit (.bool true)], args := [d1, d2] }
  | _ => none }
def channelUndetectedRow : OpenClaim := { program := "ytlfmnaepcndhiaa", sum := "4a3710e4923ba7b4e399c3eef1011b60c523f62d7d1a40c6dc8cf0aee8bb5f4d", func := "codewright/codewrightlaw55.ChannelUndetected", spec := "channelUndetected", apart := false }
def ChannelUndetectedSaid : Prop := channelUndetectedRow.holds Try.pinned (OpenSpec.ofChange channelUndetectedSpec)

/-- ITS FALSE NEIGHBOUR: 'it returns false'. Refute it at one input. -/
def channelUndetectedWrong : ChangeSpec := { name := "channelUndetected", fn := fun _ => fun
  | [d1, d2] => { results := [.lit (.bool false)], args := [d1, d2] }
  | _ => none }
def ChannelUndetectedWrongFalsely : Prop := channelUndetectedRow.holds Try.pinned (OpenSpec.ofChange channelUndetectedWrong)

/- THE SECOND FORM. 'bulk': how many values and letters a reading holds, each counted each time it is reached (what is shared counts as often as it is met; a slice's spare places count too). A statement '..UptoSaid' is the law's where the arguments, and the package variables that the reading takes, are together of bulk at most 1048576: NARROWER than '..Said'. Prove '..Said' where nothing that the law and all that it calls make is longer than what came in: it says more and counts as full. Else prove '..UptoSaid'. A law counts once. -/
mutual
def uptoBulk {H : Type} : DataW H → Nat
  | .lit (.string bytes) => bytes.length + 1
  | .lit _ => 1
  | .nil => 1
  | .ptr d => uptoBulk d + 1
  | .slice elems spare => uptoBulkAll elems + uptoBulkAll spare + 1
  | .agg parts => uptoBulkAll parts + 1
  | .iface _ d => uptoBulk d + 1
  | .map entries => uptoBulkEntries entries + 1
  | .held _ => 1
def uptoBulkAll {H : Type} : List (DataW H) → Nat
  | [] => 0
  | d :: r => uptoBulk d + uptoBulkAll r
def uptoBulkEntries {H : Type} : List (Lit × DataW H) → Nat
  | [] => 0
  | x :: r => uptoBulkEntry x + uptoBulkEntries r
def uptoBulkEntry {H : Type} : Lit × DataW H → Nat
  | (.string bytes, d) => bytes.length + uptoBulk d + 1
  | (_, d) => uptoBulk d + 1
 end
def uptoSmall : (H : Type) → List (DataW H) → Bool := fun _ ds => decide (uptoBulkAll ds ≤ 1048576)
def OpenSpec.upto (s : _root_.Go.ChangeSpec) : _root_.Go.OpenSpec := { _root_.Go.OpenSpec.ofChange s with cond := some uptoSmall }

/-- 'codewrightlaw55.ChannelPatterns', WHERE WHAT IT READS IS OF BULK AT MOST 1048576: true; the input reads as it did. -/
def channelPatternsUptoRow : OpenClaim := { program := "ytlfmnaepcndhiaa", sum := "4a3710e4923ba7b4e399c3eef1011b60c523f62d7d1a40c6dc8cf0aee8bb5f4d", func := "codewright/codewrightlaw55.ChannelPatterns", spec := "channelPatterns", apart := false, narrowed := true }
def ChannelPatternsUptoSaid : Prop := channelPatternsUptoRow.holds Try.pinned (OpenSpec.upto channelPatternsSpec)

/-- 'codewrightlaw55.ChannelPolynomials', WHERE WHAT IT READS IS OF BULK AT MOST 1048576: true; the input reads as it did. -/
def channelPolynomialsUptoRow : OpenClaim := { program := "ytlfmnaepcndhiaa", sum := "4a3710e4923ba7b4e399c3eef1011b60c523f62d7d1a40c6dc8cf0aee8bb5f4d", func := "codewright/codewrightlaw55.ChannelPolynomials", spec := "channelPolynomials", apart := false, narrowed := true }
def ChannelPolynomialsUptoSaid : Prop := channelPolynomialsUptoRow.holds Try.pinned (OpenSpec.upto channelPolynomialsSpec)

/-- 'codewrightlaw55.ChannelValues', WHERE WHAT IT READS IS OF BULK AT MOST 1048576: true; the input reads as it did. -/
def channelValuesUptoRow : OpenClaim := { program := "ytlfmnaepcndhiaa", sum := "4a3710e4923ba7b4e399c3eef1011b60c523f62d7d1a40c6dc8cf0aee8bb5f4d", func := "codewright/codewrightlaw55.ChannelValues", spec := "channelValues", apart := false, narrowed := true }
def ChannelValuesUptoSaid : Prop := channelValuesUptoRow.holds Try.pinned (OpenSpec.upto channelValuesSpec)

/-- 'codewrightlaw55.ChannelTotal', WHERE WHAT IT READS IS OF BULK AT MOST 1048576: true; the input reads as it did. -/
def channelTotalUptoRow : OpenClaim := { program := "ytlfmnaepcndhiaa", sum := "4a3710e4923ba7b4e399c3eef1011b60c523f62d7d1a40c6dc8cf0aee8bb5f4d", func := "codewright/codewrightlaw55.ChannelTotal", spec := "channelTotal", apart := false, narrowed := true }
def ChannelTotalUptoSaid : Prop := channelTotalUptoRow.holds Try.pinned (OpenSpec.upto channelTotalSpec)

/-- 'codewrightlaw55.ChannelUndetected', WHERE WHAT IT READS IS OF BULK AT MOST 1048576: true; the input reads as it did. -/
def channelUndetectedUptoRow : OpenClaim := { program := "ytlfmnaepcndhiaa", sum := "4a3710e4923ba7b4e399c3eef1011b60c523f62d7d1a40c6dc8cf0aee8bb5f4d", func := "codewright/codewrightlaw55.ChannelUndetected", spec := "channelUndetected", apart := false, narrowed := true }
def ChannelUndetectedUptoSaid : Prop := channelUndetectedUptoRow.holds Try.pinned (OpenSpec.upto channelUndetectedSpec)

end Rows
end Go.Proofs.Ytlfmnaepcndhiaa
