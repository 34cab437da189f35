/-
  No cell of these rows narrows 'for every input' (looked for: loops, veiled, ifaces, maps, wideKeys, modest, calm, conditions, laid).
  DERIVED. THE GIVEN ROWS OF THIS SEAT. 11 by the template 'for every input the law returns true; each argument reads behind the call as it read before'; 0 by the template 'total and deterministic' (their statements: YthdeldaeghhfgaaTotals.lean).
  GIVEN WITH THE SEED: the statements are not yours to turn. If you find one false, say at which input.
  Laid BY PROGRAM, IN A SANDBOX (cutbox-rows.mjs): the forced cells as the released guide's own fill.sh prints them over the translation ab370811b5cdc5d7… (all of the seat's roots in one cut). By AI agents, Wed Nov 11 2026. No macro, syntax, notation, axiom, sorry.
-/
import Derived.Test.YthdeldaeghhfgaaChecked
import GoSem.Claim
import GoSem.ClaimJoined
import GoSem.ClaimMapViews
import Derived.JoinedTies
import Derived.KernelRfl
namespace Go.Proofs.Ythdeldaeghhfgaa
/- THE CELL 'sum', in the pinned program and in every row, IS THE sha256 OF THE DUMP (.gsa) THAT YthdeldaeghhfgaaProg.lean LOADS. Nothing in Lean hashes anything: it is a label: what it is worth is what the hold of that sum in a sandbox is worth. -/
noncomputable def Try.pinned : Pinned := { name := "ythdeldaeghhfgaa", sum := "ab370811b5cdc5d7870caefb0e05d2c31e6bd30df2da8a7498a786319c1e37bb", checked := Try.checked }
namespace Rows
def none {H : Type} : Left H := { results := [], args := [] }

/-- 'codewrightlaw51.FlowNetworks': WHATEVER THE INPUT: true; the input reads as it did. -/
def flowNetworksSpec : ChangeSpec := { name := "flowNetworks", fn := fun _ => fun
  | [d] => { results := [.lit (.bool true)], args := [d] }
  | _ => none }
def flowNetworksRow : OpenClaim := { program := "ythdeldaeghhfgaa", sum := "ab370811b5cdc5d7870caefb0e05d2c31e6bd30df2da8a7498a786319c1e37bb", func := "codewright/codewrightlaw51.FlowNetworks", spec := "flowNetworks", apart := false }
def FlowNetworksSaid : Prop := flowNetworksRow.holds Try.pinned (OpenSpec.ofChange flowNetworksSpec)

/-- ITS FALSE NEIGHBOUR: 'it returns false'. Refute it at one input. -/
def flowNetworksWrong : ChangeSpec := { name := "flowNetworks", fn := fun _ => fun
  | [d] => { results := [.lit (.bool false)], args := [d] }
  | _ => none }
def FlowNetworksWrongFalsely : Prop := flowNetworksRow.holds Try.pinned (OpenSpec.ofChange flowNetworksWrong)

/-- 'codewrightlaw51.FlowCuts': WHATEVER THE INPUT: true; the input reads as it did. -/
def flowCutsSpec : ChangeSpec := { name := "flowCuts", fn := fun _ => fun
  | [d1, d2] => { results := [.lit (.bool true)], args := [d1, d2] }
  | _ => none }
def flowCutsRow : OpenClaim := { program := "ythdeldaeghhfgaa", sum := "ab370811b5cdc5d7870caefb0e05d2c31e6bd30df2da8a7498a786319c1e37bb", func := "codewright/codewrightlaw51.FlowCuts", spec := "flowCuts", apart := false }
def FlowCutsSaid : Prop := flowCutsRow.holds Try.pinned (OpenSpec.ofChange flowCutsSpec)

/-- ITS FALSE NEIGHBOUR: 'it returns false'. Refute it at one input. -/
def flowCutsWrong : ChangeSpec := { name := "flowCuts", fn := fun _ => fun
  | [d1, d2] => { results := [.lit (.bool false)], args := [d1, d2] }
  | _ => none }
def FlowCutsWrongFalsely : Prop := flowCutsRow.holds Try.pinned (OpenSpec.ofChange flowCutsWrong)

/-- 'codewrightlaw51.FlowValues': WHATEVER THE INPUT: true; the input reads as it did. -/
def flowValuesSpec : ChangeSpec := { name := "flowValues", fn := fun _ => fun
  | [d1, d2, d3] => { results := [.lit (.bool true)], args := [d1, d2, d3] }
  | _ => none }
def flowValuesRow : OpenClaim := { program := "ythdeldaeghhfgaa", sum := "ab370811b5cdc5d7870caefb0e05d2c31e6bd30df2da8a7498a786319c1e37bb", func := "codewright/codewrightlaw51.FlowValues", spec := "flowValues", unfollowed := true, recurses := true, apart := false }
def FlowValuesSaid : Prop := flowValuesRow.holds Try.pinned (OpenSpec.ofChange flowValuesSpec)

/-- ITS FALSE NEIGHBOUR: 'it returns false'. Refute it at one input. -/
def flowValuesWrong : ChangeSpec := { name := "flowValues", fn := fun _ => fun
  | [d1, d2, d3] => { results := [.lit (.bool false)], args := [d1, d2, d3] }
  | _ => none }
def FlowValuesWrongFalsely : Prop := flowValuesRow.holds Try.pinned (OpenSpec.ofChange flowValuesWrong)

/-- 'codewrightlaw51.FlowDuality': WHATEVER THE INPUT: true; the input reads as it did. -/
def flowDualitySpec : ChangeSpec := { name := "flowDuality", fn := fun _ => fun
  | [d] => { results := [.lit (.bool true)], args := [d] }
  | _ => none }
def flowDualityRow : OpenClaim := { program := "ythdeldaeghhfgaa", sum := "ab370811b5cdc5d7870caefb0e05d2c31e6bd30df2da8a7498a786319c1e37bb", func := "codewright/codewrightlaw51.FlowDuality", spec := "flowDuality", unfollowed := true, recurses := true, apart := false }
def FlowDualitySaid : Prop := flowDualityRow.holds Try.pinned (OpenSpec.ofChange flowDualitySpec)

/-- ITS FALSE NEIGHBOUR: 'it returns false'. Refute it at one input. -/
def flowDualityWrong : ChangeSpec := { name := "flowDuality", fn := fun _ => fun
  | [d] => { results := [.lit (.bool false)], args := [d] }
  | _ => none }
def FlowDualityWrongFalsely : Prop := flowDualityRow.holds Try.pinned (OpenSpec.ofChange flowDualityWrong)

/-- 'codewrightlaw51.FlowAccepts': WHATEVER THE INPUT: true; the input reads as it did. -/
def flowAcceptsSpec : ChangeSpec := { name := "flowAccepts", fn := fun _ => fun
  | [d] => { results := [.lit (.bool true)], args := [d] }
  | _ => none }
def flowAcceptsRow : OpenClaim := { program := "ythdeldaeghhfgaa", sum := "ab370811b5cdc5d7870caefb0e05d2c31e6bd30df2da8a7498a786319c1e37bb", func := "codewright/codewrightlaw51.FlowAccepts", spec := "flowAccepts", apart := false }
def FlowAcceptsSaid : Prop := flowAcceptsRow.holds Try.pinned (OpenSpec.ofChange flowAcceptsSpec)

/-- ITS FALSE NEIGHBOUR: 'it returns false'. Refute it at one input. -/
def flowAcceptsWrong : ChangeSpec := { name := "flowAccepts", fn := fun _ => fun
  | [d] => { results := [.lit (.bool false)], args := [d] }
  | _ => none }
def FlowAcceptsWrongFalsely : Prop := flowAcceptsRow.holds Try.pinned (OpenSpec.ofChange flowAcceptsWrong)

/-- 'codewrightlaw51.FlowSound': WHATEVER THE INPUT: true; the input reads as it did. -/
def flowSoundSpec : ChangeSpec := { name := "flowSound", fn := fun _ => fun
  | [d] => { results := [.lit (.bool true)], args := [d] }
  | _ => none }
def flowSoundRow : OpenClaim := { program := "ythdeldaeghhfgaa", sum := "ab370811b5cdc5d7870caefb0e05d2c31e6bd30df2da8a7498a786319c1e37bb", func := "codewright/codewrightlaw51.FlowSound", spec := "flowSound", unfollowed := true, recurses := true, apart := false }
def FlowSoundSaid : Prop := flowSoundRow.holds Try.pinned (OpenSpec.ofChange flowSoundSpec)

/-- ITS FALSE NEIGHBOUR: 'it returns false'. Refute it at one input. -/
def flowSoundWrong : ChangeSpec := { name := "flowSound", fn := fun _ => fun
  | [d] => { results := [.lit (.bool false)], args := [d] }
  | _ => none }
def FlowSoundWrongFalsely : Prop := flowSoundRow.holds Try.pinned (OpenSpec.ofChange flowSoundWrong)

/-- 'codewrightlaw51.FlowMaximal': WHATEVER THE INPUT: true; the input reads as it did. -/
def flowMaximalSpec : ChangeSpec := { name := "flowMaximal", fn := fun _ => fun
  | [d] => { results := [.lit (.bool true)], args := [d] }
  | _ => none }
def flowMaximalRow : OpenClaim := { program := "ythdeldaeghhfgaa", sum := "ab370811b5cdc5d7870caefb0e05d2c31e6bd30df2da8a7498a786319c1e37bb", func := "codewright/codewrightlaw51.FlowMaximal", spec := "flowMaximal", apart := false }
def FlowMaximalSaid : Prop := flowMaximalRow.holds Try.pinned (OpenSpec.ofChange flowMaximalSpec)

/-- ITS FALSE NEIGHBOUR: 'it returns false'. Refute it at one input. -/
def flowMaximalWrong : ChangeSpec := { name := "flowMaximal", fn := fun _ => fun
  | [d] => { results := [.lit (.bool false)], args := [d] }
  | _ => none }
def FlowMaximalWrongFalsely : Prop := flowMaximalRow.holds Try.pinned (OpenSpec.ofChange flowMaximalWrong)

/-- 'codewrightlaw51.FlowRises': WHATEVER THE INPUT: true; the input reads as it did. -/
def flowRisesSpec : ChangeSpec := { name := "flowRises", fn := fun _ => fun
  | [d] => { results := [.lit (.bool true)], args := [d] }
  | _ => none }
def flowRisesRow : OpenClaim := { program := "ythdeldaeghhfgaa", sum := "ab370811b5cdc5d7870caefb0e05d2c31e6bd30df2da8a7498a786319c1e37bb", func := "codewright/codewrightlaw51.FlowRises", spec := "flowRises", apart := false }
def FlowRisesSaid : Prop := flowRisesRow.holds Try.pinned (OpenSpec.ofChange flowRisesSpec)

/-- ITS FALSE NEIGHBOUR: 'it returns false'. Refute it at one input. -/
def flowRisesWrong : ChangeSpec := { name := "flowRises", fn := fun _ => fun
  | [d] => { results := [.lit (.bool false)], args := [d] }
  | _ => none }
def FlowRisesWrongFalsely : Prop := flowRisesRow.holds Try.pinned (OpenSpec.ofChange flowRisesWrong)

/-- 'codewrightlaw51.FlowRoutes': WHATEVER THE INPUT: true; the input reads as it did. -/
def flowRoutesSpec : ChangeSpec := { name := "flowRoutes", fn := fun _ => fun
  | [d] => { results := [.lit (.bool true)], args := [d] }
  | _ => none }
def flowRoutesRow : OpenClaim := { program := "ythdeldaeghhfgaa", sum := "ab370811b5cdc5d7870caefb0e05d2c31e6bd30df2da8a7498a786319c1e37bb", func := "codewright/codewrightlaw51.FlowRoutes", spec := "flowRoutes", unfollowed := true, recurses := true, apart := false }
def FlowRoutesSaid : Prop := flowRoutesRow.holds Try.pinned (OpenSpec.ofChange flowRoutesSpec)

/-- ITS FALSE NEIGHBOUR: 'it returns false'. Refute it at one input. -/
def flowRoutesWrong : ChangeSpec := { name := "flowRoutes", fn := fun _ => fun
  | [d] => { results := [.lit (.bool false)], args := [d] }
  | _ => none }
def FlowRoutesWrongFalsely : Prop := flowRoutesRow.holds Try.pinned (OpenSpec.ofChange flowRoutesWrong)

/-- 'codewrightlaw51.FlowLeast': WHATEVER THE INPUT: true; the input reads as it did. -/
def flowLeastSpec : ChangeSpec := { name := "flowLeast", fn := fun _ => fun
  | [d] => { results := [.lit (.bool true)], args := [d] }
  | _ => none }
def flowLeastRow : OpenClaim := { program := "ythdeldaeghhfgaa", sum := "ab370811b5cdc5d7870caefb0e05d2c31e6bd30df2da8a7498a786319c1e37bb", func := "codewright/codewrightlaw51.FlowLeast", spec := "flowLeast", unfollowed := true, recurses := true, apart := false }
def FlowLeastSaid : Prop := flowLeastRow.holds Try.pinned (OpenSpec.ofChange flowLeastSpec)

/-- ITS FALSE NEIGHBOUR: 'it returns false'. Refute it at one input. -/
def flowLeastWrong : ChangeSpec := { name := "flowLeast", fn := fun _ => fun
  | [d] => { results := [.lit (.bool false)], args := [d] }
  | _ => none }
def FlowLeastWrongFalsely : Prop := flowLeastRow.holds Try.pinned (OpenSpec.ofChange flowLeastWrong)

/-- 'codewrightlaw51.FlowDisjoint': WHATEVER THE INPUT: true; the input reads as it did. -/
def flowDisjointSpec : ChangeSpec := { name := "flowDisjoint", fn := fun _ => fun
  | [d] => { results := [.lit (.bool true)], args := [d] }
  | _ => none }
def flowDisjointRow : OpenClaim := { program := "ythdeldaeghhfgaa", sum := "ab370811b5cdc5d7870caefb0e05d2c31e6bd30df2da8a7498a786319c1e37bb", func := "codewright/codewrightlaw51.FlowDisjoint", spec := "flowDisjoint", unfollowed := true, recurses := true, apart := false }
def FlowDisjointSaid : Prop := flowDisjointRow.holds Try.pinned (OpenSpec.ofChange flowDisjointSpec)

/-- ITS FALSE NEIGHBOUR: 'it returns false'. Refute it at one input. -/
def flowDisjointWrong : ChangeSpec := { name := "flowDisjoint", fn := fun _ => fun
  | [d] => { results := [.lit (.bool false)], args := [d] }
  | _ => none }
def FlowDisjointWrongFalsely : Prop := flowDisjointRow.holds Try.pinned (OpenSpec.ofChange flowDisjointWrong)

/- THE SECOND FORM. 'bulk': how many values and letters a reading holds, each counted each time it is reached (what is shared counts as often as it is met; a slice's spare places count too). A statement '..UptoSaid' is the law's where the arguments, and the package variables that the reading takes, are together of bulk at most 1048576: NARROWER than '..Said'. Prove '..Said' where nothing that the law and all that it calls make is longer than what came in: it says more and counts as full. Else prove '..UptoSaid'. A law counts once. -/
mutual
def uptoBulk {H : Type} : DataW H → Nat
  | .lit (.string bytes) => bytes.length + 1
  | .lit _ => 1
  | .nil => 1
  | .ptr d => uptoBulk d + 1
  | .slice elems spare => uptoBulkAll elems + uptoBulkAll spare + 1
  | .agg parts => uptoBulkAll parts + 1
  | .iface _ d => uptoBulk d + 1
  | .map entries => uptoBulkEntries entries + 1
  | .held _ => 1
def uptoBulkAll {H : Type} : List (DataW H) → Nat
  | [] => 0
  | d :: r => uptoBulk d + uptoBulkAll r
def uptoBulkEntries {H : Type} : List (Lit × DataW H) → Nat
  | [] => 0
  | x :: r => uptoBulkEntry x + uptoBulkEntries r
def uptoBulkEntry {H : Type} : Lit × DataW H → Nat
  | (.string bytes, d) => bytes.length + uptoBulk d + 1
  | (_, d) => uptoBulk d + 1
 end
def uptoSmall : (H : Type) → List (DataW H) → Bool := fun _ ds => decide (uptoBulkAll ds ≤ 1048576)
def OpenSpec.upto (s : _root_.Go.ChangeSpec) : _root_.Go.OpenSpec := { _root_.Go.OpenSpec.ofChange s with cond := some uptoSmall }

/-- 'codewrightlaw51.FlowNetworks', WHERE WHAT IT READS IS OF BULK AT MOST 1048576: true; the input reads as it did. -/
def flowNetworksUptoRow : OpenClaim := { program := "ythdeldaeghhfgaa", sum := "ab370811b5cdc5d7870caefb0e05d2c31e6bd30df2da8a7498a786319c1e37bb", func := "codewright/codewrightlaw51.FlowNetworks", spec := "flowNetworks", apart := false, narrowed := true }
def FlowNetworksUptoSaid : Prop := flowNetworksUptoRow.holds Try.pinned (OpenSpec.upto flowNetworksSpec)

/-- 'codewrightlaw51.FlowCuts', WHERE WHAT IT READS IS OF BULK AT MOST 1048576: true; the input reads as it did. -/
def flowCutsUptoRow : OpenClaim := { program := "ythdeldaeghhfgaa", sum := "ab370811b5cdc5d7870caefb0e05d2c31e6bd30df2da8a7498a786319c1e37bb", func := "codewright/codewrightlaw51.FlowCuts", spec := "flowCuts", apart := false, narrowed := true }
def FlowCutsUptoSaid : Prop := flowCutsUptoRow.holds Try.pinned (OpenSpec.upto flowCutsSpec)

/-- 'codewrightlaw51.FlowValues', WHERE WHAT IT READS IS OF BULK AT MOST 1048576: true; the input reads as it did. -/
def flowValuesUptoRow : OpenClaim := { program := "ythdeldaeghhfgaa", sum := "ab370811b5cdc5d7870caefb0e05d2c31e6bd30df2da8a7498a786319c1e37bb", func := "codewright/codewrightlaw51.FlowValues", spec := "flowValues", unfollowed := true, recurses := true, apart := false, narrowed := true }
def FlowValuesUptoSaid : Prop := flowValuesUptoRow.holds Try.pinned (OpenSpec.upto flowValuesSpec)

/-- 'codewrightlaw51.FlowDuality', WHERE WHAT IT READS IS OF BULK AT MOST 1048576: true; the input reads as it did. -/
def flowDualityUptoRow : OpenClaim := { program := "ythdeldaeghhfgaa", sum := "ab370811b5cdc5d7870caefb0e05d2c31e6bd30df2da8a7498a786319c1e37bb", func := "codewright/codewrightlaw51.FlowDuality", spec := "flowDuality", unfollowed := true, recurses := true, apart := false, narrowed := true }
def FlowDualityUptoSaid : Prop := flowDualityUptoRow.holds Try.pinned (OpenSpec.upto flowDualitySpec)

/-- 'codewrightlaw51.FlowAccepts', WHERE WHAT IT READS IS OF BULK AT MOST 1048576: true; the input reads as it did. -/
def flowAcceptsUptoRow : OpenClaim := { program := "ythdeldaeghhfgaa", sum := "ab370811b5cdc5d7870caefb0e05d2c31e6bd30df2da8a7498a786319c1e37bb", func := "codewright/codewrightlaw51.FlowAccepts", spec := "flowAccepts", apart := false, narrowed := true }
def FlowAcceptsUptoSaid : Prop := flowAcceptsUptoRow.holds Try.pinned (OpenSpec.upto flowAcceptsSpec)

/-- 'codewrightlaw51.FlowSound', WHERE WHAT IT READS IS OF BULK AT MOST 1048576: true; the input reads as it did. -/
def flowSoundUptoRow : OpenClaim := { program := "ythdeldaeghhfgaa", sum := "ab370811b5cdc5d7870caefb0e05d2c31e6bd30df2da8a7498a786319c1e37bb", func := "codewright/codewrightlaw51.FlowSound", spec := "flowSound", unfollowed := true, recurses := true, apart := false, narrowed := true }
def FlowSoundUptoSaid : Prop := flowSoundUptoRow.holds Try.pinned (OpenSpec.upto flowSoundSpec)

/-- 'codewrightlaw51.FlowMaximal', WHERE WHAT IT READS IS OF BULK AT MOST 1048576: true; the input reads as it did. -/
def flowMaximalUptoRow : OpenClaim := { program := "ythdeldaeghhfgaa", sum := "ab370811b5cdc5d7870caefb0e05d2c31e6bd30df2da8a7498a786319c1e37bb", func := "codewright/codewrightlaw51.FlowMaximal", spec := "flowMaximal", apart := false, narrowed := true }
def FlowMaximalUptoSaid : Prop := flowMaximalUptoRow.holds Try.pinned (OpenSpec.upto flowMaximalSpec)

/-- 'codewrightlaw51.FlowRises', WHERE WHAT IT READS IS OF BULK AT MOST 1048576: true; the input reads as it did. -/
def flowRisesUptoRow : OpenClaim := { program := "ythdeldaeghhfgaa", sum := "ab370811b5cdc5d7870caefb0e05d2c31e6bd30df2da8a7498a786319c1e37bb", func := "codewright/codewrightlaw51.FlowRises", spec := "flowRises", apart := false, narrowed := true }
def FlowRisesUptoSaid : Prop := flowRisesUptoRow.holds Try.pinned (OpenSpec.upto flowRisesSpec)

/-- 'codewrightlaw51.FlowRoutes', WHERE WHAT IT READS IS OF BULK AT MOST 1048576: true; the input reads as it did. -/
def flowRoutesUptoRow : OpenClaim := { program := "ythdeldaeghhfgaa", sum := "ab370811b5cdc5d7870caefb0e05d2c31e6bd30df2da8a7498a786319c1e37bb", func := "codewright/codewrightlaw51.FlowRoutes", spec := "flowRoutes", unfollowed := true, recurses := true, apart := false, narrowed := true }
def FlowRoutesUptoSaid : Prop := flowRoutesUptoRow.holds Try.pinned (OpenSpec.upto flowRoutesSpec)

/-- 'codewrightlaw51.FlowLeast', WHERE WHAT IT READS IS OF BULK AT MOST 1048576: true; the input reads as it did. -/
def flowLeastUptoRow : OpenClaim := { program := "ythdeldaeghhfgaa", sum := "ab370811b5cdc5d7870caefb0e05d2c31e6bd30df2da8a7498a786319c1e37bb", func := "codewright/codewrightlaw51.FlowLeast", spec := "flowLeast", unfollowed := true, recurses := true, apart := false, narrowed := true }
def FlowLeastUptoSaid : Prop := flowLeastUptoRow.holds Try.pinned (OpenSpec.upto flowLeastSpec)

/-- 'codewrightlaw51.FlowDisjoint', WHERE WHAT IT READS IS OF BULK AT MOST 1048576: true; the input reads as it did. -/
def flowDisjointUptoRow : OpenClaim := { program := "ythdeldaeghhfgaa", sum := "ab370811b5cdc5d7870caefb0e05d2c31e6bd30df2da8a7498a786319c1e37bb", func := "codewright/codewrightlaw51.FlowDisjoint", spec := "flowDisjoint", unfollowed := true, recurses := true, apart := false, narrowed := true }
def FlowDisjointUptoSaid : Prop := flowDisjointUptoRow.holds Try.pinned (OpenSpec.upto flowDisjointSpec)

end Rows
end Go.Proofs.Ythdeldaeghhfgaa
