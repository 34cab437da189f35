/-
  No cell of these rows narrows 'for every input' (looked for: loops, veiled, ifaces, maps, wideKeys, modest, calm, conditions, laid).
  DERIVED. THE GIVEN ROWS OF THIS SEAT. 10 by the template 'for every input the law returns true; each argument reads behind the call as it read before'; 0 by the template 'total and deterministic' (their statements: YtgekjfpapmlndaaGreatTotals.lean).
  GIVEN WITH THE SEED: the statements are not yours to turn. If you find one false, say at which input.
  Laid BY PROGRAM, IN A SANDBOX (cutbox-rows.mjs): the forced cells as the released guide's own fill.sh prints them over the translation a0ec703fcfde6548… (all of the seat's roots in one cut). By AI agents, Wed Nov 11 2026. No macro, syntax, notation, axiom, sorry.
-/
import Derived.Test.YtgekjfpapmlndaaGreatChecked
import GoSem.Claim
import GoSem.ClaimJoined
import GoSem.ClaimMapViews
import Derived.JoinedTies
import Derived.KernelRfl
namespace Go.Proofs.YtgekjfpapmlndaaGreat
/- THE CELL 'sum', in the pinned program and in every row, IS THE sha256 OF THE DUMP (.gsa) THAT YtgekjfpapmlndaaGreatProg.lean LOADS. Nothing in Lean hashes anything: it is a label: what it is worth is what the hold of that sum in a sandbox is worth. -/
noncomputable def Tryz.pinned : Pinned := { name := "ytgekjfpapmlndaagreat", sum := "a0ec703fcfde6548311ef463467d891f82dd03dabe7b03ba13134719bf40a65b", checked := Tryz.checked }
namespace Rows
def none {H : Type} : Left H := { results := [], args := [] }

/-- 'codewrightlaw49.ViterbiDecodes': WHATEVER THE INPUT: true; the input reads as it did. -/
def viterbiDecodesSpec : ChangeSpec := { name := "viterbiDecodes", fn := fun _ => fun
  | [d1, d2, d3] => { results := [.lit (.bool true)], args := [d1, d2, d3] }
  | _ => none }
def viterbiDecodesRow : OpenClaim := { program := "ytgekjfpapmlndaagreat", sum := "a0ec703fcfde6548311ef463467d891f82dd03dabe7b03ba13134719bf40a65b", func := "codewright/codewrightlaw49.ViterbiDecodes", spec := "viterbiDecodes", unfollowed := true, recurses := true, apart := false }
def ViterbiDecodesSaid : Prop := viterbiDecodesRow.holds Tryz.pinned (OpenSpec.ofChange viterbiDecodesSpec)

/-- ITS FALSE NEIGHBOUR: 'it returns false'. Refute it at one input. -/
def viterbiDecodesWrong : ChangeSpec := { name := "viterbiDecodes", fn := fun _ => fun
  | [d1, d2, d3] => { results := [.lit (.bool false)], args := [d1, d2, d3] }
  | _ => none }
def ViterbiDecodesWrongFalsely : Prop := viterbiDecodesRow.holds Tryz.pinned (OpenSpec.ofChange viterbiDecodesWrong)

/-- 'codewrightlaw49.ViterbiLeast': WHATEVER THE INPUT: true; the input reads as it did. -/
def viterbiLeastSpec : ChangeSpec := { name := "viterbiLeast", fn := fun _ => fun
  | [d1, d2] => { results := [.lit (.bool true)], args := [d1, d2] }
  | _ => none }
def viterbiLeastRow : OpenClaim := { program := "ytgekjfpapmlndaagreat", sum := "a0ec703fcfde6548311ef463467d891f82dd03dabe7b03ba13134719bf40a65b", func := "codewright/codewrightlaw49.ViterbiLeast", spec := "viterbiLeast", unfollowed := true, recurses := true, apart := false }
def ViterbiLeastSaid : Prop := viterbiLeastRow.holds Tryz.pinned (OpenSpec.ofChange viterbiLeastSpec)

/-- ITS FALSE NEIGHBOUR: 'it returns false'. Refute it at one input. -/
def viterbiLeastWrong : ChangeSpec := { name := "viterbiLeast", fn := fun _ => fun
  | [d1, d2] => { results := [.lit (.bool false)], args := [d1, d2] }
  | _ => none }
def ViterbiLeastWrongFalsely : Prop := viterbiLeastRow.holds Tryz.pinned (OpenSpec.ofChange viterbiLeastWrong)

/-- 'codewrightlaw47.TrellisProfile': WHATEVER THE INPUT: true; the input reads as it did. -/
def trellisProfileSpec : ChangeSpec := { name := "trellisProfile", fn := fun _ => fun
  | [d] => { results := [.lit (.bool true)], args := [d] }
  | _ => none }
def trellisProfileRow : OpenClaim := { program := "ytgekjfpapmlndaagreat", sum := "a0ec703fcfde6548311ef463467d891f82dd03dabe7b03ba13134719bf40a65b", func := "codewright/codewrightlaw47.TrellisProfile", spec := "trellisProfile", unfollowed := true, recurses := true, apart := false }
def TrellisProfileSaid : Prop := trellisProfileRow.holds Tryz.pinned (OpenSpec.ofChange trellisProfileSpec)

/-- ITS FALSE NEIGHBOUR: 'it returns false'. Refute it at one input. -/
def trellisProfileWrong : ChangeSpec := { name := "trellisProfile", fn := fun _ => fun
  | [d] => { results := [.lit (.bool false)], args := [d] }
  | _ => none }
def TrellisProfileWrongFalsely : Prop := trellisProfileRow.holds Tryz.pinned (OpenSpec.ofChange trellisProfileWrong)

/-- 'codewrightlaw47.TrellisSyndromes': WHATEVER THE INPUT: true; the input reads as it did. -/
def trellisSyndromesSpec : ChangeSpec := { name := "trellisSyndromes", fn := fun _ => fun
  | [d] => { results := [.lit (.bool true)], args := [d] }
  | _ => none }
def trellisSyndromesRow : OpenClaim := { program := "ytgekjfpapmlndaagreat", sum := "a0ec703fcfde6548311ef463467d891f82dd03dabe7b03ba13134719bf40a65b", func := "codewright/codewrightlaw47.TrellisSyndromes", spec := "trellisSyndromes", unfollowed := true, recurses := true, apart := false }
def TrellisSyndromesSaid : Prop := trellisSyndromesRow.holds Tryz.pinned (OpenSpec.ofChange trellisSyndromesSpec)

/-- ITS FALSE NEIGHBOUR: 'it returns false'. Refute it at one input. -/
def trellisSyndromesWrong : ChangeSpec := { name := "trellisSyndromes", fn := fun _ => fun
  | [d] => { results := [.lit (.bool false)], args := [d] }
  | _ => none }
def TrellisSyndromesWrongFalsely : Prop := trellisSyndromesRow.holds Tryz.pinned (OpenSpec.ofChange trellisSyndromesWrong)

/-- 'codewrightlaw47.TrellisMembers': WHATEVER THE INPUT: true; the input reads as it did. -/
def trellisMembersSpec : ChangeSpec := { name := "trellisMembers", fn := fun _ => fun
  | [d1, d2] => { results := [.lit (.bool true)], args := [d1, d2] }
  | _ => none }
def trellisMembersRow : OpenClaim := { program := "ytgekjfpapmlndaagreat", sum := "a0ec703fcfde6548311ef463467d891f82dd03dabe7b03ba13134719bf40a65b", func := "codewright/codewrightlaw47.TrellisMembers", spec := "trellisMembers", unfollowed := true, recurses := true, apart := false }
def TrellisMembersSaid : Prop := trellisMembersRow.holds Tryz.pinned (OpenSpec.ofChange trellisMembersSpec)

/-- ITS FALSE NEIGHBOUR: 'it returns false'. Refute it at one input. -/
def trellisMembersWrong : ChangeSpec := { name := "trellisMembers", fn := fun _ => fun
  | [d1, d2] => { results := [.lit (.bool false)], args := [d1, d2] }
  | _ => none }
def TrellisMembersWrongFalsely : Prop := trellisMembersRow.holds Tryz.pinned (OpenSpec.ofChange trellisMembersWrong)

/-- 'codewrightlaw49.ViterbiWeights': WHATEVER THE INPUT: true; the input reads as it did. -/
def viterbiWeightsSpec : ChangeSpec := { name := "viterbiWeights", fn := fun _ => fun
  | [d] => { results := [.lit (.bool true)], args := [d] }
  | _ => none }
def viterbiWeightsRow : OpenClaim := { program := "ytgekjfpapmlndaagreat", sum := "a0ec703fcfde6548311ef463467d891f82dd03dabe7b03ba13134719bf40a65b", func := "codewright/codewrightlaw49.ViterbiWeights", spec := "viterbiWeights", unfollowed := true, recurses := true, apart := false }
def ViterbiWeightsSaid : Prop := viterbiWeightsRow.holds Tryz.pinned (OpenSpec.ofChange viterbiWeightsSpec)

/-- ITS FALSE NEIGHBOUR: 'it returns false'. Refute it at one input. -/
def viterbiWeightsWrong : ChangeSpec := { name := "viterbiWeights", fn := fun _ => fun
  | [d] => { results := [.lit (.bool false)], args := [d] }
  | _ => none }
def ViterbiWeightsWrongFalsely : Prop := viterbiWeightsRow.holds Tryz.pinned (OpenSpec.ofChange viterbiWeightsWrong)

/-- 'codewrightlaw47.TrellisMinimal': WHATEVER THE INPUT: true; the input reads as it did. -/
def trellisMinimalSpec : ChangeSpec := { name := "trellisMinimal", fn := fun _ => fun
  | [d] => { results := [.lit (.bool true)], args := [d] }
  | _ => none }
def trellisMinimalRow : OpenClaim := { program := "ytgekjfpapmlndaagreat", sum := "a0ec703fcfde6548311ef463467d891f82dd03dabe7b03ba13134719bf40a65b", func := "codewright/codewrightlaw47.TrellisMinimal", spec := "trellisMinimal", unfollowed := true, recurses := true, apart := false }
def TrellisMinimalSaid : Prop := trellisMinimalRow.holds Tryz.pinned (OpenSpec.ofChange trellisMinimalSpec)

/-- ITS FALSE NEIGHBOUR: 'it returns false'. Refute it at one input. -/
def trellisMinimalWrong : ChangeSpec := { name := "trellisMinimal", fn := fun _ => fun
  | [d] => { results := [.lit (.bool false)], args := [d] }
  | _ => none }
def TrellisMinimalWrongFalsely : Prop := trellisMinimalRow.holds Tryz.pinned (OpenSpec.ofChange trellisMinimalWrong)

/-- 'codewrightlaw49.ViterbiMarginals': WHATEVER THE INPUT: true; the input reads as it did. -/
def viterbiMarginalsSpec : ChangeSpec := { name := "viterbiMarginals", fn := fun _ => fun
  | [d1, d2] => { results := [.lit (.bool true)], args := [d1, d2] }
  | _ => none }
def viterbiMarginalsRow : OpenClaim := { program := "ytgekjfpapmlndaagreat", sum := "a0ec703fcfde6548311ef463467d891f82dd03dabe7b03ba13134719bf40a65b", func := "codewright/codewrightlaw49.ViterbiMarginals", spec := "viterbiMarginals", unfollowed := true, recurses := true, apart := false }
def ViterbiMarginalsSaid : Prop := viterbiMarginalsRow.holds Tryz.pinned (OpenSpec.ofChange viterbiMarginalsSpec)

/-- ITS FALSE NEIGHBOUR: 'it returns false'. Refute it at one input. -/
def viterbiMarginalsWrong : ChangeSpec := { name := "viterbiMarginals", fn := fun _ => fun
  | [d1, d2] => { results := [.lit (.bool false)], args := [d1, d2] }
  | _ => none }
def ViterbiMarginalsWrongFalsely : Prop := viterbiMarginalsRow.holds Tryz.pinned (OpenSpec.ofChange viterbiMarginalsWrong)

/-- 'codewrightlaw49.ViterbiHard': WHATEVER THE INPUT: true; the input reads as it did. -/
def viterbiHardSpec : ChangeSpec := { name := "viterbiHard", fn := fun _ => fun
  | [d1, d2] => { results := [.lit (.bool true)], args := [d1, d2] }
  | _ => none }
def viterbiHardRow : OpenClaim := { program := "ytgekjfpapmlndaagreat", sum := "a0ec703fcfde6548311ef463467d891f82dd03dabe7b03ba13134719bf40a65b", func := "codewright/codewrightlaw49.ViterbiHard", spec := "viterbiHard", unfollowed := true, recurses := true, apart := false }
def ViterbiHardSaid : Prop := viterbiHardRow.holds Tryz.pinned (OpenSpec.ofChange viterbiHardSpec)

/-- ITS FALSE NEIGHBOUR: 'it returns false'. Refute it at one input. -/
def viterbiHardWrong : ChangeSpec := { name := "viterbiHard", fn := fun _ => fun
  | [d1, d2] => { results := [.lit (.bool false)], args := [d1, d2] }
  | _ => none }
def ViterbiHardWrongFalsely : Prop := viterbiHardRow.holds Tryz.pinned (OpenSpec.ofChange viterbiHardWrong)

/-- 'codewrightlaw47.TrellisLeast': WHATEVER THE INPUT: true; the input reads as it did. -/
def trellisLeastSpec : ChangeSpec := { name := "trellisLeast", fn := fun _ => fun
  | [d1, d2] => { results := [.lit (.bool true)], args := [d1, d2] }
  | _ => none }
def trellisLeastRow : OpenClaim := { program := "ytgekjfpapmlndaagreat", sum := "a0ec703fcfde6548311ef463467d891f82dd03dabe7b03ba13134719bf40a65b", func := "codewright/codewrightlaw47.TrellisLeast", spec := "trellisLeast", unfollowed := true, recurses := true, apart := false }
def TrellisLeastSaid : Prop := trellisLeastRow.holds Tryz.pinned (OpenSpec.ofChange trellisLeastSpec)

/-- ITS FALSE NEIGHBOUR: 'it returns false'. Refute it at one input. -/
def trellisLeastWrong : ChangeSpec := { name := "trellisLeast", fn := fun _ => fun
  | [d1, d2] => { results := [.lit (.bool false)], args := [d1, d2] }
  | _ => none }
def TrellisLeastWrongFalsely : Prop := trellisLeastRow.holds Tryz.pinned (OpenSpec.ofChange trellisLeastWrong)

/- THE SECOND FORM. 'bulk': how many values and letters a reading holds, each counted each time it is reached (what is shared counts as often as it is met; a slice's spare places count too). A statement '..UptoSaid' is the law's where the arguments, and the package variables that the reading takes, are together of bulk at most 1048576: NARROWER than '..Said'. Prove '..Said' where nothing that the law and all that it calls make is longer than what came in: it says more and counts as full. Else prove '..UptoSaid'. A law counts once. -/
mutual
def uptoBulk {H : Type} : DataW H → Nat
  | .lit (.string bytes) => bytes.length + 1
  | .lit _ => 1
  | .nil => 1
  | .ptr d => uptoBulk d + 1
  | .slice elems spare => uptoBulkAll elems + uptoBulkAll spare + 1
  | .agg parts => uptoBulkAll parts + 1
  | .iface _ d => uptoBulk d + 1
  | .map entries => uptoBulkEntries entries + 1
  | .held _ => 1
def uptoBulkAll {H : Type} : List (DataW H) → Nat
  | [] => 0
  | d :: r => uptoBulk d + uptoBulkAll r
def uptoBulkEntries {H : Type} : List (Lit × DataW H) → Nat
  | [] => 0
  | x :: r => uptoBulkEntry x + uptoBulkEntries r
def uptoBulkEntry {H : Type} : Lit × DataW H → Nat
  | (.string bytes, d) => bytes.length + uptoBulk d + 1
  | (_, d) => uptoBulk d + 1
 end
def uptoSmall : (H : Type) → List (DataW H) → Bool := fun _ ds => decide (uptoBulkAll ds ≤ 1048576)
def OpenSpec.upto (s : _root_.Go.ChangeSpec) : _root_.Go.OpenSpec := { _root_.Go.OpenSpec.ofChange s with cond := some uptoSmall }

/-- 'codewrightlaw49.ViterbiDecodes', WHERE WHAT IT READS IS OF BULK AT MOST 1048576: true; the input reads as it did. -/
def viterbiDecodesUptoRow : OpenClaim := { program := "ytgekjfpapmlndaagreat", sum := "a0ec703fcfde6548311ef463467d891f82dd03dabe7b03ba13134719bf40a65b", func := "codewright/codewrightlaw49.ViterbiDecodes", spec := "viterbiDecodes", unfollowed := true, recurses := true, apart := false, narrowed := true }
def ViterbiDecodesUptoSaid : Prop := viterbiDecodesUptoRow.holds Tryz.pinned (OpenSpec.upto viterbiDecodesSpec)

/-- 'codewrightlaw49.ViterbiLeast', WHERE WHAT IT READS IS OF BULK AT MOST 1048576: true; the input reads as it did. -/
def viterbiLeastUptoRow : OpenClaim := { program := "ytgekjfpapmlndaagreat", sum := "a0ec703fcfde6548311ef463467d891f82dd03dabe7b03ba13134719bf40a65b", func := "codewright/codewrightlaw49.ViterbiLeast", spec := "viterbiLeast", unfollowed := true, recurses := true, apart := false, narrowed := true }
def ViterbiLeastUptoSaid : Prop := viterbiLeastUptoRow.holds Tryz.pinned (OpenSpec.upto viterbiLeastSpec)

/-- 'codewrightlaw47.TrellisProfile', WHERE WHAT IT READS IS OF BULK AT MOST 1048576: true; the input reads as it did. -/
def trellisProfileUptoRow : OpenClaim := { program := "ytgekjfpapmlndaagreat", sum := "a0ec703fcfde6548311ef463467d891f82dd03dabe7b03ba13134719bf40a65b", func := "codewright/codewrightlaw47.TrellisProfile", spec := "trellisProfile", unfollowed := true, recurses := true, apart := false, narrowed := true }
def TrellisProfileUptoSaid : Prop := trellisProfileUptoRow.holds Tryz.pinned (OpenSpec.upto trellisProfileSpec)

/-- 'codewrightlaw47.TrellisSyndromes', WHERE WHAT IT READS IS OF BULK AT MOST 1048576: true; the input reads as it did. -/
def trellisSyndromesUptoRow : OpenClaim := { program := "ytgekjfpapmlndaagreat", sum := "a0ec703fcfde6548311ef463467d891f82dd03dabe7b03ba13134719bf40a65b", func := "codewright/codewrightlaw47.TrellisSyndromes", spec := "trellisSyndromes", unfollowed := true, recurses := true, apart := false, narrowed := true }
def TrellisSyndromesUptoSaid : Prop := trellisSyndromesUptoRow.holds Tryz.pinned (OpenSpec.upto trellisSyndromesSpec)

/-- 'codewrightlaw47.TrellisMembers', WHERE WHAT IT READS IS OF BULK AT MOST 1048576: true; the input reads as it did. -/
def trellisMembersUptoRow : OpenClaim := { program := "ytgekjfpapmlndaagreat", sum := "a0ec703fcfde6548311ef463467d891f82dd03dabe7b03ba13134719bf40a65b", func := "codewright/codewrightlaw47.TrellisMembers", spec := "trellisMembers", unfollowed := true, recurses := true, apart := false, narrowed := true }
def TrellisMembersUptoSaid : Prop := trellisMembersUptoRow.holds Tryz.pinned (OpenSpec.upto trellisMembersSpec)

/-- 'codewrightlaw49.ViterbiWeights', WHERE WHAT IT READS IS OF BULK AT MOST 1048576: true; the input reads as it did. -/
def viterbiWeightsUptoRow : OpenClaim := { program := "ytgekjfpapmlndaagreat", sum := "a0ec703fcfde6548311ef463467d891f82dd03dabe7b03ba13134719bf40a65b", func := "codewright/codewrightlaw49.ViterbiWeights", spec := "viterbiWeights", unfollowed := true, recurses := true, apart := false, narrowed := true }
def ViterbiWeightsUptoSaid : Prop := viterbiWeightsUptoRow.holds Tryz.pinned (OpenSpec.upto viterbiWeightsSpec)

/-- 'codewrightlaw47.TrellisMinimal', WHERE WHAT IT READS IS OF BULK AT MOST 1048576: true; the input reads as it did. -/
def trellisMinimalUptoRow : OpenClaim := { program := "ytgekjfpapmlndaagreat", sum := "a0ec703fcfde6548311ef463467d891f82dd03dabe7b03ba13134719bf40a65b", func := "codewright/codewrightlaw47.TrellisMinimal", spec := "trellisMinimal", unfollowed := true, recurses := true, apart := false, narrowed := true }
def TrellisMinimalUptoSaid : Prop := trellisMinimalUptoRow.holds Tryz.pinned (OpenSpec.upto trellisMinimalSpec)

/-- 'codewrightlaw49.ViterbiMarginals', WHERE WHAT IT READS IS OF BULK AT MOST 1048576: true; the input reads as it did. -/
def viterbiMarginalsUptoRow : OpenClaim := { program := "ytgekjfpapmlndaagreat", sum := "a0ec703fcfde6548311ef463467d891f82dd03dabe7b03ba13134719bf40a65b", func := "codewright/codewrightlaw49.ViterbiMarginals", spec := "viterbiMarginals", unfollowed := true, recurses := true, apart := false, narrowed := true }
def ViterbiMarginalsUptoSaid : Prop := viterbiMarginalsUptoRow.holds Tryz.pinned (OpenSpec.upto viterbiMarginalsSpec)

/-- 'codewrightlaw49.ViterbiHard', WHERE WHAT IT READS IS OF BULK AT MOST 1048576: true; the input reads as it did. -/
def viterbiHardUptoRow : OpenClaim := { program := "ytgekjfpapmlndaagreat", sum := "a0ec703fcfde6548311ef463467d891f82dd03dabe7b03ba13134719bf40a65b", func := "codewright/codewrightlaw49.ViterbiHard", spec := "viterbiHard", unfollowed := true, recurses := true, apart := false, narrowed := true }
def ViterbiHardUptoSaid : Prop := viterbiHardUptoRow.holds Tryz.pinned (OpenSpec.upto viterbiHardSpec)

/-- 'codewrightlaw47.TrellisLeast', WHERE WHAT IT READS IS OF BULK AT MOST 1048576: true; the input reads as it did. -/
def trellisLeastUptoRow : OpenClaim := { program := "ytgekjfpapmlndaagreat", sum := "a0ec703fcfde6548311ef463467d891f82dd03dabe7b03ba13134719bf40a65b", func := "codewright/codewrightlaw47.TrellisLeast", spec := "trellisLeast", unfollowed := true, recurses := true, apart := false, narrowed := true }
def TrellisLeastUptoSaid : Prop := trellisLeastUptoRow.holds Tryz.pinned (OpenSpec.upto trellisLeastSpec)

end Rows
end Go.Proofs.YtgekjfpapmlndaaGreat
