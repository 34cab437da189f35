/-
  No cell of these rows narrows 'for every input' (looked for: loops, veiled, ifaces, maps, wideKeys, modest, calm, conditions, laid).
  DERIVED. THE GIVEN ROWS OF THIS SEAT. 15 by the template 'for every input the law returns true; each argument reads behind the call as it read before'; 0 by the template 'total and deterministic' (their statements: YtgininddoalenaaTotals.lean).
  GIVEN WITH THE SEED: the statements are not yours to turn. If you find one false, say at which input.
  Laid BY PROGRAM, IN A SANDBOX (cutbox-rows.mjs): the forced cells as the released guide's own fill.sh prints them over the translation e9fb9b33e1ff61b1… (all of the seat's roots in one cut). By AI agents, Wed Nov 11 2026. No macro, syntax, notation, axiom, sorry.
-/
import Derived.Test.YtgininddoalenaaChecked
import GoSem.Claim
import GoSem.ClaimJoined
import GoSem.ClaimMapViews
import Derived.JoinedTies
import Derived.KernelRfl
namespace Go.Proofs.Ytgininddoalenaa
/- THE CELL 'sum', in the pinned program and in every row, IS THE sha256 OF THE DUMP (.gsa) THAT YtgininddoalenaaProg.lean LOADS. Nothing in Lean hashes anything: it is a label: what it is worth is what the hold of that sum in a sandbox is worth. -/
noncomputable def Try.pinned : Pinned := { name := "ytgininddoalenaa", sum := "e9fb9b33e1ff61b1d6f8186091b41e5efeb222610bf26ce46ca215cafec143d7", checked := Try.checked }
namespace Rows
def none {H : Type} : Left H := { results := [], args := [] }

/-- 'codewrightlaw34.BoundsGriesmer': WHATEVER THE INPUT: true; the input reads as it did. -/
def boundsGriesmerSpec : ChangeSpec := { name := "boundsGriesmer", fn := fun _ => fun
  | [d1, d2, d3] => { results := [.lit (.bool true)], args := [d1, d2, d3] }
  | _ => none }
def boundsGriesmerRow : OpenClaim := { program := "ytgininddoalenaa", sum := "e9fb9b33e1ff61b1d6f8186091b41e5efeb222610bf26ce46ca215cafec143d7", func := "codewright/codewrightlaw34.BoundsGriesmer", spec := "boundsGriesmer", apart := false }
def BoundsGriesmerSaid : Prop := boundsGriesmerRow.holds Try.pinned (OpenSpec.ofChange boundsGriesmerSpec)

/-- ITS FALSE NEIGHBOUR: 'it returns false'. Refute it at one input. -/
def boundsGriesmerWrong : ChangeSpec := { name := "boundsGriesmer", fn := fun _ => fun
  | [d1, d2, d3] => { results := [.lit (.bool false)], args := [d1, d2, d3] }
  | _ => none }
def BoundsGriesmerWrongFalsely : Prop := boundsGriesmerRow.holds Try.pinned (OpenSpec.ofChange boundsGriesmerWrong)

/-- 'codewrightlaw34.BoundsLinear': WHATEVER THE INPUT: true; the input reads as it did. -/
def boundsLinearSpec : ChangeSpec := { name := "boundsLinear", fn := fun _ => fun
  | [d1, d2, d3] => { results := [.lit (.bool true)], args := [d1, d2, d3] }
  | _ => none }
def boundsLinearRow : OpenClaim := { program := "ytgininddoalenaa", sum := "e9fb9b33e1ff61b1d6f8186091b41e5efeb222610bf26ce46ca215cafec143d7", func := "codewright/codewrightlaw34.BoundsLinear", spec := "boundsLinear", apart := false }
def BoundsLinearSaid : Prop := boundsLinearRow.holds Try.pinned (OpenSpec.ofChange boundsLinearSpec)

/-- ITS FALSE NEIGHBOUR: 'it returns false'. Refute it at one input. -/
def boundsLinearWrong : ChangeSpec := { name := "boundsLinear", fn := fun _ => fun
  | [d1, d2, d3] => { results := [.lit (.bool false)], args := [d1, d2, d3] }
  | _ => none }
def BoundsLinearWrongFalsely : Prop := boundsLinearRow.holds Try.pinned (OpenSpec.ofChange boundsLinearWrong)

/-- 'codewrightlaw34.BoundsVolumes': WHATEVER THE INPUT: true; the input reads as it did. -/
def boundsVolumesSpec : ChangeSpec := { name := "boundsVolumes", fn := fun _ => fun
  | [d1, d2, d3] => { results := [.lit (.bool true)], args := [d1, d2, d3] }
  | _ => none }
def boundsVolumesRow : OpenClaim := { program := "ytgininddoalenaa", sum := "e9fb9b33e1ff61b1d6f8186091b41e5efeb222610bf26ce46ca215cafec143d7", func := "codewright/codewrightlaw34.BoundsVolumes", spec := "boundsVolumes", apart := false }
def BoundsVolumesSaid : Prop := boundsVolumesRow.holds Try.pinned (OpenSpec.ofChange boundsVolumesSpec)

/-- ITS FALSE NEIGHBOUR: 'it returns false'. Refute it at one input. -/
def boundsVolumesWrong : ChangeSpec := { name := "boundsVolumes", fn := fun _ => fun
  | [d1, d2, d3] => { results := [.lit (.bool false)], args := [d1, d2, d3] }
  | _ => none }
def BoundsVolumesWrongFalsely : Prop := boundsVolumesRow.holds Try.pinned (OpenSpec.ofChange boundsVolumesWrong)

/-- 'codewrightlaw34.BoundsBalls': WHATEVER THE INPUT: true; the input reads as it did. -/
def boundsBallsSpec : ChangeSpec := { name := "boundsBalls", fn := fun _ => fun
  | [d1, d2, d3, d4] => { results := [.lit (.bool true)], args := [d1, d2, d3, d4] }
  | _ => none }
def boundsBallsRow : OpenClaim := { program := "ytgininddoalenaa", sum := "e9fb9b33e1ff61b1d6f8186091b41e5efeb222610bf26ce46ca215cafec143d7", func := "codewright/codewrightlaw34.BoundsBalls", spec := "boundsBalls", apart := false }
def BoundsBallsSaid : Prop := boundsBallsRow.holds Try.pinned (OpenSpec.ofChange boundsBallsSpec)

/-- ITS FALSE NEIGHBOUR: 'it returns false'. Refute it at one input. -/
def boundsBallsWrong : ChangeSpec := { name := "boundsBalls", fn := fun _ => fun
  | [d1, d2, d3, d4] => { results := [.lit (.bool false)], args := [d1, d2, d3, d4] }
  | _ => none }
def BoundsBallsWrongFalsely : Prop := boundsBallsRow.holds Try.pinned (OpenSpec.ofChange boundsBallsWrong)

/-- 'codewrightlaw34.BoundsGilbert': WHATEVER THE INPUT: true; the input reads as it did. -/
def boundsGilbertSpec : ChangeSpec := { name := "boundsGilbert", fn := fun _ => fun
  | [d1, d2, d3] => { results := [.lit (.bool true)], args := [d1, d2, d3] }
  | _ => none }
def boundsGilbertRow : OpenClaim := { program := "ytgininddoalenaa", sum := "e9fb9b33e1ff61b1d6f8186091b41e5efeb222610bf26ce46ca215cafec143d7", func := "codewright/codewrightlaw34.BoundsGilbert", spec := "boundsGilbert", apart := false }
def BoundsGilbertSaid : Prop := boundsGilbertRow.holds Try.pinned (OpenSpec.ofChange boundsGilbertSpec)

/-- ITS FALSE NEIGHBOUR: 'it returns false'. Refute it at one input. -/
def boundsGilbertWrong : ChangeSpec := { name := "boundsGilbert", fn := fun _ => fun
  | [d1, d2, d3] => { results := [.lit (.bool false)], args := [d1, d2, d3] }
  | _ => none }
def BoundsGilbertWrongFalsely : Prop := boundsGilbertRow.holds Try.pinned (OpenSpec.ofChange boundsGilbertWrong)

/-- 'codewrightlaw34.BoundsPerfect': WHATEVER THE INPUT: true; the input reads as it did. -/
def boundsPerfectSpec : ChangeSpec := { name := "boundsPerfect", fn := fun _ => fun
  | [d1, d2] => { results := [.lit (.bool true)], args := [d1, d2] }
  | _ => none }
def boundsPerfectRow : OpenClaim := { program := "ytgininddoalenaa", sum := "e9fb9b33e1ff61b1d6f8186091b41e5efeb222610bf26ce46ca215cafec143d7", func := "codewright/codewrightlaw34.BoundsPerfect", spec := "boundsPerfect", apart := false }
def BoundsPerfectSaid : Prop := boundsPerfectRow.holds Try.pinned (OpenSpec.ofChange boundsPerfectSpec)

/-- ITS FALSE NEIGHBOUR: 'it returns false'. Refute it at one input. -/
def boundsPerfectWrong : ChangeSpec := { name := "boundsPerfect", fn := fun _ => fun
  | [d1, d2] => { results := [.lit (.bool false)], args := [d1, d2] }
  | _ => none }
def BoundsPerfectWrongFalsely : Prop := boundsPerfectRow.holds Try.pinned (OpenSpec.ofChange boundsPerfectWrong)

/-- 'codewrightlaw34.BoundsElias': WHATEVER THE INPUT: true; the input reads as it did. -/
def boundsEliasSpec : ChangeSpec := { name := "boundsElias", fn := fun _ => fun
  | [d1, d2, d3] => { results := [.lit (.bool true)], args := [d1, d2, d3] }
  | _ => none }
def boundsEliasRow : OpenClaim := { program := "ytgininddoalenaa", sum := "e9fb9b33e1ff61b1d6f8186091b41e5efeb222610bf26ce46ca215cafec143d7", func := "codewright/codewrightlaw34.BoundsElias", spec := "boundsElias", apart := false }
def BoundsEliasSaid : Prop := boundsEliasRow.holds Try.pinned (OpenSpec.ofChange boundsEliasSpec)

/-- ITS FALSE NEIGHBOUR: 'it returns false'. Refute it at one input. -/
def boundsEliasWrong : ChangeSpec := { name := "boundsElias", fn := fun _ => fun
  | [d1, d2, d3] => { results := [.lit (.bool false)], args := [d1, d2, d3] }
  | _ => none }
def BoundsEliasWrongFalsely : Prop := boundsEliasRow.holds Try.pinned (OpenSpec.ofChange boundsEliasWrong)

/-- 'codewrightlaw34.BoundsFormulas': WHATEVER THE INPUT: true; the input reads as it did. -/
def boundsFormulasSpec : ChangeSpec := { name := "boundsFormulas", fn := fun _ => fun
  | [d1, d2, d3] => { results := [.lit (.bool true)], args := [d1, d2, d3] }
  | _ => none }
def boundsFormulasRow : OpenClaim := { program := "ytgininddoalenaa", sum := "e9fb9b33e1ff61b1d6f8186091b41e5efeb222610bf26ce46ca215cafec143d7", func := "codewright/codewrightlaw34.BoundsFormulas", spec := "boundsFormulas", apart := false }
def BoundsFormulasSaid : Prop := boundsFormulasRow.holds Try.pinned (OpenSpec.ofChange boundsFormulasSpec)

/-- ITS FALSE NEIGHBOUR: 'it returns false'. Refute it at one input. -/
def boundsFormulasWrong : ChangeSpec := { name := "boundsFormulas", fn := fun _ => fun
  | [d1, d2, d3] => { results := [.lit (.bool false)], args := [d1, d2, d3] }
  | _ => none }
def BoundsFormulasWrongFalsely : Prop := boundsFormulasRow.holds Try.pinned (OpenSpec.ofChange boundsFormulasWrong)

/-- 'codewrightlaw34.BoundsWords': WHATEVER THE INPUT: true; the input reads as it did. -/
def boundsWordsSpec : ChangeSpec := { name := "boundsWords", fn := fun _ => fun
  | [d1, d2, d3] => { results := [.lit (.bool true)], args := [d1, d2, d3] }
  | _ => none }
def boundsWordsRow : OpenClaim := { program := "ytgininddoalenaa", sum := "e9fb9b33e1ff61b1d6f8186091b41e5efeb222610bf26ce46ca215cafec143d7", func := "codewright/codewrightlaw34.BoundsWords", spec := "boundsWords", apart := false }
def BoundsWordsSaid : Prop := boundsWordsRow.holds Try.pinned (OpenSpec.ofChange boundsWordsSpec)

/-- ITS FALSE NEIGHBOUR: 'it returns false'. Refute it at one input. -/
def boundsWordsWrong : ChangeSpec := { name := "boundsWords", fn := fun _ => fun
  | [d1, d2, d3] => { results := [.lit (.bool false)], args := [d1, d2, d3] }
  | _ => none }
def BoundsWordsWrongFalsely : Prop := boundsWordsRow.holds Try.pinned (OpenSpec.ofChange boundsWordsWrong)

/-- 'codewrightlaw34.BoundsJohnson': WHATEVER THE INPUT: true; the input reads as it did. -/
def boundsJohnsonSpec : ChangeSpec := { name := "boundsJohnson", fn := fun _ => fun
  | [d1, d2, d3] => { results := [.lit (.bool true)], args := [d1, d2, d3] }
  | _ => none }
def boundsJohnsonRow : OpenClaim := { program := "ytgininddoalenaa", sum := "e9fb9b33e1ff61b1d6f8186091b41e5efeb222610bf26ce46ca215cafec143d7", func := "codewright/codewrightlaw34.BoundsJohnson", spec := "boundsJohnson", recurses := true, apart := false }
def BoundsJohnsonSaid : Prop := boundsJohnsonRow.holds Try.pinned (OpenSpec.ofChange boundsJohnsonSpec)

/-- ITS FALSE NEIGHBOUR: 'it returns false'. Refute it at one input. -/
def boundsJohnsonWrong : ChangeSpec := { name := "boundsJohnson", fn := fun _ => fun
  | [d1, d2, d3] => { results := [.lit (.bool false)], args := [d1, d2, d3] }
  | _ => none }
def BoundsJohnsonWrongFalsely : Prop := boundsJohnsonRow.holds Try.pinned (OpenSpec.ofChange boundsJohnsonWrong)

/-- 'codewrightlaw34.BoundsBinary': WHATEVER THE INPUT: true; the input reads as it did. -/
def boundsBinarySpec : ChangeSpec := { name := "boundsBinary", fn := fun _ => fun
  | [d1, d2, d3] => { results := [.lit (.bool true)], args := [d1, d2, d3] }
  | _ => none }
def boundsBinaryRow : OpenClaim := { program := "ytgininddoalenaa", sum := "e9fb9b33e1ff61b1d6f8186091b41e5efeb222610bf26ce46ca215cafec143d7", func := "codewright/codewrightlaw34.BoundsBinary", spec := "boundsBinary", recurses := true, apart := false }
def BoundsBinarySaid : Prop := boundsBinaryRow.holds Try.pinned (OpenSpec.ofChange boundsBinarySpec)

/-- ITS FALSE NEIGHBOUR: 'it returns false'. Refute it at one input. -/
def boundsBinaryWrong : ChangeSpec := { name := "boundsBinary", fn := fun _ => fun
  | [d1, d2, d3] => { results := [.lit (.bool false)], args := [d1, d2, d3] }
  | _ => none }
def BoundsBinaryWrongFalsely : Prop := boundsBinaryRow.holds Try.pinned (OpenSpec.ofChange boundsBinaryWrong)

/-- 'codewrightlaw34.BoundsBest': WHATEVER THE INPUT: true; the input reads as it did. -/
def boundsBestSpec : ChangeSpec := { name := "boundsBest", fn := fun _ => fun
  | [d1, d2, d3] => { results := [.lit (.bool true)], args := [d1, d2, d3] }
  | _ => none }
def boundsBestRow : OpenClaim := { program := "ytgininddoalenaa", sum := "e9fb9b33e1ff61b1d6f8186091b41e5efeb222610bf26ce46ca215cafec143d7", func := "codewright/codewrightlaw34.BoundsBest", spec := "boundsBest", unfollowed := true, recurses := true, apart := false }
def BoundsBestSaid : Prop := boundsBestRow.holds Try.pinned (OpenSpec.ofChange boundsBestSpec)

/-- ITS FALSE NEIGHBOUR: 'it returns false'. Refute it at one input. -/
def boundsBestWrong : ChangeSpec := { name := "boundsBest", fn := fun _ => fun
  | [d1, d2, d3] => { results := [.lit (.bool false)], args := [d1, d2, d3] }
  | _ => none }
def BoundsBestWrongFalsely : Prop := boundsBestRow.holds Try.pinned (OpenSpec.ofChange boundsBestWrong)

/-- 'codewrightlaw34.BoundsBetween': WHATEVER THE INPUT: true; the input reads as it did. -/
def boundsBetweenSpec : ChangeSpec := { name := "boundsBetween", fn := fun _ => fun
  | [d1, d2, d3] => { results := [.lit (.bool true)], args := [d1, d2, d3] }
  | _ => none }
def boundsBetweenRow : OpenClaim := { program := "ytgininddoalenaa", sum := "e9fb9b33e1ff61b1d6f8186091b41e5efeb222610bf26ce46ca215cafec143d7", func := "codewright/codewrightlaw34.BoundsBetween", spec := "boundsBetween", unfollowed := true, recurses := true, apart := false }
def BoundsBetweenSaid : Prop := boundsBetweenRow.holds Try.pinned (OpenSpec.ofChange boundsBetweenSpec)

/-- ITS FALSE NEIGHBOUR: 'it returns false'. Refute it at one input. -/
def boundsBetweenWrong : ChangeSpec := { name := "boundsBetween", fn := fun _ => fun
  | [d1, d2, d3] => { results := [.lit (.bool false)], args := [d1, d2, d3] }
  | _ => none }
def BoundsBetweenWrongFalsely : Prop := boundsBetweenRow.holds Try.pinned (OpenSpec.ofChange boundsBetweenWrong)

/-- 'codewrightlaw34.BoundsHeavy': WHATEVER THE INPUT: true; the input reads as it did. -/
def boundsHeavySpec : ChangeSpec := { name := "boundsHeavy", fn := fun _ => fun
  | [d1, d2, d3, d4, d5] => { results := [.lit (.bool true)], args := [d1, d2, d3, d4, d5] }
  | _ => none }
def boundsHeavyRow : OpenClaim := { program := "ytgininddoalenaa", sum := "e9fb9b33e1ff61b1d6f8186091b41e5efeb222610bf26ce46ca215cafec143d7", func := "codewright/codewrightlaw34.BoundsHeavy", spec := "boundsHeavy", unfollowed := true, recurses := true, apart := false }
def BoundsHeavySaid : Prop := boundsHeavyRow.holds Try.pinned (OpenSpec.ofChange boundsHeavySpec)

/-- ITS FALSE NEIGHBOUR: 'it returns false'. Refute it at one input. -/
def boundsHeavyWrong : ChangeSpec := { name := "boundsHeavy", fn := fun _ => fun
  | [d1, d2, d3, d4, d5] => { results := [.lit (.bool false)], args := [d1, d2, d3, d4, d5] }
  | _ => none }
def BoundsHeavyWrongFalsely : Prop := boundsHeavyRow.holds Try.pinned (OpenSpec.ofChange boundsHeavyWrong)

/-- 'codewrightlaw34.BoundsVarshamov': WHATEVER THE INPUT: true; the input reads as it did. -/
def boundsVarshamovSpec : ChangeSpec := { name := "boundsVarshamov", fn := fun _ => fun
  | [d1, d2, d3] => { results := [.lit (.bool true)], args := [d1, d2, d3] }
  | _ => none }
def boundsVarshamovRow : OpenClaim := { program := "ytgininddoalenaa", sum := "e9fb9b33e1ff61b1d6f8186091b41e5efeb222610bf26ce46ca215cafec143d7", func := "codewright/codewrightlaw34.BoundsVarshamov", spec := "boundsVarshamov", unfollowed := true, recurses := true, apart := false }
def BoundsVarshamovSaid : Prop := boundsVarshamovRow.holds Try.pinned (OpenSpec.ofChange boundsVarshamovSpec)

/-- ITS FALSE NEIGHBOUR: 'it returns false'. Refute it at one input. -/
def boundsVarshamovWrong : ChangeSpec := { name := "boundsVarshamov", fn := fun _ => fun
  | [d1, d2, d3] => { results := [.lit (.bool false)], args := [d1, d2, d3] }
  | _ => none }
def BoundsVarshamovWrongFalsely : Prop := boundsVarshamovRow.holds Try.pinned (OpenSpec.ofChange boundsVarshamovWrong)

/- THE SECOND FORM. 'bulk': how many values and letters a reading holds, each counted each time it is reached (what is shared counts as often as it is met; a slice's spare places count too). A statement '..UptoSaid' is the law's where the arguments, and the package variables that the reading takes, are together of bulk at most 1048576: NARROWER than '..Said'. Prove '..Said' where nothing that the law and all that it calls make is longer than what came in: it says more and counts as full. Else prove '..UptoSaid'. A law counts once. -/
mutual
def uptoBulk {H : Type} : DataW H → Nat
  | .lit (.string bytes) => bytes.length + 1
  | .lit _ => 1
  | .nil => 1
  | .ptr d => uptoBulk d + 1
  | .slice elems spare => uptoBulkAll elems + uptoBulkAll spare + 1
  | .agg parts => uptoBulkAll parts + 1
  | .iface _ d => uptoBulk d + 1
  | .map entries => uptoBulkEntries entries + 1
  | .held _ => 1
def uptoBulkAll {H : Type} : List (DataW H) → Nat
  | [] => 0
  | d :: r => uptoBulk d + uptoBulkAll r
def uptoBulkEntries {H : Type} : List (Lit × DataW H) → Nat
  | [] => 0
  | x :: r => uptoBulkEntry x + uptoBulkEntries r
def uptoBulkEntry {H : Type} : Lit × DataW H → Nat
  | (.string bytes, d) => bytes.length + uptoBulk d + 1
  | (_, d) => uptoBulk d + 1
 end
def uptoSmall : (H : Type) → List (DataW H) → Bool := fun _ ds => decide (uptoBulkAll ds ≤ 1048576)
def OpenSpec.upto (s : _root_.Go.ChangeSpec) : _root_.Go.OpenSpec := { _root_.Go.OpenSpec.ofChange s with cond := some uptoSmall }

/-- 'codewrightlaw34.BoundsGriesmer', WHERE WHAT IT READS IS OF BULK AT MOST 1048576: true; the input reads as it did. -/
def boundsGriesmerUptoRow : OpenClaim := { program := "ytgininddoalenaa", sum := "e9fb9b33e1ff61b1d6f8186091b41e5efeb222610bf26ce46ca215cafec143d7", func := "codewright/codewrightlaw34.BoundsGriesmer", spec := "boundsGriesmer", apart := false, narrowed := true }
def BoundsGriesmerUptoSaid : Prop := boundsGriesmerUptoRow.holds Try.pinned (OpenSpec.upto boundsGriesmerSpec)

/-- 'codewrightlaw34.BoundsLinear', WHERE WHAT IT READS IS OF BULK AT MOST 1048576: true; the input reads as it did. -/
def boundsLinearUptoRow : OpenClaim := { program := "ytgininddoalenaa", sum := "e9fb9b33e1ff61b1d6f8186091b41e5efeb222610bf26ce46ca215cafec143d7", func := "codewright/codewrightlaw34.BoundsLinear", spec := "boundsLinear", apart := false, narrowed := true }
def BoundsLinearUptoSaid : Prop := boundsLinearUptoRow.holds Try.pinned (OpenSpec.upto boundsLinearSpec)

/-- 'codewrightlaw34.BoundsVolumes', WHERE WHAT IT READS IS OF BULK AT MOST 1048576: true; the input reads as it did. -/
def boundsVolumesUptoRow : OpenClaim := { program := "ytgininddoalenaa", sum := "e9fb9b33e1ff61b1d6f8186091b41e5efeb222610bf26ce46ca215cafec143d7", func := "codewright/codewrightlaw34.BoundsVolumes", spec := "boundsVolumes", apart := false, narrowed := true }
def BoundsVolumesUptoSaid : Prop := boundsVolumesUptoRow.holds Try.pinned (OpenSpec.upto boundsVolumesSpec)

/-- 'codewrightlaw34.BoundsBalls', WHERE WHAT IT READS IS OF BULK AT MOST 1048576: true; the input reads as it did. -/
def boundsBallsUptoRow : OpenClaim := { program := "ytgininddoalenaa", sum := "e9fb9b33e1ff61b1d6f8186091b41e5efeb222610bf26ce46ca215cafec143d7", func := "codewright/codewrightlaw34.BoundsBalls", spec := "boundsBalls", apart := false, narrowed := true }
def BoundsBallsUptoSaid : Prop := boundsBallsUptoRow.holds Try.pinned (OpenSpec.upto boundsBallsSpec)

/-- 'codewrightlaw34.BoundsGilbert', WHERE WHAT IT READS IS OF BULK AT MOST 1048576: true; the input reads as it did. -/
def boundsGilbertUptoRow : OpenClaim := { program := "ytgininddoalenaa", sum := "e9fb9b33e1ff61b1d6f8186091b41e5efeb222610bf26ce46ca215cafec143d7", func := "codewright/codewrightlaw34.BoundsGilbert", spec := "boundsGilbert", apart := false, narrowed := true }
def BoundsGilbertUptoSaid : Prop := boundsGilbertUptoRow.holds Try.pinned (OpenSpec.upto boundsGilbertSpec)

/-- 'codewrightlaw34.BoundsPerfect', WHERE WHAT IT READS IS OF BULK AT MOST 1048576: true; the input reads as it did. -/
def boundsPerfectUptoRow : OpenClaim := { program := "ytgininddoalenaa", sum := "e9fb9b33e1ff61b1d6f8186091b41e5efeb222610bf26ce46ca215cafec143d7", func := "codewright/codewrightlaw34.BoundsPerfect", spec := "boundsPerfect", apart := false, narrowed := true }
def BoundsPerfectUptoSaid : Prop := boundsPerfectUptoRow.holds Try.pinned (OpenSpec.upto boundsPerfectSpec)

/-- 'codewrightlaw34.BoundsElias', WHERE WHAT IT READS IS OF BULK AT MOST 1048576: true; the input reads as it did. -/
def boundsEliasUptoRow : OpenClaim := { program := "ytgininddoalenaa", sum := "e9fb9b33e1ff61b1d6f8186091b41e5efeb222610bf26ce46ca215cafec143d7", func := "codewright/codewrightlaw34.BoundsElias", spec := "boundsElias", apart := false, narrowed := true }
def BoundsEliasUptoSaid : Prop := boundsEliasUptoRow.holds Try.pinned (OpenSpec.upto boundsEliasSpec)

/-- 'codewrightlaw34.BoundsFormulas', WHERE WHAT IT READS IS OF BULK AT MOST 1048576: true; the input reads as it did. -/
def boundsFormulasUptoRow : OpenClaim := { program := "ytgininddoalenaa", sum := "e9fb9b33e1ff61b1d6f8186091b41e5efeb222610bf26ce46ca215cafec143d7", func := "codewright/codewrightlaw34.BoundsFormulas", spec := "boundsFormulas", apart := false, narrowed := true }
def BoundsFormulasUptoSaid : Prop := boundsFormulasUptoRow.holds Try.pinned (OpenSpec.upto boundsFormulasSpec)

/-- 'codewrightlaw34.BoundsWords', WHERE WHAT IT READS IS OF BULK AT MOST 1048576: true; the input reads as it did. -/
def boundsWordsUptoRow : OpenClaim := { program := "ytgininddoalenaa", sum := "e9fb9b33e1ff61b1d6f8186091b41e5efeb222610bf26ce46ca215cafec143d7", func := "codewright/codewrightlaw34.BoundsWords", spec := "boundsWords", apart := false, narrowed := true }
def BoundsWordsUptoSaid : Prop := boundsWordsUptoRow.holds Try.pinned (OpenSpec.upto boundsWordsSpec)

/-- 'codewrightlaw34.BoundsJohnson', WHERE WHAT IT READS IS OF BULK AT MOST 1048576: true; the input reads as it did. -/
def boundsJohnsonUptoRow : OpenClaim := { program := "ytgininddoalenaa", sum := "e9fb9b33e1ff61b1d6f8186091b41e5efeb222610bf26ce46ca215cafec143d7", func := "codewright/codewrightlaw34.BoundsJohnson", spec := "boundsJohnson", recurses := true, apart := false, narrowed := true }
def BoundsJohnsonUptoSaid : Prop := boundsJohnsonUptoRow.holds Try.pinned (OpenSpec.upto boundsJohnsonSpec)

/-- 'codewrightlaw34.BoundsBinary', WHERE WHAT IT READS IS OF BULK AT MOST 1048576: true; the input reads as it did. -/
def boundsBinaryUptoRow : OpenClaim := { program := "ytgininddoalenaa", sum := "e9fb9b33e1ff61b1d6f8186091b41e5efeb222610bf26ce46ca215cafec143d7", func := "codewright/codewrightlaw34.BoundsBinary", spec := "boundsBinary", recurses := true, apart := false, narrowed := true }
def BoundsBinaryUptoSaid : Prop := boundsBinaryUptoRow.holds Try.pinned (OpenSpec.upto boundsBinarySpec)

/-- 'codewrightlaw34.BoundsBest', WHERE WHAT IT READS IS OF BULK AT MOST 1048576: true; the input reads as it did. -/
def boundsBestUptoRow : OpenClaim := { program := "ytgininddoalenaa", sum := "e9fb9b33e1ff61b1d6f8186091b41e5efeb222610bf26ce46ca215cafec143d7", func := "codewright/codewrightlaw34.BoundsBest", spec := "boundsBest", unfollowed := true, recurses := true, apart := false, narrowed := true }
def BoundsBestUptoSaid : Prop := boundsBestUptoRow.holds Try.pinned (OpenSpec.upto boundsBestSpec)

/-- 'codewrightlaw34.BoundsBetween', WHERE WHAT IT READS IS OF BULK AT MOST 1048576: true; the input reads as it did. -/
def boundsBetweenUptoRow : OpenClaim := { program := "ytgininddoalenaa", sum := "e9fb9b33e1ff61b1d6f8186091b41e5efeb222610bf26ce46ca215cafec143d7", func := "codewright/codewrightlaw34.BoundsBetween", spec := "boundsBetween", unfollowed := true, recurses := true, apart := false, narrowed := true }
def BoundsBetweenUptoSaid : Prop := boundsBetweenUptoRow.holds Try.pinned (OpenSpec.upto boundsBetweenSpec)

/-- 'codewrightlaw34.BoundsHeavy', WHERE WHAT IT READS IS OF BULK AT MOST 1048576: true; the input reads as it did. -/
def boundsHeavyUptoRow : OpenClaim := { program := "ytgininddoalenaa", sum := "e9fb9b33e1ff61b1d6f8186091b41e5efeb222610bf26ce46ca215cafec143d7", func := "codewright/codewrightlaw34.BoundsHeavy", spec := "boundsHeavy", unfollowed := true, recurses := true, apart := false, narrowed := true }
def BoundsHeavyUptoSaid : Prop := boundsHeavyUptoRow.holds Try.pinned (OpenSpec.upto boundsHeavySpec)

/-- 'codewrightlaw34.BoundsVarshamov', WHERE WHAT IT READS IS OF BULK AT MOST 1048576: true; the input reads as it did. -/
def boundsVarshamovUptoRow : OpenClaim := { program := "ytgininddoalenaa", sum := "e9fb9b33e1ff61b1d6f8186091b41e5efeb222610bf26ce46ca215cafec143d7", func := "codewright/codewrightlaw34.BoundsVarshamov", spec := "boundsVarshamov", unfollowed := true, recurses := true, apart := false, narrowed := true }
def BoundsVarshamovUptoSaid : Prop := boundsVarshamovUptoRow.holds Try.pinned (OpenSpec.upto boundsVarshamovSpec)

end Rows
end Go.Proofs.Ytgininddoalenaa
