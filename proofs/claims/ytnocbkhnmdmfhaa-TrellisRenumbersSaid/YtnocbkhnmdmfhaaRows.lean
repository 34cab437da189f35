/-
  No cell of these rows narrows 'for every input' (looked for: loops, veiled, ifaces, maps, wideKeys, modest, calm, conditions, laid).
  DERIVED. THE GIVEN ROWS OF THIS SEAT. 7 by the template 'for every input the law returns true; each argument reads behind the call as it read before'; 0 by the template 'total and deterministic' (their statements: YtnocbkhnmdmfhaaTotals.lean).
  GIVEN WITH THE SEED: the statements are not yours to turn. If you find one false, say at which input.
  Laid BY PROGRAM, IN A SANDBOX (cutbox-rows.mjs): the forced cells as the released guide's own fill.sh prints them over the translation 209f4ff71d4ffedb… (all of the seat's roots in one cut). By AI agents, Wed Nov 11 2026. No macro, syntax, notation, axiom, sorry.
-/
import Derived.Test.YtnocbkhnmdmfhaaChecked
import GoSem.Claim
import GoSem.ClaimJoined
import GoSem.ClaimMapViews
import Derived.JoinedTies
import Derived.KernelRfl
namespace Go.Proofs.Ytnocbkhnmdmfhaa
/- THE CELL 'sum', in the pinned program and in every row, IS THE sha256 OF THE DUMP (.gsa) THAT YtnocbkhnmdmfhaaProg.lean LOADS. Nothing in Lean hashes anything: it is a label: what it is worth is what the hold of that sum in a sandbox is worth. -/
noncomputable def Try.pinned : Pinned := { name := "ytnocbkhnmdmfhaa", sum := "209f4ff71d4ffedb76b088e837f2c90341aa846ee40b394d9853ae74bd824c18", checked := Try.checked }
namespace Rows
def none {H : Type} : Left H := { results := [], args := [] }

/-- 'codewrightlaw49.ViterbiAlong': WHATEVER THE INPUT: true; the input reads as it did. -/
def viterbiAlongSpec : ChangeSpec := { name := "viterbiAlong", fn := fun _ => fun
  | [d1, d2] => { results := [.lit (.bool true)], args := [d1, d2] }
  | _ => none }
def viterbiAlongRow : OpenClaim := { program := "ytnocbkhnmdmfhaa", sum := "209f4ff71d4ffedb76b088e837f2c90341aa846ee40b394d9853ae74bd824c18", func := "codewright/codewrightlaw49.ViterbiAlong", spec := "viterbiAlong", unfollowed := true, recurses := true, apart := false }
def ViterbiAlongSaid : Prop := viterbiAlongRow.holds Try.pinned (OpenSpec.ofChange viterbiAlongSpec)

/-- ITS FALSE NEIGHBOUR: 'it returns false'. Refute it at one input. -/
def viterbiAlongWrong : ChangeSpec := { name := "viterbiAlong", fn := fun _ => fun
  | [d1, d2] => { results := [.lit (.bool false)], args := [d1, d2] }
  | _ => none }
def ViterbiAlongWrongFalsely : Prop := viterbiAlongRow.holds Try.pinned (OpenSpec.ofChange viterbiAlongWrong)

/-- 'codewrightlaw47.TrellisProper': WHATEVER THE INPUT: true; the input reads as it did. -/
def trellisProperSpec : ChangeSpec := { name := "trellisProper", fn := fun _ => fun
  | [d] => { results := [.lit (.bool true)], args := [d] }
  | _ => none }
def trellisProperRow : OpenClaim := { program := "ytnocbkhnmdmfhaa", sum := "209f4ff71d4ffedb76b088e837f2c90341aa846ee40b394d9853ae74bd824c18", func := "codewright/codewrightlaw47.TrellisProper", spec := "trellisProper", unfollowed := true, recurses := true, apart := false }
def TrellisProperSaid : Prop := trellisProperRow.holds Try.pinned (OpenSpec.ofChange trellisProperSpec)

/-- ITS FALSE NEIGHBOUR: 'it returns false'. Refute it at one input. -/
def trellisProperWrong : ChangeSpec := { name := "trellisProper", fn := fun _ => fun
  | [d] => { results := [.lit (.bool false)], args := [d] }
  | _ => none }
def TrellisProperWrongFalsely : Prop := trellisProperRow.holds Try.pinned (OpenSpec.ofChange trellisProperWrong)

/-- 'codewrightlaw49.ViterbiEnumerates': WHATEVER THE INPUT: true; the input reads as it did. -/
def viterbiEnumeratesSpec : ChangeSpec := { name := "viterbiEnumerates", fn := fun _ => fun
  | [d] => { results := [.lit (.bool true)], args := [d] }
  | _ => none }
def viterbiEnumeratesRow : OpenClaim := { program := "ytnocbkhnmdmfhaa", sum := "209f4ff71d4ffedb76b088e837f2c90341aa846ee40b394d9853ae74bd824c18", func := "codewright/codewrightlaw49.ViterbiEnumerates", spec := "viterbiEnumerates", unfollowed := true, recurses := true, apart := false }
def ViterbiEnumeratesSaid : Prop := viterbiEnumeratesRow.holds Try.pinned (OpenSpec.ofChange viterbiEnumeratesSpec)

/-- ITS FALSE NEIGHBOUR: 'it returns false'. Refute it at one input. -/
def viterbiEnumeratesWrong : ChangeSpec := { name := "viterbiEnumerates", fn := fun _ => fun
  | [d] => { results := [.lit (.bool false)], args := [d] }
  | _ => none }
def ViterbiEnumeratesWrongFalsely : Prop := viterbiEnumeratesRow.holds Try.pinned (OpenSpec.ofChange viterbiEnumeratesWrong)

/-- 'codewrightlaw47.TrellisAccepts': WHATEVER THE INPUT: true; the input reads as it did. -/
def trellisAcceptsSpec : ChangeSpec := { name := "trellisAccepts", fn := fun _ => fun
  | [d1, d2] => { results := [.lit (.bool true)], args := [d1, d2] }
  | _ => none }
def trellisAcceptsRow : OpenClaim := { program := "ytnocbkhnmdmfhaa", sum := "209f4ff71d4ffedb76b088e837f2c90341aa846ee40b394d9853ae74bd824c18", func := "codewright/codewrightlaw47.TrellisAccepts", spec := "trellisAccepts", unfollowed := true, recurses := true, apart := false }
def TrellisAcceptsSaid : Prop := trellisAcceptsRow.holds Try.pinned (OpenSpec.ofChange trellisAcceptsSpec)

/-- ITS FALSE NEIGHBOUR: 'it returns false'. Refute it at one input. -/
def trellisAcceptsWrong : ChangeSpec := { name := "trellisAccepts", fn := fun _ => fun
  | [d1, d2] => { results := [.lit (.bool false)], args := [d1, d2] }
  | _ => none }
def TrellisAcceptsWrongFalsely : Prop := trellisAcceptsRow.holds Try.pinned (OpenSpec.ofChange trellisAcceptsWrong)

/-- 'codewrightlaw47.TrellisPaths': WHATEVER THE INPUT: true; the input reads as it did. -/
def trellisPathsSpec : ChangeSpec := { name := "trellisPaths", fn := fun _ => fun
  | [d] => { results := [.lit (.bool true)], args := [d] }
  | _ => none }
def trellisPathsRow : OpenClaim := { program := "ytnocbkhnmdmfhaa", sum := "209f4ff71d4ffedb76b088e837f2c90341aa846ee40b394d9853ae74bd824c18", func := "codewright/codewrightlaw47.TrellisPaths", spec := "trellisPaths", unfollowed := true, recurses := true, apart := false }
def TrellisPathsSaid : Prop := trellisPathsRow.holds Try.pinned (OpenSpec.ofChange trellisPathsSpec)

/-- ITS FALSE NEIGHBOUR: 'it returns false'. Refute it at one input. -/
def trellisPathsWrong : ChangeSpec := { name := "trellisPaths", fn := fun _ => fun
  | [d] => { results := [.lit (.bool false)], args := [d] }
  | _ => none }
def TrellisPathsWrongFalsely : Prop := trellisPathsRow.holds Try.pinned (OpenSpec.ofChange trellisPathsWrong)

/-- 'codewrightlaw47.TrellisRenumbers': WHATEVER THE INPUT: true; the input reads as it did. -/
def trellisRenumbersSpec : ChangeSpec := { name := "trellisRenumbers", fn := fun _ => fun
  | [d1, d2] => { results := [.lit (.bool true)], args := [d1, d2] }
  | _ => none }
def trellisRenumbersRow : OpenClaim := { program := "ytnocbkhnmdmfhaa", sum := "209f4ff71d4ffedb76b088e837f2c90341aa846ee40b394d9853ae74bd824c18", func := "codewright/codewrightlaw47.TrellisRenumbers", spec := "trellisRenumbers", unfollowed := true, recurses := true, apart := false }
def TrellisRenumbersSaid : Prop := trellisRenumbersRow.holds Try.pinned (OpenSpec.ofChange trellisRenumbersSpec)

/-- ITS FALSE NEIGHBOUR: 'it returns false'. Refute it at one input. -/
def trellisRenumbersWrong : ChangeSpec := { name := "trellisRenumbers", fn := fun _ => fun
  | [d1, d2] => { results := [.lit (.bool false)], args := [d1, d2] }
  | _ => none }
def TrellisRenumbersWrongFalsely : Prop := trellisRenumbersRow.holds Try.pinned (OpenSpec.ofChange trellisRenumbersWrong)

/-- 'codewrightlaw47.TrellisIsomorphic': WHATEVER THE INPUT: true; the input reads as it did. -/
def trellisIsomorphicSpec : ChangeSpec := { name := "trellisIsomorphic", fn := fun _ => fun
  | [d1, d2] => { results := [.lit (.bool true)], args := [d1, d2] }
  | _ => none }
def trellisIsomorphicRow : OpenClaim := { program := "ytnocbkhnmdmfhaa", sum := "209f4ff71d4ffedb76b088e837f2c90341aa846ee40b394d9853ae74bd824c18", func := "codewright/codewrightlaw47.TrellisIsomorphic", spec := "trellisIsomorphic", unfollowed := true, recurses := true, apart := false }
def TrellisIsomorphicSaid : Prop := trellisIsomorphicRow.holds Try.pinned (OpenSpec.ofChange trellisIsomorphicSpec)

/-- ITS FALSE NEIGHBOUR: 'it returns false'. Refute it at one input. -/
def trellisIsomorphicWrong : ChangeSpec := { name := "trellisIsomorphic", fn := fun _ => fun
  | [d1, d2] => { results := [.lit (.bool false)], args := [d1, d2] }
  | _ => none }
def TrellisIsomorphicWrongFalsely : Prop := trellisIsomorphicRow.holds Try.pinned (OpenSpec.ofChange trellisIsomorphicWrong)

/- THE SECOND FORM. 'bulk': how many values and letters a reading holds, each counted each time it is reached (what is shared counts as often as it is met; a slice's spare places count too). A statement '..UptoSaid' is the law's where the arguments, and the package variables that the reading takes, are together of bulk at most 1048576: NARROWER than '..Said'. Prove '..Said' where nothing that the law and all that it calls make is longer than what came in: it says more and counts as full. Else prove '..UptoSaid'. A law counts once. -/
mutual
def uptoBulk {H : Type} : DataW H → Nat
  | .lit (.string bytes) => bytes.length + 1
  | .lit _ => 1
  | .nil => 1
  | .ptr d => uptoBulk d + 1
  | .slice elems spare => uptoBulkAll elems + uptoBulkAll spare + 1
  | .agg parts => uptoBulkAll parts + 1
  | .iface _ d => uptoBulk d + 1
  | .map entries => uptoBulkEntries entries + 1
  | .held _ => 1
def uptoBulkAll {H : Type} : List (DataW H) → Nat
  | [] => 0
  | d :: r => uptoBulk d + uptoBulkAll r
def uptoBulkEntries {H : Type} : List (Lit × DataW H) → Nat
  | [] => 0
  | x :: r => uptoBulkEntry x + uptoBulkEntries r
def uptoBulkEntry {H : Type} : Lit × DataW H → Nat
  | (.string bytes, d) => bytes.length + uptoBulk d + 1
  | (_, d) => uptoBulk d + 1
 end
def uptoSmall : (H : Type) → List (DataW H) → Bool := fun _ ds => decide (uptoBulkAll ds ≤ 1048576)
def OpenSpec.upto (s : _root_.Go.ChangeSpec) : _root_.Go.OpenSpec := { _root_.Go.OpenSpec.ofChange s with cond := some uptoSmall }

/-- 'codewrightlaw49.ViterbiAlong', WHERE WHAT IT READS IS OF BULK AT MOST 1048576: true; the input reads as it did. -/
def viterbiAlongUptoRow : OpenClaim := { program := "ytnocbkhnmdmfhaa", sum := "209f4ff71d4ffedb76b088e837f2c90341aa846ee40b394d9853ae74bd824c18", func := "codewright/codewrightlaw49.ViterbiAlong", spec := "viterbiAlong", unfollowed := true, recurses := true, apart := false, narrowed := true }
def ViterbiAlongUptoSaid : Prop := viterbiAlongUptoRow.holds Try.pinned (OpenSpec.upto viterbiAlongSpec)

/-- 'codewrightlaw47.TrellisProper', WHERE WHAT IT READS IS OF BULK AT MOST 1048576: true; the input reads as it did. -/
def trellisProperUptoRow : OpenClaim := { program := "ytnocbkhnmdmfhaa", sum := "209f4ff71d4ffedb76b088e837f2c90341aa846ee40b394d9853ae74bd824c18", func := "codewright/codewrightlaw47.TrellisProper", spec := "trellisProper", unfollowed := true, recurses := true, apart := false, narrowed := true }
def TrellisProperUptoSaid : Prop := trellisProperUptoRow.holds Try.pinned (OpenSpec.upto trellisProperSpec)

/-- 'codewrightlaw49.ViterbiEnumerates', WHERE WHAT IT READS IS OF BULK AT MOST 1048576: true; the input reads as it did. -/
def viterbiEnumeratesUptoRow : OpenClaim := { program := "ytnocbkhnmdmfhaa", sum := "209f4ff71d4ffedb76b088e837f2c90341aa846ee40b394d9853ae74bd824c18", func := "codewright/codewrightlaw49.ViterbiEnumerates", spec := "viterbiEnumerates", unfollowed := true, recurses := true, apart := false, narrowed := true }
def ViterbiEnumeratesUptoSaid : Prop := viterbiEnumeratesUptoRow.holds Try.pinned (OpenSpec.upto viterbiEnumeratesSpec)

/-- 'codewrightlaw47.TrellisAccepts', WHERE WHAT IT READS IS OF BULK AT MOST 1048576: true; the input reads as it did. -/
def trellisAcceptsUptoRow : OpenClaim := { program := "ytnocbkhnmdmfhaa", sum := "209f4ff71d4ffedb76b088e837f2c90341aa846ee40b394d9853ae74bd824c18", func := "codewright/codewrightlaw47.TrellisAccepts", spec := "trellisAccepts", unfollowed := true, recurses := true, apart := false, narrowed := true }
def TrellisAcceptsUptoSaid : Prop := trellisAcceptsUptoRow.holds Try.pinned (OpenSpec.upto trellisAcceptsSpec)

/-- 'codewrightlaw47.TrellisPaths', WHERE WHAT IT READS IS OF BULK AT MOST 1048576: true; the input reads as it did. -/
def trellisPathsUptoRow : OpenClaim := { program := "ytnocbkhnmdmfhaa", sum := "209f4ff71d4ffedb76b088e837f2c90341aa846ee40b394d9853ae74bd824c18", func := "codewright/codewrightlaw47.TrellisPaths", spec := "trellisPaths", unfollowed := true, recurses := true, apart := false, narrowed := true }
def TrellisPathsUptoSaid : Prop := trellisPathsUptoRow.holds Try.pinned (OpenSpec.upto trellisPathsSpec)

/-- 'codewrightlaw47.TrellisRenumbers', WHERE WHAT IT READS IS OF BULK AT MOST 1048576: true; the input reads as it did. -/
def trellisRenumbersUptoRow : OpenClaim := { program := "ytnocbkhnmdmfhaa", sum := "209f4ff71d4ffedb76b088e837f2c90341aa846ee40b394d9853ae74bd824c18", func := "codewright/codewrightlaw47.TrellisRenumbers", spec := "trellisRenumbers", unfollowed := true, recurses := true, apart := false, narrowed := true }
def TrellisRenumbersUptoSaid : Prop := trellisRenumbersUptoRow.holds Try.pinned (OpenSpec.upto trellisRenumbersSpec)

/-- 'codewrightlaw47.TrellisIsomorphic', WHERE WHAT IT READS IS OF BULK AT MOST 1048576: true; the input reads as it did. -/
def trellisIsomorphicUptoRow : OpenClaim := { program := "ytnocbkhnmdmfhaa", sum := "209f4ff71d4ffedb76b088e837f2c90341aa846ee40b394d9853ae74bd824c18", func := "codewright/codewrightlaw47.TrellisIsomorphic", spec := "trellisIsomorphic", unfollowed := true, recurses := true, apart := false, narrowed := true }
def TrellisIsomorphicUptoSaid : Prop := trellisIsomorphicUptoRow.holds Try.pinned (OpenSpec.upto trellisIsomorphicSpec)

end Rows
end Go.Proofs.Ytnocbkhnmdmfhaa
