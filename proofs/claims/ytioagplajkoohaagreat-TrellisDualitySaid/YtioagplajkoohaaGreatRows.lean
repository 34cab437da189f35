/-
  No cell of these rows narrows 'for every input' (looked for: loops, veiled, ifaces, maps, wideKeys, modest, calm, conditions, laid).
  DERIVED. THE GIVEN ROWS OF THIS SEAT. 10 by the template 'for every input the law returns true; each argument reads behind the call as it read before'; 0 by the template 'total and deterministic' (their statements: YtioagplajkoohaaGreatTotals.lean).
  GIVEN WITH THE SEED: the statements are not yours to turn. If you find one false, say at which input.
  Laid BY PROGRAM, IN A SANDBOX (cutbox-rows.mjs): the forced cells as the released guide's own fill.sh prints them over the translation e1d9bdd83fce694d… (all of the seat's roots in one cut). By AI agents, Wed Nov 11 2026. No macro, syntax, notation, axiom, sorry.
-/
import Derived.Test.YtioagplajkoohaaGreatChecked
import GoSem.Claim
import GoSem.ClaimJoined
import GoSem.ClaimMapViews
import Derived.JoinedTies
import Derived.KernelRfl
namespace Go.Proofs.YtioagplajkoohaaGreat
/- THE CELL 'sum', in the pinned program and in every row, IS THE sha256 OF THE DUMP (.gsa) THAT YtioagplajkoohaaGreatProg.lean LOADS. Nothing in Lean hashes anything: it is a label: what it is worth is what the hold of that sum in a sandbox is worth. -/
noncomputable def Tryz.pinned : Pinned := { name := "ytioagplajkoohaagreat", sum := "e1d9bdd83fce694d00bc2fe9ecde22406958ac2b877ced1803f8467db56ec0e5", checked := Tryz.checked }
namespace Rows
def none {H : Type} : Left H := { results := [], args := [] }

/-- 'codewrightlaw55.ChannelRecover': WHATEVER THE INPUT: true; the input reads as it did. -/
def channelRecoverSpec : ChangeSpec := { name := "channelRecover", fn := fun _ => fun
  | [d] => { results := [.lit (.bool true)], args := [d] }
  | _ => none }
def channelRecoverRow : OpenClaim := { program := "ytioagplajkoohaagreat", sum := "e1d9bdd83fce694d00bc2fe9ecde22406958ac2b877ced1803f8467db56ec0e5", func := "codewright/codewrightlaw55.ChannelRecover", spec := "channelRecover", unfollowed := true, recurses := true, apart := false }
def ChannelRecoverSaid : Prop := channelRecoverRow.holds Tryz.pinned (OpenSpec.ofChange channelRecoverSpec)

/-- ITS FALSE NEIGHBOUR: 'it returns false'. Refute it at one input. -/
def channelRecoverWrong : ChangeSpec := { name := "channelRecover", fn := fun _ => fun
  | [d] => { results := [.lit (.bool false)], args := [d] }
  | _ => none }
def ChannelRecoverWrongFalsely : Prop := channelRecoverRow.holds Tryz.pinned (OpenSpec.ofChange channelRecoverWrong)

/-- 'codewrightlaw55.ChannelContracts': WHATEVER THE INPUT: true; the input reads as it did. -/
def channelContractsSpec : ChangeSpec := { name := "channelContracts", fn := fun _ => fun
  | [d1, d2] => { results := [.lit (.bool true)], args := [d1, d2] }
  | _ => none }
def channelContractsRow : OpenClaim := { program := "ytioagplajkoohaagreat", sum := "e1d9bdd83fce694d00bc2fe9ecde22406958ac2b877ced1803f8467db56ec0e5", func := "codewright/codewrightlaw55.ChannelContracts", spec := "channelContracts", unfollowed := true, recurses := true, apart := false }
def ChannelContractsSaid : Prop := channelContractsRow.holds Tryz.pinned (OpenSpec.ofChange channelContractsSpec)

/-- ITS FALSE NEIGHBOUR: 'it returns false'. Refute it at one input. -/
def channelContractsWrong : ChangeSpec := { name := "channelContracts", fn := fun _ => fun
  | [d1, d2] => { results := [.lit (.bool false)], args := [d1, d2] }
  | _ => none }
def ChannelContractsWrongFalsely : Prop := channelContractsRow.holds Tryz.pinned (OpenSpec.ofChange channelContractsWrong)

/-- 'codewrightlaw55.ChannelFalls': WHATEVER THE INPUT: true; the input reads as it did. -/
def channelFallsSpec : ChangeSpec := { name := "channelFalls", fn := fun _ => fun
  | [d1, d2, d3] => { results := [.lit (.bool true)], args := [d1, d2, d3] }
  | _ => none }
def channelFallsRow : OpenClaim := { program := "ytioagplajkoohaagreat", sum := "e1d9bdd83fce694d00bc2fe9ecde22406958ac2b877ced1803f8467db56ec0e5", func := "codewright/codewrightlaw55.ChannelFalls", spec := "channelFalls", unfollowed := true, recurses := true, apart := false }
def ChannelFallsSaid : Prop := channelFallsRow.holds Tryz.pinned (OpenSpec.ofChange channelFallsSpec)

/-- ITS FALSE NEIGHBOUR: 'it returns false'. Refute it at one input. -/
def channelFallsWrong : ChangeSpec := { name := "channelFalls", fn := fun _ => fun
  | [d1, d2, d3] => { results := [.lit (.bool false)], args := [d1, d2, d3] }
  | _ => none }
def ChannelFallsWrongFalsely : Prop := channelFallsRow.holds Tryz.pinned (OpenSpec.ofChange channelFallsWrong)

/-- 'codewrightlaw55.ChannelLeaders': WHATEVER THE INPUT: true; the input reads as it did. -/
def channelLeadersSpec : ChangeSpec := { name := "channelLeaders", fn := fun _ => fun
  | [d1, d2, d3] => { results := [.lit (.bool true)], args := [d1, d2, d3] }
  | _ => none }
def channelLeadersRow : OpenClaim := { program := "ytioagplajkoohaagreat", sum := "e1d9bdd83fce694d00bc2fe9ecde22406958ac2b877ced1803f8467db56ec0e5", func := "codewright/codewrightlaw55.ChannelLeaders", spec := "channelLeaders", unfollowed := true, recurses := true, apart := false }
def ChannelLeadersSaid : Prop := channelLeadersRow.holds Tryz.pinned (OpenSpec.ofChange channelLeadersSpec)

/-- ITS FALSE NEIGHBOUR: 'it returns false'. Refute it at one input. -/
def channelLeadersWrong : ChangeSpec := { name := "channelLeaders", fn := fun _ => fun
  | [d1, d2, d3] => { results := [.lit (.bool false)], args := [d1, d2, d3] }
  | _ => none }
def ChannelLeadersWrongFalsely : Prop := channelLeadersRow.holds Tryz.pinned (OpenSpec.ofChange channelLeadersWrong)

/-- 'codewrightlaw47.TrellisSpans': WHATEVER THE INPUT: true; the input reads as it did. -/
def trellisSpansSpec : ChangeSpec := { name := "trellisSpans", fn := fun _ => fun
  | [d] => { results := [.lit (.bool true)], args := [d] }
  | _ => none }
def trellisSpansRow : OpenClaim := { program := "ytioagplajkoohaagreat", sum := "e1d9bdd83fce694d00bc2fe9ecde22406958ac2b877ced1803f8467db56ec0e5", func := "codewright/codewrightlaw47.TrellisSpans", spec := "trellisSpans", unfollowed := true, recurses := true, apart := false }
def TrellisSpansSaid : Prop := trellisSpansRow.holds Tryz.pinned (OpenSpec.ofChange trellisSpansSpec)

/-- ITS FALSE NEIGHBOUR: 'it returns false'. Refute it at one input. -/
def trellisSpansWrong : ChangeSpec := { name := "trellisSpans", fn := fun _ => fun
  | [d] => { results := [.lit (.bool false)], args := [d] }
  | _ => none }
def TrellisSpansWrongFalsely : Prop := trellisSpansRow.holds Tryz.pinned (OpenSpec.ofChange trellisSpansWrong)

/-- 'codewrightlaw47.TrellisChecks': WHATEVER THE INPUT: true; the input reads as it did. -/
def trellisChecksSpec : ChangeSpec := { name := "trellisChecks", fn := fun _ => fun
  | [d1, d2] => { results := [.lit (.bool true)], args := [d1, d2] }
  | _ => none }
def trellisChecksRow : OpenClaim := { program := "ytioagplajkoohaagreat", sum := "e1d9bdd83fce694d00bc2fe9ecde22406958ac2b877ced1803f8467db56ec0e5", func := "codewright/codewrightlaw47.TrellisChecks", spec := "trellisChecks", unfollowed := true, recurses := true, apart := false }
def TrellisChecksSaid : Prop := trellisChecksRow.holds Tryz.pinned (OpenSpec.ofChange trellisChecksSpec)

/-- ITS FALSE NEIGHBOUR: 'it returns false'. Refute it at one input. -/
def trellisChecksWrong : ChangeSpec := { name := "trellisChecks", fn := fun _ => fun
  | [d1, d2] => { results := [.lit (.bool false)], args := [d1, d2] }
  | _ => none }
def TrellisChecksWrongFalsely : Prop := trellisChecksRow.holds Tryz.pinned (OpenSpec.ofChange trellisChecksWrong)

/-- 'codewrightlaw47.TrellisDuality': WHATEVER THE INPUT: true; the input reads as it did. -/
def trellisDualitySpec : ChangeSpec := { name := "trellisDuality", fn := fun _ => fun
  | [d] => { results := [.lit (.bool true)], args := [d] }
  | _ => none }
def trellisDualityRow : OpenClaim := { program := "ytioagplajkoohaagreat", sum := "e1d9bdd83fce694d00bc2fe9ecde22406958ac2b877ced1803f8467db56ec0e5", func := "codewright/codewrightlaw47.TrellisDuality", spec := "trellisDuality", unfollowed := true, recurses := true, apart := false }
def TrellisDualitySaid : Prop := trellisDualityRow.holds Tryz.pinned (OpenSpec.ofChange trellisDualitySpec)

/-- ITS FALSE NEIGHBOUR: 'it returns false'. Refute it at one input. -/
def trellisDualityWrong : ChangeSpec := { name := "trellisDuality", fn := fun _ => fun
  | [d] => { results := [.lit (.bool false)], args := [d] }
  | _ => none }
def TrellisDualityWrongFalsely : Prop := trellisDualityRow.holds Tryz.pinned (OpenSpec.ofChange trellisDualityWrong)

/-- 'codewrightlaw49.ViterbiAccepts': WHATEVER THE INPUT: true; the input reads as it did. -/
def viterbiAcceptsSpec : ChangeSpec := { name := "viterbiAccepts", fn := fun _ => fun
  | [d] => { results := [.lit (.bool true)], args := [d] }
  | _ => none }
def viterbiAcceptsRow : OpenClaim := { program := "ytioagplajkoohaagreat", sum := "e1d9bdd83fce694d00bc2fe9ecde22406958ac2b877ced1803f8467db56ec0e5", func := "codewright/codewrightlaw49.ViterbiAccepts", spec := "viterbiAccepts", unfollowed := true, recurses := true, apart := false }
def ViterbiAcceptsSaid : Prop := viterbiAcceptsRow.holds Tryz.pinned (OpenSpec.ofChange viterbiAcceptsSpec)

/-- ITS FALSE NEIGHBOUR: 'it returns false'. Refute it at one input. -/
def viterbiAcceptsWrong : ChangeSpec := { name := "viterbiAccepts", fn := fun _ => fun
  | [d] => { results := [.lit (.bool false)], args := [d] }
  | _ => none }
def ViterbiAcceptsWrongFalsely : Prop := viterbiAcceptsRow.holds Tryz.pinned (OpenSpec.ofChange viterbiAcceptsWrong)

/-- 'codewrightlaw49.ViterbiSound': WHATEVER THE INPUT: true; the input reads as it did. -/
def viterbiSoundSpec : ChangeSpec := { name := "viterbiSound", fn := fun _ => fun
  | [d] => { results := [.lit (.bool true)], args := [d] }
  | _ => none }
def viterbiSoundRow : OpenClaim := { program := "ytioagplajkoohaagreat", sum := "e1d9bdd83fce694d00bc2fe9ecde22406958ac2b877ced1803f8467db56ec0e5", func := "codewright/codewrightlaw49.ViterbiSound", spec := "viterbiSound", unfollowed := true, recurses := true, apart := false }
def ViterbiSoundSaid : Prop := viterbiSoundRow.holds Tryz.pinned (OpenSpec.ofChange viterbiSoundSpec)

/-- ITS FALSE NEIGHBOUR: 'it returns false'. Refute it at one input. -/
def viterbiSoundWrong : ChangeSpec := { name := "viterbiSound", fn := fun _ => fun
  | [d] => { results := [.lit (.bool false)], args := [d] }
  | _ => none }
def ViterbiSoundWrongFalsely : Prop := viterbiSoundRow.holds Tryz.pinned (OpenSpec.ofChange viterbiSoundWrong)

/-- 'codewrightlaw49.ViterbiPotentials': WHATEVER THE INPUT: true; the input reads as it did. -/
def viterbiPotentialsSpec : ChangeSpec := { name := "viterbiPotentials", fn := fun _ => fun
  | [d1, d2] => { results := [.lit (.bool true)], args := [d1, d2] }
  | _ => none }
def viterbiPotentialsRow : OpenClaim := { program := "ytioagplajkoohaagreat", sum := "e1d9bdd83fce694d00bc2fe9ecde22406958ac2b877ced1803f8467db56ec0e5", func := "codewright/codewrightlaw49.ViterbiPotentials", spec := "viterbiPotentials", unfollowed := true, recurses := true, apart := false }
def ViterbiPotentialsSaid : Prop := viterbiPotentialsRow.holds Tryz.pinned (OpenSpec.ofChange viterbiPotentialsSpec)

/-- ITS FALSE NEIGHBOUR: 'it returns false'. Refute it at one input. -/
def viterbiPotentialsWrong : ChangeSpec := { name := "viterbiPotentials", fn := fun _ => fun
  | [d1, d2] => { results := [.lit (.bool false)], args := [d1, d2] }
  | _ => none }
def ViterbiPotentialsWrongFalsely : Prop := viterbiPotentialsRow.holds Tryz.pinned (OpenSpec.ofChange viterbiPotentialsWrong)

/- THE SECOND FORM. 'bulk': how many values and letters a reading holds, each counted each time it is reached (what is shared counts as often as it is met; a slice's spare places count too). A statement '..UptoSaid' is the law's where the arguments, and the package variables that the reading takes, are together of bulk at most 1048576: NARROWER than '..Said'. Prove '..Said' where nothing that the law and all that it calls make is longer than what came in: it says more and counts as full. Else prove '..UptoSaid'. A law counts once. -/
mutual
def uptoBulk {H : Type} : DataW H → Nat
  | .lit (.string bytes) => bytes.length + 1
  | .lit _ => 1
  | .nil => 1
  | .ptr d => uptoBulk d + 1
  | .slice elems spare => uptoBulkAll elems + uptoBulkAll spare + 1
  | .agg parts => uptoBulkAll parts + 1
  | .iface _ d => uptoBulk d + 1
  | .map entries => uptoBulkEntries entries + 1
  | .held _ => 1
def uptoBulkAll {H : Type} : List (DataW H) → Nat
  | [] => 0
  | d :: r => uptoBulk d + uptoBulkAll r
def uptoBulkEntries {H : Type} : List (Lit × DataW H) → Nat
  | [] => 0
  | x :: r => uptoBulkEntry x + uptoBulkEntries r
def uptoBulkEntry {H : Type} : Lit × DataW H → Nat
  | (.string bytes, d) => bytes.length + uptoBulk d + 1
  | (_, d) => uptoBulk d + 1
 end
def uptoSmall : (H : Type) → List (DataW H) → Bool := fun _ ds => decide (uptoBulkAll ds ≤ 1048576)
def OpenSpec.upto (s : _root_.Go.ChangeSpec) : _root_.Go.OpenSpec := { _root_.Go.OpenSpec.ofChange s with cond := some uptoSmall }

/-- 'codewrightlaw55.ChannelRecover', WHERE WHAT IT READS IS OF BULK AT MOST 1048576: true; the input reads as it did. -/
def channelRecoverUptoRow : OpenClaim := { program := "ytioagplajkoohaagreat", sum := "e1d9bdd83fce694d00bc2fe9ecde22406958ac2b877ced1803f8467db56ec0e5", func := "codewright/codewrightlaw55.ChannelRecover", spec := "channelRecover", unfollowed := true, recurses := true, apart := false, narrowed := true }
def ChannelRecoverUptoSaid : Prop := channelRecoverUptoRow.holds Tryz.pinned (OpenSpec.upto channelRecoverSpec)

/-- 'codewrightlaw55.ChannelContracts', WHERE WHAT IT READS IS OF BULK AT MOST 1048576: true; the input reads as it did. -/
def channelContractsUptoRow : OpenClaim := { program := "ytioagplajkoohaagreat", sum := "e1d9bdd83fce694d00bc2fe9ecde22406958ac2b877ced1803f8467db56ec0e5", func := "codewright/codewrightlaw55.ChannelContracts", spec := "channelContracts", unfollowed := true, recurses := true, apart := false, narrowed := true }
def ChannelContractsUptoSaid : Prop := channelContractsUptoRow.holds Tryz.pinned (OpenSpec.upto channelContractsSpec)

/-- 'codewrightlaw55.ChannelFalls', WHERE WHAT IT READS IS OF BULK AT MOST 1048576: true; the input reads as it did. -/
def channelFallsUptoRow : OpenClaim := { program := "ytioagplajkoohaagreat", sum := "e1d9bdd83fce694d00bc2fe9ecde22406958ac2b877ced1803f8467db56ec0e5", func := "codewright/codewrightlaw55.ChannelFalls", spec := "channelFalls", unfollowed := true, recurses := true, apart := false, narrowed := true }
def ChannelFallsUptoSaid : Prop := channelFallsUptoRow.holds Tryz.pinned (OpenSpec.upto channelFallsSpec)

/-- 'codewrightlaw55.ChannelLeaders', WHERE WHAT IT READS IS OF BULK AT MOST 1048576: true; the input reads as it did. -/
def channelLeadersUptoRow : OpenClaim := { program := "ytioagplajkoohaagreat", sum := "e1d9bdd83fce694d00bc2fe9ecde22406958ac2b877ced1803f8467db56ec0e5", func := "codewright/codewrightlaw55.ChannelLeaders", spec := "channelLeaders", unfollowed := true, recurses := true, apart := false, narrowed := true }
def ChannelLeadersUptoSaid : Prop := channelLeadersUptoRow.holds Tryz.pinned (OpenSpec.upto channelLeadersSpec)

/-- 'codewrightlaw47.TrellisSpans', WHERE WHAT IT READS IS OF BULK AT MOST 1048576: true; the input reads as it did. -/
def trellisSpansUptoRow : OpenClaim := { program := "ytioagplajkoohaagreat", sum := "e1d9bdd83fce694d00bc2fe9ecde22406958ac2b877ced1803f8467db56ec0e5", func := "codewright/codewrightlaw47.TrellisSpans", spec := "trellisSpans", unfollowed := true, recurses := true, apart := false, narrowed := true }
def TrellisSpansUptoSaid : Prop := trellisSpansUptoRow.holds Tryz.pinned (OpenSpec.upto trellisSpansSpec)

/-- 'codewrightlaw47.TrellisChecks', WHERE WHAT IT READS IS OF BULK AT MOST 1048576: true; the input reads as it did. -/
def trellisChecksUptoRow : OpenClaim := { program := "ytioagplajkoohaagreat", sum := "e1d9bdd83fce694d00bc2fe9ecde22406958ac2b877ced1803f8467db56ec0e5", func := "codewright/codewrightlaw47.TrellisChecks", spec := "trellisChecks", unfollowed := true, recurses := true, apart := false, narrowed := true }
def TrellisChecksUptoSaid : Prop := trellisChecksUptoRow.holds Tryz.pinned (OpenSpec.upto trellisChecksSpec)

/-- 'codewrightlaw47.TrellisDuality', WHERE WHAT IT READS IS OF BULK AT MOST 1048576: true; the input reads as it did. -/
def trellisDualityUptoRow : OpenClaim := { program := "ytioagplajkoohaagreat", sum := "e1d9bdd83fce694d00bc2fe9ecde22406958ac2b877ced1803f8467db56ec0e5", func := "codewright/codewrightlaw47.TrellisDuality", spec := "trellisDuality", unfollowed := true, recurses := true, apart := false, narrowed := true }
def TrellisDualityUptoSaid : Prop := trellisDualityUptoRow.holds Tryz.pinned (OpenSpec.upto trellisDualitySpec)

/-- 'codewrightlaw49.ViterbiAccepts', WHERE WHAT IT READS IS OF BULK AT MOST 1048576: true; the input reads as it did. -/
def viterbiAcceptsUptoRow : OpenClaim := { program := "ytioagplajkoohaagreat", sum := "e1d9bdd83fce694d00bc2fe9ecde22406958ac2b877ced1803f8467db56ec0e5", func := "codewright/codewrightlaw49.ViterbiAccepts", spec := "viterbiAccepts", unfollowed := true, recurses := true, apart := false, narrowed := true }
def ViterbiAcceptsUptoSaid : Prop := viterbiAcceptsUptoRow.holds Tryz.pinned (OpenSpec.upto viterbiAcceptsSpec)

/-- 'codewrightlaw49.ViterbiSound', WHERE WHAT IT READS IS OF BULK AT MOST 1048576: true; the input reads as it did. -/
def viterbiSoundUptoRow : OpenClaim := { program := "ytioagplajkoohaagreat", sum := "e1d9bdd83fce694d00bc2fe9ecde22406958ac2b877ced1803f8467db56ec0e5", func := "codewright/codewrightlaw49.ViterbiSound", spec := "viterbiSound", unfollowed := true, recurses := true, apart := false, narrowed := true }
def ViterbiSoundUptoSaid : Prop := viterbiSoundUptoRow.holds Tryz.pinned (OpenSpec.upto viterbiSoundSpec)

/-- 'codewrightlaw49.ViterbiPotentials', WHERE WHAT IT READS IS OF BULK AT MOST 1048576: true; the input reads as it did. -/
def viterbiPotentialsUptoRow : OpenClaim := { program := "ytioagplajkoohaagreat", sum := "e1d9bdd83fce694d00bc2fe9ecde22406958ac2b877ced1803f8467db56ec0e5", func := "codewright/codewrightlaw49.ViterbiPotentials", spec := "viterbiPotentials", unfollowed := true, recurses := true, apart := false, narrowed := true }
def ViterbiPotentialsUptoSaid : Prop := viterbiPotentialsUptoRow.holds Tryz.pinned (OpenSpec.upto viterbiPotentialsSpec)

end Rows
end Go.Proofs.YtioagplajkoohaaGreat
