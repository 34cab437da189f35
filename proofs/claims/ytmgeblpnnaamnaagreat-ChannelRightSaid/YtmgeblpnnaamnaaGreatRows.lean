/-
  No cell of these rows narrows 'for every input' (looked for: loops, veiled, ifaces, maps, wideKeys, modest, calm, conditions, laid).
  DERIVED. THE GIVEN ROWS OF THIS SEAT. 6 by the template 'for every input the law returns true; each argument reads behind the call as it read before'; 0 by the template 'total and deterministic' (their statements: YtmgeblpnnaamnaaGreatTotals.lean).
  GIVEN WITH THE SEED: the statements are not yours to turn. If you find one false, say at which input.
  Laid BY PROGRAM, IN A SANDBOX (cutbox-rows.mjs): the forced cells as the released guide's own fill.sh prints them over the translation 72d5930eca38742f… (all of the seat's roots in one cut). By AI agents, Wed Nov 11 2026. No macro, syntax, notation, axiom, sorry.
-/
import Derived.Test.YtmgeblpnnaamnaaGreatChecked
import GoSem.Claim
import GoSem.ClaimJoined
import GoSem.ClaimMapViews
import Derived.JoinedTies
import Derived.KernelRfl
namespace Go.Proofs.YtmgeblpnnaamnaaGreat
/- THE CELL 'sum', in the pinned program and in every row, IS THE sha256 OF THE DUMP (.gsa) THAT YtmgeblpnnaamnaaGreatProg.lean LOADS. Nothing in Lean hashes anything: it is a label: what it is worth is what the hold of that sum in a sandbox is worth. -/
noncomputable def Tryz.pinned : Pinned := { name := "ytmgeblpnnaamnaagreat", sum := "72d5930eca38742f885769c59cb91a0a7359124b3c23b5797f6065a5d9e1c5be", checked := Tryz.checked }
namespace Rows
def none {H : Type} : Left H := { results := [], args := [] }

/-- 'codewrightlaw55.ChannelDual': WHATEVER THE INPUT: true; the input reads as it did. -/
def channelDualSpec : ChangeSpec := { name := "channelDual", fn := fun _ => fun
  | [d1, d2] => { results := [.lit (.bool true)], args := [d1, d2] }
  | _ => none }
def channelDualRow : OpenClaim := { program := "ytmgeblpnnaamnaagreat", sum := "72d5930eca38742f885769c59cb91a0a7359124b3c23b5797f6065a5d9e1c5be", func := "codewright/codewrightlaw55.ChannelDual", spec := "channelDual", apart := false }
def ChannelDualSaid : Prop := channelDualRow.holds Tryz.pinned (OpenSpec.ofChange channelDualSpec)

/-- ITS FALSE NEIGHBOUR: 'it returns false'. Refute it at one input. -/
def channelDualWrong : ChangeSpec := { name := "channelDual", fn := fun _ => fun
  | [d1, d2] => { results := [.lit (.bool false)], args := [d1, d2] }
  | _ => none }
def ChannelDualWrongFalsely : Prop := channelDualRow.holds Tryz.pinned (OpenSpec.ofChange channelDualWrong)

/-- 'codewrightlaw55.ChannelRecover': WHATEVER THE INPUT: true; the input reads as it did. -/
def channelRecoverSpec : ChangeSpec := { name := "channelRecover", fn := fun _ => fun
  | [d] => { results := [.lit (.bool true)], args := [d] }
  | _ => none }
def channelRecoverRow : OpenClaim := { program := "ytmgeblpnnaamnaagreat", sum := "72d5930eca38742f885769c59cb91a0a7359124b3c23b5797f6065a5d9e1c5be", func := "codewright/codewrightlaw55.ChannelRecover", spec := "channelRecover", unfollowed := true, recurses := true, apart := false }
def ChannelRecoverSaid : Prop := channelRecoverRow.holds Tryz.pinned (OpenSpec.ofChange channelRecoverSpec)

/-- ITS FALSE NEIGHBOUR: 'it returns false'. Refute it at one input. -/
def channelRecoverWrong : ChangeSpec := { name := "channelRecover", fn := fun _ => fun
  | [d] => { results := [.lit (.bool false)], args := [d] }
  | _ => none }
def ChannelRecoverWrongFalsely : Prop := channelRecoverRow.holds Tryz.pinned (OpenSpec.ofChange channelRecoverWrong)

/-- 'codewrightlaw55.ChannelContracts': WHATEVER THE INPUT: true; the input reads as it did. -/
def channelContractsSpec : ChangeSpec := { name := "channelContracts", fn := fun _ => fun
  | [d1, d2] => { results := [.lit (.bool true)], args := [d1, d2] }
  | _ => none }
def channelContractsRow : OpenClaim := { program := "ytmgeblpnnaamnaagreat", sum := "72d5930eca38742f885769c59cb91a0a7359124b3c23b5797f6065a5d9e1c5be", func := "codewright/codewrightlaw55.ChannelContracts", spec := "channelContracts", unfollowed := true, recurses := true, apart := false }
def ChannelContractsSaid : Prop := channelContractsRow.holds Tryz.pinned (OpenSpec.ofChange channelContractsSpec)

/-- ITS FALSE NEIGHBOUR: 'it returns false'. Refute it at one input. -/
def channelContractsWrong : ChangeSpec := { name := "channelContracts", fn := fun _ => fun
  | [d1, d2] => { results := [.lit (.bool false)], args := [d1, d2] }
  | _ => none }
def ChannelContractsWrongFalsely : Prop := channelContractsRow.holds Tryz.pinned (OpenSpec.ofChange channelContractsWrong)

/-- 'codewrightlaw55.ChannelFalls': WHATEVER THE INPUT: true; the input reads as it did. -/
def channelFallsSpec : ChangeSpec := { name := "channelFalls", fn := fun _ => fun
  | [d1, d2, d3] => { results := [.lit (.bool true)], args := [d1, d2, d3] }
  | _ => none }
def channelFallsRow : OpenClaim := { program := "ytmgeblpnnaamnaagreat", sum := "72d5930eca38742f885769c59cb91a0a7359124b3c23b5797f6065a5d9e1c5be", func := "codewright/codewrightlaw55.ChannelFalls", spec := "channelFalls", unfollowed := true, recurses := true, apart := false }
def ChannelFallsSaid : Prop := channelFallsRow.holds Tryz.pinned (OpenSpec.ofChange channelFallsSpec)

/-- ITS FALSE NEIGHBOUR: 'it returns false'. Refute it at one input. -/
def channelFallsWrong : ChangeSpec := { name := "channelFalls", fn := fun _ => fun
  | [d1, d2, d3] => { results := [.lit (.bool false)], args := [d1, d2, d3] }
  | _ => none }
def ChannelFallsWrongFalsely : Prop := channelFallsRow.holds Tryz.pinned (OpenSpec.ofChange channelFallsWrong)

/-- 'codewrightlaw55.ChannelRight': WHATEVER THE INPUT: true; the input reads as it did. -/
def channelRightSpec : ChangeSpec := { name := "channelRight", fn := fun _ => fun
  | [d1, d2] => { results := [.lit (.bool true)], args := [d1, d2] }
  | _ => none }
def channelRightRow : OpenClaim := { program := "ytmgeblpnnaamnaagreat", sum := "72d5930eca38742f885769c59cb91a0a7359124b3c23b5797f6065a5d9e1c5be", func := "codewright/codewrightlaw55.ChannelRight", spec := "channelRight", unfollowed := true, recurses := true, apart := false }
def ChannelRightSaid : Prop := channelRightRow.holds Tryz.pinned (OpenSpec.ofChange channelRightSpec)

/-- ITS FALSE NEIGHBOUR: 'it returns false'. Refute it at one input. -/
def channelRightWrong : ChangeSpec := { name := "channelRight", fn := fun _ => fun
  | [d1, d2] => { results := [.lit (.bool false)], args := [d1, d2] }
  | _ => none }
def ChannelRightWrongFalsely : Prop := channelRightRow.holds Tryz.pinned (OpenSpec.ofChange channelRightWrong)

/-- 'codewrightlaw55.ChannelLeaders': WHATEVER THE INPUT: true; the input reads as it did. -/
def channelLeadersSpec : ChangeSpec := { name := "channelLeaders", fn := fun _ => fun
  | [d1, d2, d3] => { results := [.lit (.bool true)], args := [d1, d2, d3] }
  | _ => none }
def channelLeadersRow : OpenClaim := { program := "ytmgeblpnnaamnaagreat", sum := "72d5930eca38742f885769c59cb91a0a7359124b3c23b5797f6065a5d9e1c5be", func := "codewright/codewrightlaw55.ChannelLeaders", spec := "channelLeaders", unfollowed := true, recurses := true, apart := false }
def ChannelLeadersSaid : Prop := channelLeadersRow.holds Tryz.pinned (OpenSpec.ofChange channelLeadersSpec)

/-- ITS FALSE NEIGHBOUR: 'it returns false'. Refute it at one input. -/
def channelLeadersWrong : ChangeSpec := { name := "channelLeaders", fn := fun _ => fun
  | [d1, d2, d3] => { results := [.lit (.bool false)], args := [d1, d2, d3] }
  | _ => none }
def ChannelLeadersWrongFalsely : Prop := channelLeadersRow.holds Tryz.pinned (OpenSpec.ofChange channelLeadersWrong)

/- THE SECOND FORM. 'bulk': how many values and letters a reading holds, each counted each time it is reached (what is shared counts as often as it is met; a slice's spare places count too). A statement '..UptoSaid' is the law's where the arguments, and the package variables that the reading takes, are together of bulk at most 1048576: NARROWER than '..Said'. Prove '..Said' where nothing that the law and all that it calls make is longer than what came in: it says more and counts as full. Else prove '..UptoSaid'. A law counts once. -/
mutual
def uptoBulk {H : Type} : DataW H → Nat
  | .lit (.string bytes) => bytes.length + 1
  | .lit _ => 1
  | .nil => 1
  | .ptr d => uptoBulk d + 1
  | .slice elems spare => uptoBulkAll elems + uptoBulkAll spare + 1
  | .agg parts => uptoBulkAll parts + 1
  | .iface _ d => uptoBulk d + 1
  | .map entries => uptoBulkEntries entries + 1
  | .held _ => 1
def uptoBulkAll {H : Type} : List (DataW H) → Nat
  | [] => 0
  | d :: r => uptoBulk d + uptoBulkAll r
def uptoBulkEntries {H : Type} : List (Lit × DataW H) → Nat
  | [] => 0
  | x :: r => uptoBulkEntry x + uptoBulkEntries r
def uptoBulkEntry {H : Type} : Lit × DataW H → Nat
  | (.string bytes, d) => bytes.length + uptoBulk d + 1
  | (_, d) => uptoBulk d + 1
 end
def uptoSmall : (H : Type) → List (DataW H) → Bool := fun _ ds => decide (uptoBulkAll ds ≤ 1048576)
def OpenSpec.upto (s : _root_.Go.ChangeSpec) : _root_.Go.OpenSpec := { _root_.Go.OpenSpec.ofChange s with cond := some uptoSmall }

/-- 'codewrightlaw55.ChannelDual', WHERE WHAT IT READS IS OF BULK AT MOST 1048576: true; the input reads as it did. -/
def channelDualUptoRow : OpenClaim := { program := "ytmgeblpnnaamnaagreat", sum := "72d5930eca38742f885769c59cb91a0a7359124b3c23b5797f6065a5d9e1c5be", func := "codewright/codewrightlaw55.ChannelDual", spec := "channelDual", apart := false, narrowed := true }
def ChannelDualUptoSaid : Prop := channelDualUptoRow.holds Tryz.pinned (OpenSpec.upto channelDualSpec)

/-- 'codewrightlaw55.ChannelRecover', WHERE WHAT IT READS IS OF BULK AT MOST 1048576: true; the input reads as it did. -/
def channelRecoverUptoRow : OpenClaim := { program := "ytmgeblpnnaamnaagreat", sum := "72d5930eca38742f885769c59cb91a0a7359124b3c23b5797f6065a5d9e1c5be", func := "codewright/codewrightlaw55.ChannelRecover", spec := "channelRecover", unfollowed := true, recurses := true, apart := false, narrowed := true }
def ChannelRecoverUptoSaid : Prop := channelRecoverUptoRow.holds Tryz.pinned (OpenSpec.upto channelRecoverSpec)

/-- 'codewrightlaw55.ChannelContracts', WHERE WHAT IT READS IS OF BULK AT MOST 1048576: true; the input reads as it did. -/
def channelContractsUptoRow : OpenClaim := { program := "ytmgeblpnnaamnaagreat", sum := "72d5930eca38742f885769c59cb91a0a7359124b3c23b5797f6065a5d9e1c5be", func := "codewright/codewrightlaw55.ChannelContracts", spec := "channelContracts", unfollowed := true, recurses := true, apart := false, narrowed := true }
def ChannelContractsUptoSaid : Prop := channelContractsUptoRow.holds Tryz.pinned (OpenSpec.upto channelContractsSpec)

/-- 'codewrightlaw55.ChannelFalls', WHERE WHAT IT READS IS OF BULK AT MOST 1048576: true; the input reads as it did. -/
def channelFallsUptoRow : OpenClaim := { program := "ytmgeblpnnaamnaagreat", sum := "72d5930eca38742f885769c59cb91a0a7359124b3c23b5797f6065a5d9e1c5be", func := "codewright/codewrightlaw55.ChannelFalls", spec := "channelFalls", unfollowed := true, recurses := true, apart := false, narrowed := true }
def ChannelFallsUptoSaid : Prop := channelFallsUptoRow.holds Tryz.pinned (OpenSpec.upto channelFallsSpec)

/-- 'codewrightlaw55.ChannelRight', WHERE WHAT IT READS IS OF BULK AT MOST 1048576: true; the input reads as it did. -/
def channelRightUptoRow : OpenClaim := { program := "ytmgeblpnnaamnaagreat", sum := "72d5930eca38742f885769c59cb91a0a7359124b3c23b5797f6065a5d9e1c5be", func := "codewright/codewrightlaw55.ChannelRight", spec := "channelRight", unfollowed := true, recurses := true, apart := false, narrowed := true }
def ChannelRightUptoSaid : Prop := channelRightUptoRow.holds Tryz.pinned (OpenSpec.upto channelRightSpec)

/-- 'codewrightlaw55.ChannelLeaders', WHERE WHAT IT READS IS OF BULK AT MOST 1048576: true; the input reads as it did. -/
def channelLeadersUptoRow : OpenClaim := { program := "ytmgeblpnnaamnaagreat", sum := "72d5930eca38742f885769c59cb91a0a7359124b3c23b5797f6065a5d9e1c5be", func := "codewright/codewrightlaw55.ChannelLeaders", spec := "channelLeaders", unfollowed := true, recurses := true, apart := false, narrowed := true }
def ChannelLeadersUptoSaid : Prop := channelLeadersUptoRow.holds Tryz.pinned (OpenSpec.upto channelLeadersSpec)

end Rows
end Go.Proofs.YtmgeblpnnaamnaaGreat
