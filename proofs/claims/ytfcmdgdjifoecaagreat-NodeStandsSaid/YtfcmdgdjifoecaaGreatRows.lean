/-
  No cell of these rows narrows 'for every input' (looked for: loops, veiled, ifaces, maps, wideKeys, modest, calm, conditions, laid).
  DERIVED. THE GIVEN ROWS OF THIS SEAT. 9 by the template 'for every input the law returns true; each argument reads behind the call as it read before'; 0 by the template 'total and deterministic' (their statements: YtfcmdgdjifoecaaGreatTotals.lean).
  GIVEN WITH THE SEED: the statements are not yours to turn. If you find one false, say at which input.
  Laid BY PROGRAM, IN A SANDBOX (cutbox-rows.mjs): the forced cells as the released guide's own fill.sh prints them over the translation de4ddc05866de755… (all of the seat's roots in one cut). By AI agents, Wed Nov 11 2026. No macro, syntax, notation, axiom, sorry.
-/
import Derived.Test.YtfcmdgdjifoecaaGreatChecked
import GoSem.Claim
import GoSem.ClaimJoined
import GoSem.ClaimMapViews
import Derived.JoinedTies
import Derived.KernelRfl
namespace Go.Proofs.YtfcmdgdjifoecaaGreat
/- THE CELL 'sum', in the pinned program and in every row, IS THE sha256 OF THE DUMP (.gsa) THAT YtfcmdgdjifoecaaGreatProg.lean LOADS. Nothing in Lean hashes anything: it is a label: what it is worth is what the hold of that sum in a sandbox is worth. -/
noncomputable def Tryz.pinned : Pinned := { name := "ytfcmdgdjifoecaagreat", sum := "de4ddc05866de755412168cb3acac832ba49d1c852421333447329a83f47773d", checked := Tryz.checked }
namespace Rows
def none {H : Type} : Left H := { results := [], args := [] }

/-- 'ostinatotop.WholeSlow': WHATEVER THE INPUT: true; the input reads as it did. -/
def wholeSlowSpec : ChangeSpec := { name := "wholeSlow", fn := fun _ => fun
  | [d] => { results := [.lit (.bool true)], args := [d] }
  | _ => none }
def wholeSlowRow : OpenClaim := { program := "ytfcmdgdjifoecaagreat", sum := "de4ddc05866de755412168cb3acac832ba49d1c852421333447329a83f47773d", func := "ostinato/ostinatotop.WholeSlow", spec := "wholeSlow", inPlace := ["internal/bytealg.IndexByteString"], unfollowed := true, recurses := true, apart := false }
def WholeSlowSaid : Prop := wholeSlowRow.holds Tryz.pinned (OpenSpec.ofChange wholeSlowSpec)

/-- ITS FALSE NEIGHBOUR: 'it returns false'. Refute it at one input. -/
def wholeSlowWrong : ChangeSpec := { name := "wholeSlow", fn := fun _ => fun
  | [d] => { results := [.lit (.bool false)], args := [d] }
  | _ => none }
def WholeSlowWrongFalsely : Prop := wholeSlowRow.holds Tryz.pinned (OpenSpec.ofChange wholeSlowWrong)

/-- 'ostinatotop.WholeReads': WHATEVER THE INPUT: true; the input reads as it did. -/
def wholeReadsSpec : ChangeSpec := { name := "wholeReads", fn := fun _ => fun
  | [d] => { results := [.lit (.bool true)], args := [d] }
  | _ => none }
def wholeReadsRow : OpenClaim := { program := "ytfcmdgdjifoecaagreat", sum := "de4ddc05866de755412168cb3acac832ba49d1c852421333447329a83f47773d", func := "ostinato/ostinatotop.WholeReads", spec := "wholeReads", inPlace := ["internal/bytealg.IndexByteString"], unfollowed := true, recurses := true, apart := false }
def WholeReadsSaid : Prop := wholeReadsRow.holds Tryz.pinned (OpenSpec.ofChange wholeReadsSpec)

/-- ITS FALSE NEIGHBOUR: 'it returns false'. Refute it at one input. -/
def wholeReadsWrong : ChangeSpec := { name := "wholeReads", fn := fun _ => fun
  | [d] => { results := [.lit (.bool false)], args := [d] }
  | _ => none }
def WholeReadsWrongFalsely : Prop := wholeReadsRow.holds Tryz.pinned (OpenSpec.ofChange wholeReadsWrong)

/-- 'ostinatotop.WholeStates': WHATEVER THE INPUT: true; the input reads as it did. -/
def wholeStatesSpec : ChangeSpec := { name := "wholeStates", fn := fun _ => fun
  | [d] => { results := [.lit (.bool true)], args := [d] }
  | _ => none }
def wholeStatesRow : OpenClaim := { program := "ytfcmdgdjifoecaagreat", sum := "de4ddc05866de755412168cb3acac832ba49d1c852421333447329a83f47773d", func := "ostinato/ostinatotop.WholeStates", spec := "wholeStates", inPlace := ["internal/bytealg.IndexByteString"], unfollowed := true, recurses := true, apart := false }
def WholeStatesSaid : Prop := wholeStatesRow.holds Tryz.pinned (OpenSpec.ofChange wholeStatesSpec)

/-- ITS FALSE NEIGHBOUR: 'it returns false'. Refute it at one input. -/
def wholeStatesWrong : ChangeSpec := { name := "wholeStates", fn := fun _ => fun
  | [d] => { results := [.lit (.bool false)], args := [d] }
  | _ => none }
def WholeStatesWrongFalsely : Prop := wholeStatesRow.holds Tryz.pinned (OpenSpec.ofChange wholeStatesWrong)

/-- 'ostinatolaw24.NodeOwner': WHATEVER THE INPUT: true; the input reads as it did. -/
def nodeOwnerSpec : ChangeSpec := { name := "nodeOwner", fn := fun _ => fun
  | [d1, d2, d3] => { results := [.lit (.bool true)], args := [d1, d2, d3] }
  | _ => none }
def nodeOwnerRow : OpenClaim := { program := "ytfcmdgdjifoecaagreat", sum := "de4ddc05866de755412168cb3acac832ba49d1c852421333447329a83f47773d", func := "ostinato/ostinatolaw24.NodeOwner", spec := "nodeOwner", unfollowed := true, recurses := true, apart := false }
def NodeOwnerSaid : Prop := nodeOwnerRow.holds Tryz.pinned (OpenSpec.ofChange nodeOwnerSpec)

/-- ITS FALSE NEIGHBOUR: 'it returns false'. Refute it at one input. -/
def nodeOwnerWrong : ChangeSpec := { name := "nodeOwner", fn := fun _ => fun
  | [d1, d2, d3] => { results := [.lit (.bool false)], args := [d1, d2, d3] }
  | _ => none }
def NodeOwnerWrongFalsely : Prop := nodeOwnerRow.holds Tryz.pinned (OpenSpec.ofChange nodeOwnerWrong)

/-- 'ostinatolaw24.NodeStands': WHATEVER THE INPUT: true; the input reads as it did. -/
def nodeStandsSpec : ChangeSpec := { name := "nodeStands", fn := fun _ => fun
  | [d] => { results := [.lit (.bool true)], args := [d] }
  | _ => none }
def nodeStandsRow : OpenClaim := { program := "ytfcmdgdjifoecaagreat", sum := "de4ddc05866de755412168cb3acac832ba49d1c852421333447329a83f47773d", func := "ostinato/ostinatolaw24.NodeStands", spec := "nodeStands", unfollowed := true, recurses := true, apart := false }
def NodeStandsSaid : Prop := nodeStandsRow.holds Tryz.pinned (OpenSpec.ofChange nodeStandsSpec)

/-- ITS FALSE NEIGHBOUR: 'it returns false'. Refute it at one input. -/
def nodeStandsWrong : ChangeSpec := { name := "nodeStands", fn := fun _ => fun
  | [d] => { results := [.lit (.bool false)], args := [d] }
  | _ => none }
def NodeStandsWrongFalsely : Prop := nodeStandsRow.holds Tryz.pinned (OpenSpec.ofChange nodeStandsWrong)

/-- 'ostinatolaw24.NodeSilent': WHATEVER THE INPUT: true; the input reads as it did. -/
def nodeSilentSpec : ChangeSpec := { name := "nodeSilent", fn := fun _ => fun
  | [d1, d2] => { results := [.lit (.bool true)], args := [d1, d2] }
  | _ => none }
def nodeSilentRow : OpenClaim := { program := "ytfcmdgdjifoecaagreat", sum := "de4ddc05866de755412168cb3acac832ba49d1c852421333447329a83f47773d", func := "ostinato/ostinatolaw24.NodeSilent", spec := "nodeSilent", unfollowed := true, recurses := true, apart := false }
def NodeSilentSaid : Prop := nodeSilentRow.holds Tryz.pinned (OpenSpec.ofChange nodeSilentSpec)

/-- ITS FALSE NEIGHBOUR: 'it returns false'. Refute it at one input. -/
def nodeSilentWrong : ChangeSpec := { name := "nodeSilent", fn := fun _ => fun
  | [d1, d2] => { results := [.lit (.bool false)], args := [d1, d2] }
  | _ => none }
def NodeSilentWrongFalsely : Prop := nodeSilentRow.holds Tryz.pinned (OpenSpec.ofChange nodeSilentWrong)

/-- 'ostinatolaw24.NodeWatch': WHATEVER THE INPUT: true; the input reads as it did. -/
def nodeWatchSpec : ChangeSpec := { name := "nodeWatch", fn := fun _ => fun
  | [d] => { results := [.lit (.bool true)], args := [d] }
  | _ => none }
def nodeWatchRow : OpenClaim := { program := "ytfcmdgdjifoecaagreat", sum := "de4ddc05866de755412168cb3acac832ba49d1c852421333447329a83f47773d", func := "ostinato/ostinatolaw24.NodeWatch", spec := "nodeWatch", unfollowed := true, recurses := true, apart := false }
def NodeWatchSaid : Prop := nodeWatchRow.holds Tryz.pinned (OpenSpec.ofChange nodeWatchSpec)

/-- ITS FALSE NEIGHBOUR: 'it returns false'. Refute it at one input. -/
def nodeWatchWrong : ChangeSpec := { name := "nodeWatch", fn := fun _ => fun
  | [d] => { results := [.lit (.bool false)], args := [d] }
  | _ => none }
def NodeWatchWrongFalsely : Prop := nodeWatchRow.holds Tryz.pinned (OpenSpec.ofChange nodeWatchWrong)

/-- 'ostinatolaw24.NodeTakes': WHATEVER THE INPUT: true; the input reads as it did. -/
def nodeTakesSpec : ChangeSpec := { name := "nodeTakes", fn := fun _ => fun
  | [d1, d2, d3] => { results := [.lit (.bool true)], args := [d1, d2, d3] }
  | _ => none }
def nodeTakesRow : OpenClaim := { program := "ytfcmdgdjifoecaagreat", sum := "de4ddc05866de755412168cb3acac832ba49d1c852421333447329a83f47773d", func := "ostinato/ostinatolaw24.NodeTakes", spec := "nodeTakes", unfollowed := true, recurses := true, apart := false }
def NodeTakesSaid : Prop := nodeTakesRow.holds Tryz.pinned (OpenSpec.ofChange nodeTakesSpec)

/-- ITS FALSE NEIGHBOUR: 'it returns false'. Refute it at one input. -/
def nodeTakesWrong : ChangeSpec := { name := "nodeTakes", fn := fun _ => fun
  | [d1, d2, d3] => { results := [.lit (.bool false)], args := [d1, d2, d3] }
  | _ => none }
def NodeTakesWrongFalsely : Prop := nodeTakesRow.holds Tryz.pinned (OpenSpec.ofChange nodeTakesWrong)

/-- 'ostinatolaw24.NodeGlobal': WHATEVER THE INPUT: true; the input reads as it did. -/
def nodeGlobalSpec : ChangeSpec := { name := "nodeGlobal", fn := fun _ => fun
  | [d1, d2] => { results := [.lit (.bool true)], args := [d1, d2] }
  | _ => none }
def nodeGlobalRow : OpenClaim := { program := "ytfcmdgdjifoecaagreat", sum := "de4ddc05866de755412168cb3acac832ba49d1c852421333447329a83f47773d", func := "ostinato/ostinatolaw24.NodeGlobal", spec := "nodeGlobal", unfollowed := true, recurses := true, apart := false }
def NodeGlobalSaid : Prop := nodeGlobalRow.holds Tryz.pinned (OpenSpec.ofChange nodeGlobalSpec)

/-- ITS FALSE NEIGHBOUR: 'it returns false'. Refute it at one input. -/
def nodeGlobalWrong : ChangeSpec := { name := "nodeGlobal", fn := fun _ => fun
  | [d1, d2] => { results := [.lit (.bool false)], args := [d1, d2] }
  | _ => none }
def NodeGlobalWrongFalsely : Prop := nodeGlobalRow.holds Tryz.pinned (OpenSpec.ofChange nodeGlobalWrong)

/- THE SECOND FORM. 'bulk': how many values and letters a reading holds, each counted each time it is reached (what is shared counts as often as it is met; a slice's spare places count too). A statement '..UptoSaid' is the law's where the arguments, and the package variables that the reading takes, are together of bulk at most 1048576: NARROWER than '..Said'. Prove '..Said' where nothing that the law and all that it calls make is longer than what came in: it says more and counts as full. Else prove '..UptoSaid'. A law counts once. -/
mutual
def uptoBulk {H : Type} : DataW H → Nat
  | .lit (.string bytes) => bytes.length + 1
  | .lit _ => 1
  | .nil => 1
  | .ptr d => uptoBulk d + 1
  | .slice elems spare => uptoBulkAll elems + uptoBulkAll spare + 1
  | .agg parts => uptoBulkAll parts + 1
  | .iface _ d => uptoBulk d + 1
  | .map entries => uptoBulkEntries entries + 1
  | .held _ => 1
def uptoBulkAll {H : Type} : List (DataW H) → Nat
  | [] => 0
  | d :: r => uptoBulk d + uptoBulkAll r
def uptoBulkEntries {H : Type} : List (Lit × DataW H) → Nat
  | [] => 0
  | x :: r => uptoBulkEntry x + uptoBulkEntries r
def uptoBulkEntry {H : Type} : Lit × DataW H → Nat
  | (.string bytes, d) => bytes.length + uptoBulk d + 1
  | (_, d) => uptoBulk d + 1
 end
def uptoSmall : (H : Type) → List (DataW H) → Bool := fun _ ds => decide (uptoBulkAll ds ≤ 1048576)
def OpenSpec.upto (s : _root_.Go.ChangeSpec) : _root_.Go.OpenSpec := { _root_.Go.OpenSpec.ofChange s with cond := some uptoSmall }

/-- 'ostinatotop.WholeSlow', WHERE WHAT IT READS IS OF BULK AT MOST 1048576: true; the input reads as it did. -/
def wholeSlowUptoRow : OpenClaim := { program := "ytfcmdgdjifoecaagreat", sum := "de4ddc05866de755412168cb3acac832ba49d1c852421333447329a83f47773d", func := "ostinato/ostinatotop.WholeSlow", spec := "wholeSlow", inPlace := ["internal/bytealg.IndexByteString"], unfollowed := true, recurses := true, apart := false, narrowed := true }
def WholeSlowUptoSaid : Prop := wholeSlowUptoRow.holds Tryz.pinned (OpenSpec.upto wholeSlowSpec)

/-- 'ostinatotop.WholeReads', WHERE WHAT IT READS IS OF BULK AT MOST 1048576: true; the input reads as it did. -/
def wholeReadsUptoRow : OpenClaim := { program := "ytfcmdgdjifoecaagreat", sum := "de4ddc05866de755412168cb3acac832ba49d1c852421333447329a83f47773d", func := "ostinato/ostinatotop.WholeReads", spec := "wholeReads", inPlace := ["internal/bytealg.IndexByteString"], unfollowed := true, recurses := true, apart := false, narrowed := true }
def WholeReadsUptoSaid : Prop := wholeReadsUptoRow.holds Tryz.pinned (OpenSpec.upto wholeReadsSpec)

/-- 'ostinatotop.WholeStates', WHERE WHAT IT READS IS OF BULK AT MOST 1048576: true; the input reads as it did. -/
def wholeStatesUptoRow : OpenClaim := { program := "ytfcmdgdjifoecaagreat", sum := "de4ddc05866de755412168cb3acac832ba49d1c852421333447329a83f47773d", func := "ostinato/ostinatotop.WholeStates", spec := "wholeStates", inPlace := ["internal/bytealg.IndexByteString"], unfollowed := true, recurses := true, apart := false, narrowed := true }
def WholeStatesUptoSaid : Prop := wholeStatesUptoRow.holds Tryz.pinned (OpenSpec.upto wholeStatesSpec)

/-- 'ostinatolaw24.NodeOwner', WHERE WHAT IT READS IS OF BULK AT MOST 1048576: true; the input reads as it did. -/
def nodeOwnerUptoRow : OpenClaim := { program := "ytfcmdgdjifoecaagreat", sum := "de4ddc05866de755412168cb3acac832ba49d1c852421333447329a83f47773d", func := "ostinato/ostinatolaw24.NodeOwner", spec := "nodeOwner", unfollowed := true, recurses := true, apart := false, narrowed := true }
def NodeOwnerUptoSaid : Prop := nodeOwnerUptoRow.holds Tryz.pinned (OpenSpec.upto nodeOwnerSpec)

/-- 'ostinatolaw24.NodeStands', WHERE WHAT IT READS IS OF BULK AT MOST 1048576: true; the input reads as it did. -/
def nodeStandsUptoRow : OpenClaim := { program := "ytfcmdgdjifoecaagreat", sum := "de4ddc05866de755412168cb3acac832ba49d1c852421333447329a83f47773d", func := "ostinato/ostinatolaw24.NodeStands", spec := "nodeStands", unfollowed := true, recurses := true, apart := false, narrowed := true }
def NodeStandsUptoSaid : Prop := nodeStandsUptoRow.holds Tryz.pinned (OpenSpec.upto nodeStandsSpec)

/-- 'ostinatolaw24.NodeSilent', WHERE WHAT IT READS IS OF BULK AT MOST 1048576: true; the input reads as it did. -/
def nodeSilentUptoRow : OpenClaim := { program := "ytfcmdgdjifoecaagreat", sum := "de4ddc05866de755412168cb3acac832ba49d1c852421333447329a83f47773d", func := "ostinato/ostinatolaw24.NodeSilent", spec := "nodeSilent", unfollowed := true, recurses := true, apart := false, narrowed := true }
def NodeSilentUptoSaid : Prop := nodeSilentUptoRow.holds Tryz.pinned (OpenSpec.upto nodeSilentSpec)

/-- 'ostinatolaw24.NodeWatch', WHERE WHAT IT READS IS OF BULK AT MOST 1048576: true; the input reads as it did. -/
def nodeWatchUptoRow : OpenClaim := { program := "ytfcmdgdjifoecaagreat", sum := "de4ddc05866de755412168cb3acac832ba49d1c852421333447329a83f47773d", func := "ostinato/ostinatolaw24.NodeWatch", spec := "nodeWatch", unfollowed := true, recurses := true, apart := false, narrowed := true }
def NodeWatchUptoSaid : Prop := nodeWatchUptoRow.holds Tryz.pinned (OpenSpec.upto nodeWatchSpec)

/-- 'ostinatolaw24.NodeTakes', WHERE WHAT IT READS IS OF BULK AT MOST 1048576: true; the input reads as it did. -/
def nodeTakesUptoRow : OpenClaim := { program := "ytfcmdgdjifoecaagreat", sum := "de4ddc05866de755412168cb3acac832ba49d1c852421333447329a83f47773d", func := "ostinato/ostinatolaw24.NodeTakes", spec := "nodeTakes", unfollowed := true, recurses := true, apart := false, narrowed := true }
def NodeTakesUptoSaid : Prop := nodeTakesUptoRow.holds Tryz.pinned (OpenSpec.upto nodeTakesSpec)

/-- 'ostinatolaw24.NodeGlobal', WHERE WHAT IT READS IS OF BULK AT MOST 1048576: true; the input reads as it did. -/
def nodeGlobalUptoRow : OpenClaim := { program := "ytfcmdgdjifoecaagreat", sum := "de4ddc05866de755412168cb3acac832ba49d1c852421333447329a83f47773d", func := "ostinato/ostinatolaw24.NodeGlobal", spec := "nodeGlobal", unfollowed := true, recurses := true, apart := false, narrowed := true }
def NodeGlobalUptoSaid : Prop := nodeGlobalUptoRow.holds Tryz.pinned (OpenSpec.upto nodeGlobalSpec)

end Rows
end Go.Proofs.YtfcmdgdjifoecaaGreat
