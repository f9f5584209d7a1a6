/-
  No cell of these rows narrows 'for every input' (looked for: loops, veiled, ifaces, maps, wideKeys, modest, calm, conditions, laid).
  DERIVED. THE GIVEN ROWS OF THIS SEAT. 6 by the template 'for every input the law returns true; each argument reads behind the call as it read before'; 0 by the template 'total and deterministic' (their statements: YtminfdcdmgpnjaaTotals.lean).
  GIVEN WITH THE SEED: the statements are not yours to turn. If you find one false, say at which input.
  Laid BY PROGRAM, IN A SANDBOX (cutbox-rows.mjs): the forced cells as the released guide's own fill.sh prints them over the translation bcc7bf28932f2a6b… (all of the seat's roots in one cut). By AI agents, Wed Nov 11 2026. No macro, syntax, notation, axiom, sorry.
-/
import Derived.Test.YtminfdcdmgpnjaaChecked
import GoSem.Claim
import GoSem.ClaimJoined
import GoSem.ClaimMapViews
import Derived.JoinedTies
import Derived.KernelRfl
namespace Go.Proofs.Ytminfdcdmgpnjaa
/- THE CELL 'sum', in the pinned program and in every row, IS THE sha256 OF THE DUMP (.gsa) THAT YtminfdcdmgpnjaaProg.lean LOADS. Nothing in Lean hashes anything: it is a label: what it is worth is what the hold of that sum in a sandbox is worth. -/
noncomputable def Try.pinned : Pinned := { name := "ytminfdcdmgpnjaa", sum := "bcc7bf28932f2a6bc6e88e1d12a365227d389462820c997d1b71f42e2b77af78", checked := Try.checked }
namespace Rows
def none {H : Type} : Left H := { results := [], args := [] }

/-- 'ostinatolaw15.PlanTells': WHATEVER THE INPUT: true; the input reads as it did. -/
def planTellsSpec : ChangeSpec := { name := "planTells", fn := fun _ => fun
  | [d1, d2, d3] => { results := [.lit (.bool true)], args := [d1, d2, d3] }
  | _ => none }
def planTellsRow : OpenClaim := { program := "ytminfdcdmgpnjaa", sum := "bcc7bf28932f2a6bc6e88e1d12a365227d389462820c997d1b71f42e2b77af78", func := "ostinato/ostinatolaw15.PlanTells", spec := "planTells", unfollowed := true, recurses := true, apart := false }
def PlanTellsSaid : Prop := planTellsRow.holds Try.pinned (OpenSpec.ofChange planTellsSpec)

/-- ITS FALSE NEIGHBOUR: 'it returns false'. Refute it at one input. -/
def planTellsWrong : ChangeSpec := { name := "planTells", fn := fun _ => fun
  | [d1, d2, d3] => { results := [.lit (.bool false)], args := [d1, d2, d3] }
  | _ => none }
def PlanTellsWrongFalsely : Prop := planTellsRow.holds Try.pinned (OpenSpec.ofChange planTellsWrong)

/-- 'ostinatolaw15.PlanShares': WHATEVER THE INPUT: true; the input reads as it did. -/
def planSharesSpec : ChangeSpec := { name := "planShares", fn := fun _ => fun
  | [d] => { results := [.lit (.bool true)], args := [d] }
  | _ => none }
def planSharesRow : OpenClaim := { program := "ytminfdcdmgpnjaa", sum := "bcc7bf28932f2a6bc6e88e1d12a365227d389462820c997d1b71f42e2b77af78", func := "ostinato/ostinatolaw15.PlanShares", spec := "planShares", unfollowed := true, recurses := true, apart := false }
def PlanSharesSaid : Prop := planSharesRow.holds Try.pinned (OpenSpec.ofChange planSharesSpec)

/-- ITS FALSE NEIGHBOUR: 'it returns false'. Refute it at one input. -/
def planSharesWrong : ChangeSpec := { name := "planShares", fn := fun _ => fun
  | [d] => { results := [.lit (.bool false)], args := [d] }
  | _ => none }
def PlanSharesWrongFalsely : Prop := planSharesRow.holds Try.pinned (OpenSpec.ofChange planSharesWrong)

/-- 'ostinatolaw23.SchedOnce': WHATEVER THE INPUT: true; the input reads as it did. -/
def schedOnceSpec : ChangeSpec := { name := "schedOnce", fn := fun _ => fun
  | [d1, d2, d3] => { results := [.lit (.bool true)], args := [d1, d2, d3] }
  | _ => none }
def schedOnceRow : OpenClaim := { program := "ytminfdcdmgpnjaa", sum := "bcc7bf28932f2a6bc6e88e1d12a365227d389462820c997d1b71f42e2b77af78", func := "ostinato/ostinatolaw23.SchedOnce", spec := "schedOnce", unfollowed := true, recurses := true, apart := false }
def SchedOnceSaid : Prop := schedOnceRow.holds Try.pinned (OpenSpec.ofChange schedOnceSpec)

/-- ITS FALSE NEIGHBOUR: 'it returns false'. Refute it at one input. -/
def schedOnceWrong : ChangeSpec := { name := "schedOnce", fn := fun _ => fun
  | [d1, d2, d3] => { results := [.lit (.bool false)], args := [d1, d2, d3] }
  | _ => none }
def SchedOnceWrongFalsely : Prop := schedOnceRow.holds Try.pinned (OpenSpec.ofChange schedOnceWrong)

/-- 'ostinatolaw23.SchedLast': WHATEVER THE INPUT: true; the input reads as it did. -/
def schedLastSpec : ChangeSpec := { name := "schedLast", fn := fun _ => fun
  | [d1, d2, d3] => { results := [.lit (.bool true)], args := [d1, d2, d3] }
  | _ => none }
def schedLastRow : OpenClaim := { program := "ytminfdcdmgpnjaa", sum := "bcc7bf28932f2a6bc6e88e1d12a365227d389462820c997d1b71f42e2b77af78", func := "ostinato/ostinatolaw23.SchedLast", spec := "schedLast", unfollowed := true, recurses := true, apart := false }
def SchedLastSaid : Prop := schedLastRow.holds Try.pinned (OpenSpec.ofChange schedLastSpec)

/-- ITS FALSE NEIGHBOUR: 'it returns false'. Refute it at one input. -/
def schedLastWrong : ChangeSpec := { name := "schedLast", fn := fun _ => fun
  | [d1, d2, d3] => { results := [.lit (.bool false)], args := [d1, d2, d3] }
  | _ => none }
def SchedLastWrongFalsely : Prop := schedLastRow.holds Try.pinned (OpenSpec.ofChange schedLastWrong)

/-- 'ostinatolaw23.SchedBack': WHATEVER THE INPUT: true; the input reads as it did. -/
def schedBackSpec : ChangeSpec := { name := "schedBack", fn := fun _ => fun
  | [d1, d2, d3] => { results := [.lit (.bool true)], args := [d1, d2, d3] }
  | _ => none }
def schedBackRow : OpenClaim := { program := "ytminfdcdmgpnjaa", sum := "bcc7bf28932f2a6bc6e88e1d12a365227d389462820c997d1b71f42e2b77af78", func := "ostinato/ostinatolaw23.SchedBack", spec := "schedBack", unfollowed := true, recurses := true, apart := false }
def SchedBackSaid : Prop := schedBackRow.holds Try.pinned (OpenSpec.ofChange schedBackSpec)

/-- ITS FALSE NEIGHBOUR: 'it returns false'. Refute it at one input. -/
def schedBackWrong : ChangeSpec := { name := "schedBack", fn := fun _ => fun
  | [d1, d2, d3] => { results := [.lit (.bool false)], args := [d1, d2, d3] }
  | _ => none }
def SchedBackWrongFalsely : Prop := schedBackRow.holds Try.pinned (OpenSpec.ofChange schedBackWrong)

/-- 'ostinatolaw23.SchedPlays': WHATEVER THE INPUT: true; the input reads as it did. -/
def schedPlaysSpec : ChangeSpec := { name := "schedPlays", fn := fun _ => fun
  | [d1, d2, d3, d4] => { results := [.lit (.bool true)], args := [d1, d2, d3, d4] }
  | _ => none }
def schedPlaysRow : OpenClaim := { program := "ytminfdcdmgpnjaa", sum := "bcc7bf28932f2a6bc6e88e1d12a365227d389462820c997d1b71f42e2b77af78", func := "ostinato/ostinatolaw23.SchedPlays", spec := "schedPlays", unfollowed := true, recurses := true, apart := false }
def SchedPlaysSaid : Prop := schedPlaysRow.holds Try.pinned (OpenSpec.ofChange schedPlaysSpec)

/-- ITS FALSE NEIGHBOUR: 'it returns false'. Refute it at one input. -/
def schedPlaysWrong : ChangeSpec := { name := "schedPlays", fn := fun _ => fun
  | [d1, d2, d3, d4] => { results := [.lit (.bool false)], args := [d1, d2, d3, d4] }
  | _ => none }
def SchedPlaysWrongFalsely : Prop := schedPlaysRow.holds Try.pinned (OpenSpec.ofChange schedPlaysWrong)

/- THE SECOND FORM. 'bulk': how many values and letters a reading holds, each counted each time it is reached (what is shared counts as often as it is met; a slice's spare places count too). A statement '..UptoSaid' is the law's where the arguments, and the package variables that the reading takes, are together of bulk at most 1048576: NARROWER than '..Said'. Prove '..Said' where nothing that the law and all that it calls make is longer than what came in: it says more and counts as full. Else prove '..UptoSaid'. A law counts once. -/
mutual
def uptoBulk {H : Type} : DataW H → Nat
  | .lit (.string bytes) => bytes.length + 1
  | .lit _ => 1
  | .nil => 1
  | .ptr d => uptoBulk d + 1
  | .slice elems spare => uptoBulkAll elems + uptoBulkAll spare + 1
  | .agg parts => uptoBulkAll parts + 1
  | .iface _ d => uptoBulk d + 1
  | .map entries => uptoBulkEntries entries + 1
  | .held _ => 1
def uptoBulkAll {H : Type} : List (DataW H) → Nat
  | [] => 0
  | d :: r => uptoBulk d + uptoBulkAll r
def uptoBulkEntries {H : Type} : List (Lit × DataW H) → Nat
  | [] => 0
  | x :: r => uptoBulkEntry x + uptoBulkEntries r
def uptoBulkEntry {H : Type} : Lit × DataW H → Nat
  | (.string bytes, d) => bytes.length + uptoBulk d + 1
  | (_, d) => uptoBulk d + 1
 end
def uptoSmall : (H : Type) → List (DataW H) → Bool := fun _ ds => decide (uptoBulkAll ds ≤ 1048576)
def OpenSpec.upto (s : _root_.Go.ChangeSpec) : _root_.Go.OpenSpec := { _root_.Go.OpenSpec.ofChange s with cond := some uptoSmall }

/-- 'ostinatolaw15.PlanTells', WHERE WHAT IT READS IS OF BULK AT MOST 1048576: true; the input reads as it did. -/
def planTellsUptoRow : OpenClaim := { program := "ytminfdcdmgpnjaa", sum := "bcc7bf28932f2a6bc6e88e1d12a365227d389462820c997d1b71f42e2b77af78", func := "ostinato/ostinatolaw15.PlanTells", spec := "planTells", unfollowed := true, recurses := true, apart := false, narrowed := true }
def PlanTellsUptoSaid : Prop := planTellsUptoRow.holds Try.pinned (OpenSpec.upto planTellsSpec)

/-- 'ostinatolaw15.PlanShares', WHERE WHAT IT READS IS OF BULK AT MOST 1048576: true; the input reads as it did. -/
def planSharesUptoRow : OpenClaim := { program := "ytminfdcdmgpnjaa", sum := "bcc7bf28932f2a6bc6e88e1d12a365227d389462820c997d1b71f42e2b77af78", func := "ostinato/ostinatolaw15.PlanShares", spec := "planShares", unfollowed := true, recurses := true, apart := false, narrowed := true }
def PlanSharesUptoSaid : Prop := planSharesUptoRow.holds Try.pinned (OpenSpec.upto planSharesSpec)

/-- 'ostinatolaw23.SchedOnce', WHERE WHAT IT READS IS OF BULK AT MOST 1048576: true; the input reads as it did. -/
def schedOnceUptoRow : OpenClaim := { program := "ytminfdcdmgpnjaa", sum := "bcc7bf28932f2a6bc6e88e1d12a365227d389462820c997d1b71f42e2b77af78", func := "ostinato/ostinatolaw23.SchedOnce", spec := "schedOnce", unfollowed := true, recurses := true, apart := false, narrowed := true }
def SchedOnceUptoSaid : Prop := schedOnceUptoRow.holds Try.pinned (OpenSpec.upto schedOnceSpec)

/-- 'ostinatolaw23.SchedLast', WHERE WHAT IT READS IS OF BULK AT MOST 1048576: true; the input reads as it did. -/
def schedLastUptoRow : OpenClaim := { program := "ytminfdcdmgpnjaa", sum := "bcc7bf28932f2a6bc6e88e1d12a365227d389462820c997d1b71f42e2b77af78", func := "ostinato/ostinatolaw23.SchedLast", spec := "schedLast", unfollowed := true, recurses := true, apart := false, narrowed := true }
def SchedLastUptoSaid : Prop := schedLastUptoRow.holds Try.pinned (OpenSpec.upto schedLastSpec)

/-- 'ostinatolaw23.SchedBack', WHERE WHAT IT READS IS OF BULK AT MOST 1048576: true; the input reads as it did. -/
def schedBackUptoRow : OpenClaim := { program := "ytminfdcdmgpnjaa", sum := "bcc7bf28932f2a6bc6e88e1d12a365227d389462820c997d1b71f42e2b77af78", func := "ostinato/ostinatolaw23.SchedBack", spec := "schedBack", unfollowed := true, recurses := true, apart := false, narrowed := true }
def SchedBackUptoSaid : Prop := schedBackUptoRow.holds Try.pinned (OpenSpec.upto schedBackSpec)

/-- 'ostinatolaw23.SchedPlays', WHERE WHAT IT READS IS OF BULK AT MOST 1048576: true; the input reads as it did. -/
def schedPlaysUptoRow : OpenClaim := { program := "ytminfdcdmgpnjaa", sum := "bcc7bf28932f2a6bc6e88e1d12a365227d389462820c997d1b71f42e2b77af78", func := "ostinato/ostinatolaw23.SchedPlays", spec := "schedPlays", unfollowed := true, recurses := true, apart := false, narrowed := true }
def SchedPlaysUptoSaid : Prop := schedPlaysUptoRow.holds Try.pinned (OpenSpec.upto schedPlaysSpec)

end Rows
end Go.Proofs.Ytminfdcdmgpnjaa
