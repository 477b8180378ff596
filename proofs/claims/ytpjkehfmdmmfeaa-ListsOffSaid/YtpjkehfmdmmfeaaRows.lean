/-
  No cell of these rows narrows 'for every input' (looked for: loops, veiled, ifaces, maps, wideKeys, modest, calm, conditions, laid).
  DERIVED. THE GIVEN ROWS OF THIS SEAT. 3 by the template 'for every input the law returns true; each argument reads behind the call as it read before'; 0 by the template 'total and deterministic' (their statements: YtpjkehfmdmmfeaaTotals.lean).
  GIVEN WITH THE SEED: the statements are not yours to turn. If you find one false, say at which input.
  Laid BY PROGRAM, IN A SANDBOX (cutbox-rows.mjs): the forced cells as the released guide's own fill.sh prints them over the translation 63ba97ad2ba72081… (all of the seat's roots in one cut). By AI agents, Wed Nov 11 2026. No macro, syntax, notation, axiom, sorry.
-/
import Derived.Test.YtpjkehfmdmmfeaaChecked
import GoSem.Claim
import GoSem.ClaimJoined
import GoSem.ClaimMapViews
import Derived.JoinedTies
import Derived.KernelRfl
namespace Go.Proofs.Ytpjkehfmdmmfeaa
/- THE CELL 'sum', in the pinned program and in every row, IS THE sha256 OF THE DUMP (.gsa) THAT YtpjkehfmdmmfeaaProg.lean LOADS. Nothing in Lean hashes anything: it is a label: what it is worth is what the hold of that sum in a sandbox is worth. -/
noncomputable def Try.pinned : Pinned := { name := "ytpjkehfmdmmfeaa", sum := "63ba97ad2ba72081e1c12f5bdff4be56fb8b3e2c8e834855ed8ed8dabaa2add0", checked := Try.checked }
namespace Rows
def none {H : Type} : Left H := { results := [], args := [] }

/-- 'fareboxlaw12.ListsOff': WHATEVER THE INPUT: true; the input reads as it did. -/
def listsOffSpec : ChangeSpec := { name := "listsOff", fn := fun _ => fun
  | [d1, d2] => { results := [.lit (.bool true)], args := [d1, d2] }
  | _ => none }
def listsOffRow : OpenClaim := { program := "ytpjkehfmdmmfeaa", sum := "63ba97ad2ba72081e1c12f5bdff4be56fb8b3e2c8e834855ed8ed8dabaa2add0", func := "farebox/fareboxlaw12.ListsOff", spec := "listsOff", unfollowed := true, recurses := true, apart := false }
def ListsOffSaid : Prop := listsOffRow.holds Try.pinned (OpenSpec.ofChange listsOffSpec)

/-- ITS FALSE NEIGHBOUR: 'it returns false'. Refute it at one input. -/
def listsOffWrong : ChangeSpec := { name := "listsOff", fn := fun _ => fun
  | [d1, d2] => { results := [.lit (.bool false)], args := [d1, d2] }
  | _ => none }
def ListsOffWrongFalsely : Prop := listsOffRow.holds Try.pinned (OpenSpec.ofChange listsOffWrong)

/-- 'fareboxlaw12.ListsGrow': WHATEVER THE INPUT: true; the input reads as it did. -/
def listsGrowSpec : ChangeSpec := { name := "listsGrow", fn := fun _ => fun
  | [d1, d2] => { results := [.lit (.bool true)], args := [d1, d2] }
  | _ => none }
def listsGrowRow : OpenClaim := { program := "ytpjkehfmdmmfeaa", sum := "63ba97ad2ba72081e1c12f5bdff4be56fb8b3e2c8e834855ed8ed8dabaa2add0", func := "farebox/fareboxlaw12.ListsGrow", spec := "listsGrow", unfollowed := true, recurses := true, apart := false }
def ListsGrowSaid : Prop := listsGrowRow.holds Try.pinned (OpenSpec.ofChange listsGrowSpec)

/-- ITS FALSE NEIGHBOUR: 'it returns false'. Refute it at one input. -/
def listsGrowWrong : ChangeSpec := { name := "listsGrow", fn := fun _ => fun
  | [d1, d2] => { results := [.lit (.bool false)], args := [d1, d2] }
  | _ => none }
def ListsGrowWrongFalsely : Prop := listsGrowRow.holds Try.pinned (OpenSpec.ofChange listsGrowWrong)

/-- 'fareboxlaw12.ListsPlays': WHATEVER THE INPUT: true; the input reads as it did. -/
def listsPlaysSpec : ChangeSpec := { name := "listsPlays", fn := fun _ => fun
  | [d1, d2] => { results := [.lit (.bool true)], args := [d1, d2] }
  | _ => none }
def listsPlaysRow : OpenClaim := { program := "ytpjkehfmdmmfeaa", sum := "63ba97ad2ba72081e1c12f5bdff4be56fb8b3e2c8e834855ed8ed8dabaa2add0", func := "farebox/fareboxlaw12.ListsPlays", spec := "listsPlays", unfollowed := true, recurses := true, apart := false }
def ListsPlaysSaid : Prop := listsPlaysRow.holds Try.pinned (OpenSpec.ofChange listsPlaysSpec)

/-- ITS FALSE NEIGHBOUR: 'it returns false'. Refute it at one input. -/
def listsPlaysWrong : ChangeSpec := { name := "listsPlays", fn := fun _ => fun
  | [d1, d2] => { results := [.lit (.bool false)], args := [d1, d2] }
  | _ => none }
def ListsPlaysWrongFalsely : Prop := listsPlaysRow.holds Try.pinned (OpenSpec.ofChange listsPlaysWrong)

/- THE SECOND FORM. 'bulk': how many values and letters a reading holds, each counted each time it is reached (what is shared counts as often as it is met; a slice's spare places count too). A statement '..UptoSaid' is the law's where the arguments, and the package variables that the reading takes, are together of bulk at most 1048576: NARROWER than '..Said'. Prove '..Said' where nothing that the law and all that it calls make is longer than what came in: it says more and counts as full. Else prove '..UptoSaid'. A law counts once. -/
mutual
def uptoBulk {H : Type} : DataW H → Nat
  | .lit (.string bytes) => bytes.length + 1
  | .lit _ => 1
  | .nil => 1
  | .ptr d => uptoBulk d + 1
  | .slice elems spare => uptoBulkAll elems + uptoBulkAll spare + 1
  | .agg parts => uptoBulkAll parts + 1
  | .iface _ d => uptoBulk d + 1
  | .map entries => uptoBulkEntries entries + 1
  | .held _ => 1
def uptoBulkAll {H : Type} : List (DataW H) → Nat
  | [] => 0
  | d :: r => uptoBulk d + uptoBulkAll r
def uptoBulkEntries {H : Type} : List (Lit × DataW H) → Nat
  | [] => 0
  | x :: r => uptoBulkEntry x + uptoBulkEntries r
def uptoBulkEntry {H : Type} : Lit × DataW H → Nat
  | (.string bytes, d) => bytes.length + uptoBulk d + 1
  | (_, d) => uptoBulk d + 1
 end
def uptoSmall : (H : Type) → List (DataW H) → Bool := fun _ ds => decide (uptoBulkAll ds ≤ 1048576)
def OpenSpec.upto (s : _root_.Go.ChangeSpec) : _root_.Go.OpenSpec := { _root_.Go.OpenSpec.ofChange s with cond := some uptoSmall }

/-- 'fareboxlaw12.ListsOff', WHERE WHAT IT READS IS OF BULK AT MOST 1048576: true; the input reads as it did. -/
def listsOffUptoRow : OpenClaim := { program := "ytpjkehfmdmmfeaa", sum := "63ba97ad2ba72081e1c12f5bdff4be56fb8b3e2c8e834855ed8ed8dabaa2add0", func := "farebox/fareboxlaw12.ListsOff", spec := "listsOff", unfollowed := true, recurses := true, apart := false, narrowed := true }
def ListsOffUptoSaid : Prop := listsOffUptoRow.holds Try.pinned (OpenSpec.upto listsOffSpec)

/-- 'fareboxlaw12.ListsGrow', WHERE WHAT IT READS IS OF BULK AT MOST 1048576: true; the input reads as it did. -/
def listsGrowUptoRow : OpenClaim := { program := "ytpjkehfmdmmfeaa", sum := "63ba97ad2ba72081e1c12f5bdff4be56fb8b3e2c8e834855ed8ed8dabaa2add0", func := "farebox/fareboxlaw12.ListsGrow", spec := "listsGrow", unfollowed := true, recurses := true, apart := false, narrowed := true }
def ListsGrowUptoSaid : Prop := listsGrowUptoRow.holds Try.pinned (OpenSpec.upto listsGrowSpec)

/-- 'fareboxlaw12.ListsPlays', WHERE WHAT IT READS IS OF BULK AT MOST 1048576: true; the input reads as it did. -/
def listsPlaysUptoRow : OpenClaim := { program := "ytpjkehfmdmmfeaa", sum := "63ba97ad2ba72081e1c12f5bdff4be56fb8b3e2c8e834855ed8ed8dabaa2add0", func := "farebox/fareboxlaw12.ListsPlays", spec := "listsPlays", unfollowed := true, recurses := true, apart := false, narrowed := true }
def ListsPlaysUptoSaid : Prop := listsPlaysUptoRow.holds Try.pinned (OpenSpec.upto listsPlaysSpec)

end Rows
end Go.Proofs.Ytpjkehfmdmmfeaa
