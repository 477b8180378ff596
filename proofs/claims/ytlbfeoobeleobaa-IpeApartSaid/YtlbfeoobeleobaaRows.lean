/-
  No cell of these rows narrows 'for every input' (looked for: loops, veiled, ifaces, maps, wideKeys, modest, calm, conditions, laid).
  DERIVED. THE GIVEN ROWS OF THIS SEAT. 7 by the template 'for every input the law returns true; each argument reads behind the call as it read before'; 0 by the template 'total and deterministic' (their statements: YtlbfeoobeleobaaTotals.lean).
  GIVEN WITH THE SEED: the statements are not yours to turn. If you find one false, say at which input.
  Laid BY PROGRAM, IN A SANDBOX (cutbox-rows.mjs): the forced cells as the released guide's own fill.sh prints them over the translation 5d7eb65ff5c46eb2… (all of the seat's roots in one cut). By AI agents, Wed Nov 11 2026. No macro, syntax, notation, axiom, sorry.
-/
import Derived.Test.YtlbfeoobeleobaaChecked
import GoSem.Claim
import GoSem.ClaimJoined
import GoSem.ClaimMapViews
import Derived.JoinedTies
import Derived.KernelRfl
namespace Go.Proofs.Ytlbfeoobeleobaa
/- THE CELL 'sum', in the pinned program and in every row, IS THE sha256 OF THE DUMP (.gsa) THAT YtlbfeoobeleobaaProg.lean LOADS. Nothing in Lean hashes anything: it is a label: what it is worth is what the hold of that sum in a sandbox is worth. -/
noncomputable def Try.pinned : Pinned := { name := "ytlbfeoobeleobaa", sum := "5d7eb65ff5c46eb2b5065fe06b1f20baaf9a81918dc646886262f2609d393dbc", checked := Try.checked }
namespace Rows
def none {H : Type} : Left H := { results := [], args := [] }

/-- 'fareboxlaw10.IpeApart': WHATEVER THE INPUT: true; the input reads as it did. -/
def ipeApartSpec : ChangeSpec := { name := "ipeApart", fn := fun _ => fun
  | [d1, d2] => { results := [.lit (.bool true)], args := [d1, d2] }
  | _ => none }
def ipeApartRow : OpenClaim := { program := "ytlbfeoobeleobaa", sum := "5d7eb65ff5c46eb2b5065fe06b1f20baaf9a81918dc646886262f2609d393dbc", func := "farebox/fareboxlaw10.IpeApart", spec := "ipeApart", unfollowed := true, recurses := true, apart := false }
def IpeApartSaid : Prop := ipeApartRow.holds Try.pinned (OpenSpec.ofChange ipeApartSpec)

/-- ITS FALSE NEIGHBOUR: 'it returns false'. Refute it at one input. -/
def ipeApartWrong : ChangeSpec := { name := "ipeApart", fn := fun _ => fun
  | [d1, d2] => { results := [.lit (.bool false)], args := [d1, d2] }
  | _ => none }
def IpeApartWrongFalsely : Prop := ipeApartRow.holds Try.pinned (OpenSpec.ofChange ipeApartWrong)

/-- 'fareboxlaw10.IpeValue': WHATEVER THE INPUT: true; the input reads as it did. -/
def ipeValueSpec : ChangeSpec := { name := "ipeValue", fn := fun _ => fun
  | [d1, d2] => { results := [.lit (.bool true)], args := [d1, d2] }
  | _ => none }
def ipeValueRow : OpenClaim := { program := "ytlbfeoobeleobaa", sum := "5d7eb65ff5c46eb2b5065fe06b1f20baaf9a81918dc646886262f2609d393dbc", func := "farebox/fareboxlaw10.IpeValue", spec := "ipeValue", unfollowed := true, recurses := true, apart := false }
def IpeValueSaid : Prop := ipeValueRow.holds Try.pinned (OpenSpec.ofChange ipeValueSpec)

/-- ITS FALSE NEIGHBOUR: 'it returns false'. Refute it at one input. -/
def ipeValueWrong : ChangeSpec := { name := "ipeValue", fn := fun _ => fun
  | [d1, d2] => { results := [.lit (.bool false)], args := [d1, d2] }
  | _ => none }
def IpeValueWrongFalsely : Prop := ipeValueRow.holds Try.pinned (OpenSpec.ofChange ipeValueWrong)

/-- 'fareboxlaw10.IpeCounts': WHATEVER THE INPUT: true; the input reads as it did. -/
def ipeCountsSpec : ChangeSpec := { name := "ipeCounts", fn := fun _ => fun
  | [d1, d2] => { results := [.lit (.bool true)], args := [d1, d2] }
  | _ => none }
def ipeCountsRow : OpenClaim := { program := "ytlbfeoobeleobaa", sum := "5d7eb65ff5c46eb2b5065fe06b1f20baaf9a81918dc646886262f2609d393dbc", func := "farebox/fareboxlaw10.IpeCounts", spec := "ipeCounts", unfollowed := true, recurses := true, apart := false }
def IpeCountsSaid : Prop := ipeCountsRow.holds Try.pinned (OpenSpec.ofChange ipeCountsSpec)

/-- ITS FALSE NEIGHBOUR: 'it returns false'. Refute it at one input. -/
def ipeCountsWrong : ChangeSpec := { name := "ipeCounts", fn := fun _ => fun
  | [d1, d2] => { results := [.lit (.bool false)], args := [d1, d2] }
  | _ => none }
def IpeCountsWrongFalsely : Prop := ipeCountsRow.holds Try.pinned (OpenSpec.ofChange ipeCountsWrong)

/-- 'fareboxlaw10.IpeDoes': WHATEVER THE INPUT: true; the input reads as it did. -/
def ipeDoesSpec : ChangeSpec := { name := "ipeDoes", fn := fun _ => fun
  | [d1, d2] => { results := [.lit (.bool true)], args := [d1, d2] }
  | _ => none }
def ipeDoesRow : OpenClaim := { program := "ytlbfeoobeleobaa", sum := "5d7eb65ff5c46eb2b5065fe06b1f20baaf9a81918dc646886262f2609d393dbc", func := "farebox/fareboxlaw10.IpeDoes", spec := "ipeDoes", unfollowed := true, recurses := true, apart := false }
def IpeDoesSaid : Prop := ipeDoesRow.holds Try.pinned (OpenSpec.ofChange ipeDoesSpec)

/-- ITS FALSE NEIGHBOUR: 'it returns false'. Refute it at one input. -/
def ipeDoesWrong : ChangeSpec := { name := "ipeDoes", fn := fun _ => fun
  | [d1, d2] => { results := [.lit (.bool false)], args := [d1, d2] }
  | _ => none }
def IpeDoesWrongFalsely : Prop := ipeDoesRow.holds Try.pinned (OpenSpec.ofChange ipeDoesWrong)

/-- 'fareboxlaw10.IpeReads': WHATEVER THE INPUT: true; the input reads as it did. -/
def ipeReadsSpec : ChangeSpec := { name := "ipeReads", fn := fun _ => fun
  | [d1, d2] => { results := [.lit (.bool true)], args := [d1, d2] }
  | _ => none }
def ipeReadsRow : OpenClaim := { program := "ytlbfeoobeleobaa", sum := "5d7eb65ff5c46eb2b5065fe06b1f20baaf9a81918dc646886262f2609d393dbc", func := "farebox/fareboxlaw10.IpeReads", spec := "ipeReads", unfollowed := true, recurses := true, apart := false }
def IpeReadsSaid : Prop := ipeReadsRow.holds Try.pinned (OpenSpec.ofChange ipeReadsSpec)

/-- ITS FALSE NEIGHBOUR: 'it returns false'. Refute it at one input. -/
def ipeReadsWrong : ChangeSpec := { name := "ipeReads", fn := fun _ => fun
  | [d1, d2] => { results := [.lit (.bool false)], args := [d1, d2] }
  | _ => none }
def IpeReadsWrongFalsely : Prop := ipeReadsRow.holds Try.pinned (OpenSpec.ofChange ipeReadsWrong)

/-- 'fareboxlaw10.IpeForms': WHATEVER THE INPUT: true; the input reads as it did. -/
def ipeFormsSpec : ChangeSpec := { name := "ipeForms", fn := fun _ => fun
  | [d1, d2] => { results := [.lit (.bool true)], args := [d1, d2] }
  | _ => none }
def ipeFormsRow : OpenClaim := { program := "ytlbfeoobeleobaa", sum := "5d7eb65ff5c46eb2b5065fe06b1f20baaf9a81918dc646886262f2609d393dbc", func := "farebox/fareboxlaw10.IpeForms", spec := "ipeForms", unfollowed := true, recurses := true, apart := false }
def IpeFormsSaid : Prop := ipeFormsRow.holds Try.pinned (OpenSpec.ofChange ipeFormsSpec)

/-- ITS FALSE NEIGHBOUR: 'it returns false'. Refute it at one input. -/
def ipeFormsWrong : ChangeSpec := { name := "ipeForms", fn := fun _ => fun
  | [d1, d2] => { results := [.lit (.bool false)], args := [d1, d2] }
  | _ => none }
def IpeFormsWrongFalsely : Prop := ipeFormsRow.holds Try.pinned (OpenSpec.ofChange ipeFormsWrong)

/-- 'fareboxlaw10.IpeBack': WHATEVER THE INPUT: true; the input reads as it did. -/
def ipeBackSpec : ChangeSpec := { name := "ipeBack", fn := fun _ => fun
  | [d1, d2, d3] => { results := [.lit (.bool true)], args := [d1, d2, d3] }
  | _ => none }
def ipeBackRow : OpenClaim := { program := "ytlbfeoobeleobaa", sum := "5d7eb65ff5c46eb2b5065fe06b1f20baaf9a81918dc646886262f2609d393dbc", func := "farebox/fareboxlaw10.IpeBack", spec := "ipeBack", unfollowed := true, recurses := true, apart := false }
def IpeBackSaid : Prop := ipeBackRow.holds Try.pinned (OpenSpec.ofChange ipeBackSpec)

/-- ITS FALSE NEIGHBOUR: 'it returns false'. Refute it at one input. -/
def ipeBackWrong : ChangeSpec := { name := "ipeBack", fn := fun _ => fun
  | [d1, d2, d3] => { results := [.lit (.bool false)], args := [d1, d2, d3] }
  | _ => none }
def IpeBackWrongFalsely : Prop := ipeBackRow.holds Try.pinned (OpenSpec.ofChange ipeBackWrong)

/- THE SECOND FORM. 'bulk': how many values and letters a reading holds, each counted each time it is reached (what is shared counts as often as it is met; a slice's spare places count too). A statement '..UptoSaid' is the law's where the arguments, and the package variables that the reading takes, are together of bulk at most 1048576: NARROWER than '..Said'. Prove '..Said' where nothing that the law and all that it calls make is longer than what came in: it says more and counts as full. Else prove '..UptoSaid'. A law counts once. -/
mutual
def uptoBulk {H : Type} : DataW H → Nat
  | .lit (.string bytes) => bytes.length + 1
  | .lit _ => 1
  | .nil => 1
  | .ptr d => uptoBulk d + 1
  | .slice elems spare => uptoBulkAll elems + uptoBulkAll spare + 1
  | .agg parts => uptoBulkAll parts + 1
  | .iface _ d => uptoBulk d + 1
  | .map entries => uptoBulkEntries entries + 1
  | .held _ => 1
def uptoBulkAll {H : Type} : List (DataW H) → Nat
  | [] => 0
  | d :: r => uptoBulk d + uptoBulkAll r
def uptoBulkEntries {H : Type} : List (Lit × DataW H) → Nat
  | [] => 0
  | x :: r => uptoBulkEntry x + uptoBulkEntries r
def uptoBulkEntry {H : Type} : Lit × DataW H → Nat
  | (.string bytes, d) => bytes.length + uptoBulk d + 1
  | (_, d) => uptoBulk d + 1
 end
def uptoSmall : (H : Type) → List (DataW H) → Bool := fun _ ds => decide (uptoBulkAll ds ≤ 1048576)
def OpenSpec.upto (s : _root_.Go.ChangeSpec) : _root_.Go.OpenSpec := { _root_.Go.OpenSpec.ofChange s with cond := some uptoSmall }

/-- 'fareboxlaw10.IpeApart', WHERE WHAT IT READS IS OF BULK AT MOST 1048576: true; the input reads as it did. -/
def ipeApartUptoRow : OpenClaim := { program := "ytlbfeoobeleobaa", sum := "5d7eb65ff5c46eb2b5065fe06b1f20baaf9a81918dc646886262f2609d393dbc", func := "farebox/fareboxlaw10.IpeApart", spec := "ipeApart", unfollowed := true, recurses := true, apart := false, narrowed := true }
def IpeApartUptoSaid : Prop := ipeApartUptoRow.holds Try.pinned (OpenSpec.upto ipeApartSpec)

/-- 'fareboxlaw10.IpeValue', WHERE WHAT IT READS IS OF BULK AT MOST 1048576: true; the input reads as it did. -/
def ipeValueUptoRow : OpenClaim := { program := "ytlbfeoobeleobaa", sum := "5d7eb65ff5c46eb2b5065fe06b1f20baaf9a81918dc646886262f2609d393dbc", func := "farebox/fareboxlaw10.IpeValue", spec := "ipeValue", unfollowed := true, recurses := true, apart := false, narrowed := true }
def IpeValueUptoSaid : Prop := ipeValueUptoRow.holds Try.pinned (OpenSpec.upto ipeValueSpec)

/-- 'fareboxlaw10.IpeCounts', WHERE WHAT IT READS IS OF BULK AT MOST 1048576: true; the input reads as it did. -/
def ipeCountsUptoRow : OpenClaim := { program := "ytlbfeoobeleobaa", sum := "5d7eb65ff5c46eb2b5065fe06b1f20baaf9a81918dc646886262f2609d393dbc", func := "farebox/fareboxlaw10.IpeCounts", spec := "ipeCounts", unfollowed := true, recurses := true, apart := false, narrowed := true }
def IpeCountsUptoSaid : Prop := ipeCountsUptoRow.holds Try.pinned (OpenSpec.upto ipeCountsSpec)

/-- 'fareboxlaw10.IpeDoes', WHERE WHAT IT READS IS OF BULK AT MOST 1048576: true; the input reads as it did. -/
def ipeDoesUptoRow : OpenClaim := { program := "ytlbfeoobeleobaa", sum := "5d7eb65ff5c46eb2b5065fe06b1f20baaf9a81918dc646886262f2609d393dbc", func := "farebox/fareboxlaw10.IpeDoes", spec := "ipeDoes", unfollowed := true, recurses := true, apart := false, narrowed := true }
def IpeDoesUptoSaid : Prop := ipeDoesUptoRow.holds Try.pinned (OpenSpec.upto ipeDoesSpec)

/-- 'fareboxlaw10.IpeReads', WHERE WHAT IT READS IS OF BULK AT MOST 1048576: true; the input reads as it did. -/
def ipeReadsUptoRow : OpenClaim := { program := "ytlbfeoobeleobaa", sum := "5d7eb65ff5c46eb2b5065fe06b1f20baaf9a81918dc646886262f2609d393dbc", func := "farebox/fareboxlaw10.IpeReads", spec := "ipeReads", unfollowed := true, recurses := true, apart := false, narrowed := true }
def IpeReadsUptoSaid : Prop := ipeReadsUptoRow.holds Try.pinned (OpenSpec.upto ipeReadsSpec)

/-- 'fareboxlaw10.IpeForms', WHERE WHAT IT READS IS OF BULK AT MOST 1048576: true; the input reads as it did. -/
def ipeFormsUptoRow : OpenClaim := { program := "ytlbfeoobeleobaa", sum := "5d7eb65ff5c46eb2b5065fe06b1f20baaf9a81918dc646886262f2609d393dbc", func := "farebox/fareboxlaw10.IpeForms", spec := "ipeForms", unfollowed := true, recurses := true, apart := false, narrowed := true }
def IpeFormsUptoSaid : Prop := ipeFormsUptoRow.holds Try.pinned (OpenSpec.upto ipeFormsSpec)

/-- 'fareboxlaw10.IpeBack', WHERE WHAT IT READS IS OF BULK AT MOST 1048576: true; the input reads as it did. -/
def ipeBackUptoRow : OpenClaim := { program := "ytlbfeoobeleobaa", sum := "5d7eb65ff5c46eb2b5065fe06b1f20baaf9a81918dc646886262f2609d393dbc", func := "farebox/fareboxlaw10.IpeBack", spec := "ipeBack", unfollowed := true, recurses := true, apart := false, narrowed := true }
def IpeBackUptoSaid : Prop := ipeBackUptoRow.holds Try.pinned (OpenSpec.upto ipeBackSpec)

end Rows
end Go.Proofs.Ytlbfeoobeleobaa
