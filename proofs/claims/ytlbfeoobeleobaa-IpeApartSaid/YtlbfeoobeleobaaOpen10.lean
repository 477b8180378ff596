/- A product among the arguments, opened. -/
import Derived.Test.YtlbfeoobeleobaaProd
import Derived.Deep.Slices
import Derived.Deep.Fields
import Derived.ChangeSame
import Derived.SizedLaws
import Derived.ProofKit
import Derived.OpenShut
import Derived.ShutString
import Derived.ChangeOld
import Derived.Below
import Derived.Lib.SmallJoins
namespace Go.Proofs.Ytlbfeoobeleobaa
open Go.ChangeShapes Go.WideShapes Go.Deep Go.RowKit Go.Joins
set_option linter.unusedVariables false
set_option linter.unusedSimpArgs false
section
variable {H : Type} {enc : TypeId × Value → H} {w : World} {base : Nat} {spare : Nat → Bool} {held : Bool}
/-- a whole number among a record's cells -/
theorem int_field {P : Program} {e : TypeId} {fs : Array Field} {n : Nat} {cs : List Value} {x : DataW H × List MemPlace} (he : P.underlying e = some (.struct fs)) (hone : oneCellFields P fs = true) (h : DataW.trod enc P w base spare held n e cs = some x)
    {j : Nat} {f : Field} {k : IntKind} (hj : fs[j]? = some f) (hk : P.underlying f.type = some (.int k)) : ∃ z, cs[j]? = some (.int k z) ∧ (Lit.int k z).wf = true := by
  obtain ⟨ys, n', _, _, _, hyl, hf⟩ := DataW.trod_struct he h
  have hjl : j < fs.size := (Array.getElem?_eq_some_iff.1 hj).1
  have h1 := hf j f hj
  rw [List.getElem?_eq_getElem (by omega), (hone_of hone j f hj).1, (hone_of hone j f hj).2] at h1
  obtain ⟨z, hz, _, hw⟩ := DataW.trod_int hk h1
  refine ⟨z, ?_, hw⟩
  have := congrArg (fun l => l[0]?) hz
  simpa [List.getElem?_take, List.getElem?_drop] using this
theorem bool_field {P : Program} {e : TypeId} {fs : Array Field} {n : Nat} {cs : List Value} {x : DataW H × List MemPlace} (he : P.underlying e = some (.struct fs)) (hone : oneCellFields P fs = true) (h : DataW.trod enc P w base spare held n e cs = some x)
    {j : Nat} {f : Field} (hj : fs[j]? = some f) (hk : P.underlying f.type = some .bool) : ∃ z, cs[j]? = some (.bool z) := by
  obtain ⟨ys, n', _, _, _, hyl, hf⟩ := DataW.trod_struct he h
  have hjl : j < fs.size := (Array.getElem?_eq_some_iff.1 hj).1
  have h1 := hf j f hj
  rw [List.getElem?_eq_getElem (by omega), (hone_of hone j f hj).1, (hone_of hone j f hj).2] at h1
  obtain ⟨z, hz, _⟩ := DataW.trod_bool hk h1
  refine ⟨z, ?_⟩
  have := congrArg (fun l => l[0]?) hz
  simpa [List.getElem?_take, List.getElem?_drop] using this

set_option maxRecDepth 100000 in
theorem open_prod {r : Reach} {b0 : Nat} {v : Value} {d : DataW H} {p : List MemPlace} (hv : Value.okWide Try.prog w r b0 24 v) (h : DataW.Trod enc Try.prog w base spare held 24 v d p) : ∃ x : Prod, v = x.v := by
  have hu := Try.underlying24
  obtain ⟨cs, rfl, hsz⟩ := okWide_struct hu hv
  obtain ⟨fuel, hf⟩ := h
  obtain ⟨z0, q0, w0⟩ := int_field (k := .i64) hu (by kernel_rfl) hf (j := 0) rfl Try.underlying22
  obtain ⟨z1, q1, w1⟩ := int_field (k := .i64) hu (by kernel_rfl) hf (j := 1) rfl Try.underlying3
  obtain ⟨z2, q2, w2⟩ := int_field (k := .i64) hu (by kernel_rfl) hf (j := 2) rfl Try.underlying3
  obtain ⟨z3, q3, w3⟩ := int_field (k := .i64) hu (by kernel_rfl) hf (j := 3) rfl Try.underlying3
  obtain ⟨z4, q4, w4⟩ := int_field (k := .i64) hu (by kernel_rfl) hf (j := 4) rfl Try.underlying3
  obtain ⟨z5, q5, w5⟩ := int_field (k := .i64) hu (by kernel_rfl) hf (j := 5) rfl Try.underlying3
  obtain ⟨z6, q6, w6⟩ := int_field (k := .i64) hu (by kernel_rfl) hf (j := 6) rfl Try.underlying3
  obtain ⟨z7, q7, w7⟩ := int_field (k := .i64) hu (by kernel_rfl) hf (j := 7) rfl Try.underlying3
  obtain ⟨z8, q8⟩ := bool_field hu (by kernel_rfl) hf (j := 8) rfl Try.underlying4
  obtain ⟨z9, q9, w9⟩ := int_field (k := .i64) hu (by kernel_rfl) hf (j := 9) rfl Try.underlying3
  obtain ⟨z10, q10, w10⟩ := int_field (k := .i64) hu (by kernel_rfl) hf (j := 10) rfl Try.underlying3
  obtain ⟨z11, q11, w11⟩ := int_field (k := .i64) hu (by kernel_rfl) hf (j := 11) rfl Try.underlying3
  obtain ⟨z12, q12, w12⟩ := int_field (k := .i64) hu (by kernel_rfl) hf (j := 12) rfl Try.underlying3
  obtain ⟨z13, q13⟩ := bool_field hu (by kernel_rfl) hf (j := 13) rfl Try.underlying4
  refine ⟨⟨z0, z1, z2, z3, z4, z5, z6, z7, z8, z9, z10, z11, z12, z13⟩, ?_⟩
  have hl : cs.size = 14 := hsz.trans (by kernel_rfl)
  have hcs : cs = #[.int .i64 z0, .int .i64 z1, .int .i64 z2, .int .i64 z3, .int .i64 z4, .int .i64 z5, .int .i64 z6, .int .i64 z7, .bool z8, .int .i64 z9, .int .i64 z10, .int .i64 z11, .int .i64 z12, .bool z13] := by
    apply Array.toList_inj.1
    refine List.ext_getElem? fun i => ?_
    by_cases hi : i < 14
    · have : i = 0 ∨ i = 1 ∨ i = 2 ∨ i = 3 ∨ i = 4 ∨ i = 5 ∨ i = 6 ∨ i = 7 ∨ i = 8 ∨ i = 9 ∨ i = 10 ∨ i = 11 ∨ i = 12 ∨ i = 13 := by omega
      rcases this with rfl | rfl | rfl | rfl | rfl | rfl | rfl | rfl | rfl | rfl | rfl | rfl | rfl | rfl
      · exact q0
      · exact q1
      · exact q2
      · exact q3
      · exact q4
      · exact q5
      · exact q6
      · exact q7
      · exact q8
      · exact q9
      · exact q10
      · exact q11
      · exact q12
      · exact q13
    · rw [List.getElem?_eq_none (by simp; omega), List.getElem?_eq_none (by simp; omega)]
  rw [hcs]; rfl
end
end Go.Proofs.Ytlbfeoobeleobaa
