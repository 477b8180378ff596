/- The row of ListsOff. -/
import Derived.Test.YtpjkehfmdmmfeaaRows
import Derived.Test.YtpjkehfmdmmfeaaOpen
import Derived.Test.YtpjkehfmdmmfeaaOff
import Derived.WalkKit
import Derived.ProofKit
import Derived.OpenShut
import Derived.ShutString
import Derived.ChangeOld
import Derived.Below
import Derived.SizedLaws
import Derived.Lib.SmallJoins
namespace Go.Proofs.Ytpjkehfmdmmfeaa.listsOff
open Go.ChangeShapes Go.WideShapes Go.ChangeAt Go.RowKit
set_option linter.unusedVariables false
set_option linter.unusedSimpArgs false
theorem own : ownKnob Try.prog.godebug = none := by kernel_rfl
theorem laidOut : laidOutB Try.prog = true := by kernel_rfl
set_option maxRecDepth 100000 in
theorem lifted (os : Os) (started : os.Started) (H : Type) (enc : TypeId × Value → H) :
    ReturnsInHanded {} Try.checked os 3 .any (Rows.listsOffSpec.pre6 enc Try.prog Try.f3 Rows.listsOffRow.domain false) (Rows.listsOffSpec.post enc Try.prog Try.f3 false true false false) := by
  refine returnsInHanded_of_change_sized (C := Try.checked) own started (by kernel_rfl) Try.func3
    (ChangeSpec.witness6 (enc := enc) (C := Try.checked) false ⟨#[], #[.agg #[.int .i64 0, .slice none 0 0, .slice none 0 0], .int .i64 0], []⟩ 8 (by kernel_rfl) (by kernel_rfl) (by kernel_rfl) (by kernel_rfl)) ?_
  intro W base args ds gs before hval0 hW hcnd hsz0 _
  have hsz : (DataW.weightsEach Try.prog (Try.f3.params.toList ++ Rows.listsOffSpec.plain.varTypes Try.prog) (ds ++ gs)).all (· ≤ reachBytes) = true := hsz0
  have hval : ∀ (j : Nat) t v, Try.f3.params[j]? = some t → args[j]? = some v → Value.okWide Try.prog W .any base t v := hval0
  have hW' := hW
  obtain ⟨p, q, hA0, hV, rfl, hfz, hnd⟩ := hW
  have hA : DataW.TrodAll enc Try.prog W 0 (fun _ => true) true Try.f3.params.toList args.toList ds p := hA0
  rw [Try.params3] at hA hval hsz
  obtain ⟨v0, vs0, d0, ds0, p0, q0, hargs, rfl, rfl, h0, r0⟩ := trodAll_cons hA
  obtain ⟨v1, vs1, d1, ds1, p1, q1, rfl, rfl, rfl, h1, r1⟩ := trodAll_cons r0
  obtain ⟨rfl, rfl, rfl⟩ := trodAll_nil r1
  obtain rfl : args = #[v0, v1] := by cases args; simp_all
  obtain ⟨rfl, rfl⟩ := trodVars_none hV
  have k0 := h0
  have lt0 : ∀ x ∈ p0, x.block < W.heap.size := by obtain ⟨m, hm⟩ := k0; exact DataW.trod_lt m _ _ _ hm
  obtain ⟨u0, u1, u2, y0, y1, y2, n, rfl, rfl, rfl, g0, g1, g2⟩ := Go.Joins.open_agg3 Try.underlying24 (by kernel_rfl) (by kernel_rfl) (hval 0 24 v0 rfl rfl) h0
  obtain ⟨z0, e0, _, _⟩ := DataW.trod_int Try.underlying3 g0
  obtain ⟨a1, n1, c1, add, e1, hl1, hs1, hd1⟩ := open_items Try.underlying22 Try.underlying35 (by kernel_rfl) (by kernel_rfl) Try.underlying3 Try.underlying3 Try.underlying3 Try.underlying3 Try.underlying3 g1
  obtain ⟨a2, n2, c2, off, e2, hl2, hs2, hd2⟩ := open_items Try.underlying22 Try.underlying35 (by kernel_rfl) (by kernel_rfl) Try.underlying3 Try.underlying3 Try.underlying3 Try.underlying3 Try.underlying3 g2
  cases e0; cases e1; cases e2
  obtain ⟨z1, rfl, rfl, rfl, w1⟩ := open_int Try.underlying3 (hval 1 3 v1 rfl rfl) h1
  have y : add.length * 40 ≤ 140737488351232 := by
    rcases hd1 with hd1 | ⟨hd1, hn1⟩
    · rw [hl1, hd1]; decide
    · rcases hd1 with hd1 | ⟨el, sp, hd1, hel⟩
      · exact absurd hd1 hn1
      · have := sized_field_slice hsz (j := 0) (t := 24) rfl rfl Try.underlying24 (i := 1) rfl (by rw [hd1]; rfl) Try.underlying22
        rw [hl1, ← hel]
        exact this
  clear hA0 hval0 hsz0 hsz
  have hw1 : -9223372036854775808 ≤ z1 ∧ z1 ≤ 9223372036854775807 := by have h := w1; simp only [Lit.wf, Bool.and_eq_true, decide_eq_true_eq] at h; exact h
  refine (listsOff_true z0 z1 add _ _ W hs1 y ⟨_, _, _, rfl⟩ hw1).mono fun e W' ⟨he, bel⟩ => ?_
  subst he
  exact ⟨_, rfl, _, _, _, [], _, [], hW', trodAll_mk1 (shut_bool Try.underlying4 _), trodAll_cons_mk (Below.trod laidOut (by kernel_rfl) (of_decide_eq_true (by kernel_rfl)) k0 bel lt0) (trodAll_cons_mk (shut_int Try.underlying3 w1) trodAll_mk0), rfl, bel.frame _, fun h => by cases h⟩
theorem over : Rows.listsOffRow.holds Try.pinned (OpenSpec.ofChange Rows.listsOffSpec) :=
  OpenClaim.holds_of_wide 3 Try.f3 rfl rfl rfl rfl rfl rfl rfl ⟨rfl, rfl, rfl, rfl, rfl⟩ rfl rfl rfl rfl rfl (by kernel_rfl) Try.func3 (by kernel_rfl)
    (of_decide_eq_true (by kernel_rfl)) (by unfold Func.isWrapper; first | (rw [if_pos (by decide +kernel)]; kernel_rfl) | (rw [if_neg (by decide +kernel)]; exact ⟨rfl, rfl⟩))
    (fun os started H enc _ => lifted os started H enc)
theorem proved : Rows.ListsOffSaid := over
#print axioms proved
end Go.Proofs.Ytpjkehfmdmmfeaa.listsOff
namespace Go.Proofs.Ytpjkehfmdmmfeaa
/-- The row, under a short name, for the claim. -/
theorem listsOff_holds : Rows.ListsOffSaid := listsOff.proved
end Go.Proofs.Ytpjkehfmdmmfeaa
