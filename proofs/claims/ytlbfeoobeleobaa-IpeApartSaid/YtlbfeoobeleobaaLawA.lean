/- The statements' own small functions: purse, '==' of products. -/
import Derived.Test.YtlbfeoobeleobaaThing
namespace Go.Proofs.Ytlbfeoobeleobaa
open Go.RowKit
set_option linter.unusedVariables false
set_option linter.unusedSimpArgs false

def purseP : Prod := ⟨1, 2, 9, 7, 1, 500, 0, 0, false, 0, 0, 0, 0, false⟩

set_option maxHeartbeats 4000000 in
set_option maxRecDepth 100000 in
theorem purse_any (w : World) : Calls Try.prog 25 #[] w fun e w' => e = .returned purseP.v ∧ Below w.heap.size w w' := by
  have hz : PB w.heap.size Prod.zero (w.alloc (.cells Prod.zero.cells.toArray 24)) := heap_alloc_new w _
  have HB := Lib.hid (show Below w.heap.size w (w.alloc (.cells Prod.zero.cells.toArray 24)) from (by repeat' (first | exact Below.refl _ _ | refine Below.alloc ?_ (by first | omega | (simp; done) | (simp; omega)) _ | refine Below.drew ?_ | refine below_drewN ?_ _ | refine Below.setCell ?_ (by first | omega | (simp; done) | (simp; omega)) _)))
  go_enter Try.func25, Try.ntmps25
  go_upto_region 1 with fail
  change Code.wp _ _ _ _ (w.alloc (.cells Prod.zero.cells.toArray 24))
  generalize w.alloc (.cells Prod.zero.cells.toArray 24) = w1 at *
  have cz := hz.cs
  have fz := hz.fs
  have HZ := Lib.hid hz; clear hz
  go_wp2_with fail
  refine bodyPost_ret (v := purseP.v) ?_ rfl ⟨rfl, stP_below purseP HB.out (Nat.le_refl _)⟩
  have hp := HZ.out.store purseP
  change (results _ _).run _ (stP w.heap.size purseP w1) = .ok _ (stP w.heap.size purseP w1)
  generalize stP w.heap.size purseP w1 = w5 at *
  clear cz fz
  have cs := hp.cs
  simp [results, Try.results25, go_sem, cs, Prod.v]

def prodEqB (x y : Prod) : Bool := decide (x = y)
theorem prod_equal (x y : Prod) (d : Nat) (w : World) : (Op.equalIn (d + 2) 24 x.v y.v).run Try.prog w = .ok (prodEqB x y) w := by
  have h : prodEqB x y = (x.kind == y.kind && (x.owner == y.owner && (x.id == y.id && (x.card == y.card && (x.ver == y.ver && (x.value == y.value && (x.last == y.last && (x.rides == y.rides && (x.opn == y.opn && (x.zone == y.zone && (x.day == y.day && (x.txn == y.txn && (x.act == y.act && (x.blocked == y.blocked && true)))))))))))))) := by
    obtain ⟨x0, x1, x2, x3, x4, x5, x6, x7, x8, x9, x10, x11, x12, x13⟩ := x
    obtain ⟨y0, y1, y2, y3, y4, y5, y6, y7, y8, y9, y10, y11, y12, y13⟩ := y
    rw [Bool.eq_iff_iff]; simp only [prodEqB, decide_eq_true_eq, Bool.and_eq_true, beq_iff_eq, Prod.mk.injEq, and_true]
  rw [h]
  refine eq_struct Try.underlying24 (by kernel_rfl) ?_
  refine eq_field (by rfl) (by go_simp; rfl) (by go_simp; rfl) (by go_simp) ?_
  refine eq_field (by rfl) (by go_simp; rfl) (by go_simp; rfl) (by go_simp) ?_
  refine eq_field (by rfl) (by go_simp; rfl) (by go_simp; rfl) (by go_simp) ?_
  refine eq_field (by rfl) (by go_simp; rfl) (by go_simp; rfl) (by go_simp) ?_
  refine eq_field (by rfl) (by go_simp; rfl) (by go_simp; rfl) (by go_simp) ?_
  refine eq_field (by rfl) (by go_simp; rfl) (by go_simp; rfl) (by go_simp) ?_
  refine eq_field (by rfl) (by go_simp; rfl) (by go_simp; rfl) (by go_simp) ?_
  refine eq_field (by rfl) (by go_simp; rfl) (by go_simp; rfl) (by go_simp) ?_
  refine eq_field (by rfl) (by go_simp; rfl) (by go_simp; rfl) (by go_simp) ?_
  refine eq_field (by rfl) (by go_simp; rfl) (by go_simp; rfl) (by go_simp) ?_
  refine eq_field (by rfl) (by go_simp; rfl) (by go_simp; rfl) (by go_simp) ?_
  refine eq_field (by rfl) (by go_simp; rfl) (by go_simp; rfl) (by go_simp) ?_
  refine eq_field (by rfl) (by go_simp; rfl) (by go_simp; rfl) (by go_simp) ?_
  refine eq_field (by rfl) (by go_simp; rfl) (by go_simp; rfl) (by go_simp) ?_
  exact eq_fields_nil
theorem prod_eql (x y : Prod) (w : World) : (binOp .eql 24 x.v y.v).run Try.prog w = .ok (.bool (prodEqB x y)) w := run_eql_of (prod_equal x y 9998 w)
theorem prod_neq (x y : Prod) (w : World) : (binOp .neq 24 x.v y.v).run Try.prog w = .ok (.bool (!prodEqB x y)) w := run_neq_of (prod_equal x y 9998 w)
theorem purse_form : purseP.form = [224, 19, 1, 1, 1, 2, 1, 2, 3, 1, 9, 4, 1, 7, 5, 1, 1, 6, 2, 1, 244] := by decide
theorem purse_right : purseP.right = true := by decide
theorem purse_parse : parseP purseP.form = (purseP, 0) := by decide
end Go.Proofs.Ytlbfeoobeleobaa
