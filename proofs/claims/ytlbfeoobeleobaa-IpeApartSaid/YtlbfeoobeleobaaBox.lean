/- A product's box. -/
import Derived.Test.YtlbfeoobeleobaaParseP
namespace Go.Proofs.Ytlbfeoobeleobaa
open Go.RowKit
set_option linter.unusedVariables false
set_option linter.unusedSimpArgs false

/-- block b is a product's box -/
def PB (b : Nat) (p : Prod) (w : World) : Prop := w.heap[b]? = some (.cells p.cells.toArray 24 (0, 0))
theorem PB.at_ {b : Nat} {p : Prod} {w : World} (h : PB b p w) (i : Nat) : w.cell? ⟨b, i, none⟩ = p.cells[i]? := by
  rw [cell_blk h]; simp
theorem PB.cs {b : Nat} {p : Prod} {w : World} (h : PB b p w) : w.cell? ⟨b, 0, none⟩ = some (.int .i64 p.kind) ∧ w.cell? ⟨b, 1, none⟩ = some (.int .i64 p.owner) ∧ w.cell? ⟨b, 2, none⟩ = some (.int .i64 p.id) ∧ w.cell? ⟨b, 3, none⟩ = some (.int .i64 p.card) ∧ w.cell? ⟨b, 4, none⟩ = some (.int .i64 p.ver) ∧ w.cell? ⟨b, 5, none⟩ = some (.int .i64 p.value) ∧ w.cell? ⟨b, 6, none⟩ = some (.int .i64 p.last) ∧
    w.cell? ⟨b, 7, none⟩ = some (.int .i64 p.rides) ∧ w.cell? ⟨b, 8, none⟩ = some (.bool p.opn) ∧ w.cell? ⟨b, 9, none⟩ = some (.int .i64 p.zone) ∧ w.cell? ⟨b, 10, none⟩ = some (.int .i64 p.day) ∧ w.cell? ⟨b, 11, none⟩ = some (.int .i64 p.txn) ∧ w.cell? ⟨b, 12, none⟩ = some (.int .i64 p.act) ∧ w.cell? ⟨b, 13, none⟩ = some (.bool p.blocked) :=
  ⟨h.at_ 0, h.at_ 1, h.at_ 2, h.at_ 3, h.at_ 4, h.at_ 5, h.at_ 6, h.at_ 7, h.at_ 8, h.at_ 9, h.at_ 10, h.at_ 11, h.at_ 12, h.at_ 13⟩
theorem PB.fr {b : Nat} {p : Prod} {w : World} (h : PB b p w) (i : Nat) : w.frozen? ⟨b, i, none⟩ = false := frozen_of_row w _ _ _ _ h
theorem PB.fs {b : Nat} {p : Prod} {w : World} (h : PB b p w) : w.frozen? ⟨b, 0, none⟩ = false ∧ w.frozen? ⟨b, 1, none⟩ = false ∧ w.frozen? ⟨b, 2, none⟩ = false ∧ w.frozen? ⟨b, 3, none⟩ = false ∧ w.frozen? ⟨b, 4, none⟩ = false ∧ w.frozen? ⟨b, 5, none⟩ = false ∧ w.frozen? ⟨b, 6, none⟩ = false ∧ w.frozen? ⟨b, 7, none⟩ = false ∧ w.frozen? ⟨b, 8, none⟩ = false ∧ w.frozen? ⟨b, 9, none⟩ = false ∧ w.frozen? ⟨b, 10, none⟩ = false ∧ w.frozen? ⟨b, 11, none⟩ = false ∧ w.frozen? ⟨b, 12, none⟩ = false ∧ w.frozen? ⟨b, 13, none⟩ = false :=
  ⟨h.fr 0, h.fr 1, h.fr 2, h.fr 3, h.fr 4, h.fr 5, h.fr 6, h.fr 7, h.fr 8, h.fr 9, h.fr 10, h.fr 11, h.fr 12, h.fr 13⟩

theorem blk_set {w : World} {b : Nat} {cs : List Value} {e : TypeId} (h : w.heap[b]? = some (.cells cs.toArray e (0, 0))) (i : Nat) (u : Value) : (w.setCell ⟨b, i, none⟩ u).heap[b]? = some (.cells (cs.set i u).toArray e (0, 0)) := by
  rw [heap_setCell_same w _ _ _ _ _ h]; simp
/-- a product stored into a box -/
abbrev stP (b : Nat) (q : Prod) (w : World) : World := (((((((((((((w.setCell ⟨b, 0, none⟩ (.int .i64 q.kind)).setCell ⟨b, 1, none⟩ (.int .i64 q.owner)).setCell ⟨b, 2, none⟩ (.int .i64 q.id)).setCell ⟨b, 3, none⟩ (.int .i64 q.card)).setCell ⟨b, 4, none⟩ (.int .i64 q.ver)).setCell ⟨b, 5, none⟩ (.int .i64 q.value)).setCell ⟨b, 6, none⟩ (.int .i64 q.last)).setCell ⟨b, 7, none⟩ (.int .i64 q.rides)).setCell ⟨b, 8, none⟩ (.bool q.opn)).setCell ⟨b, 9, none⟩ (.int .i64 q.zone)).setCell ⟨b, 10, none⟩ (.int .i64 q.day)).setCell ⟨b, 11, none⟩ (.int .i64 q.txn)).setCell ⟨b, 12, none⟩ (.int .i64 q.act)).setCell ⟨b, 13, none⟩ (.bool q.blocked)
theorem PB.store {b : Nat} {p : Prod} {w : World} (h : PB b p w) (q : Prod) : PB b q (stP b q w) := by
  have h : w.heap[b]? = some (.cells p.cells.toArray 24 (0, 0)) := h
  have h0 := blk_set h 0 (.int .i64 q.kind)
  have h1 := blk_set h0 1 (.int .i64 q.owner)
  have h2 := blk_set h1 2 (.int .i64 q.id)
  have h3 := blk_set h2 3 (.int .i64 q.card)
  have h4 := blk_set h3 4 (.int .i64 q.ver)
  have h5 := blk_set h4 5 (.int .i64 q.value)
  have h6 := blk_set h5 6 (.int .i64 q.last)
  have h7 := blk_set h6 7 (.int .i64 q.rides)
  have h8 := blk_set h7 8 (.bool q.opn)
  have h9 := blk_set h8 9 (.int .i64 q.zone)
  have h10 := blk_set h9 10 (.int .i64 q.day)
  have h11 := blk_set h10 11 (.int .i64 q.txn)
  have h12 := blk_set h11 12 (.int .i64 q.act)
  have h13 := blk_set h12 13 (.bool q.blocked)
  exact h13.trans (congrArg (fun l : List Value => some (Obj.cells l.toArray 24 (0, 0))) (show _ = q.cells from rfl))
theorem stP_below {b B : Nat} {w0 w : World} (q : Prod) (hB : Below B w0 w) (hb : B ≤ b) : Below B w0 (stP b q w) :=
  (((((((((((((hB.setCell (p := ⟨b, 0, none⟩) hb (.int .i64 q.kind)).setCell (p := ⟨b, 1, none⟩) hb (.int .i64 q.owner)).setCell (p := ⟨b, 2, none⟩) hb (.int .i64 q.id)).setCell (p := ⟨b, 3, none⟩) hb (.int .i64 q.card)).setCell (p := ⟨b, 4, none⟩) hb (.int .i64 q.ver)).setCell (p := ⟨b, 5, none⟩) hb (.int .i64 q.value)).setCell (p := ⟨b, 6, none⟩) hb (.int .i64 q.last)).setCell (p := ⟨b, 7, none⟩) hb (.int .i64 q.rides)).setCell (p := ⟨b, 8, none⟩) hb (.bool q.opn)).setCell (p := ⟨b, 9, none⟩) hb (.int .i64 q.zone)).setCell (p := ⟨b, 10, none⟩) hb (.int .i64 q.day)).setCell (p := ⟨b, 11, none⟩) hb (.int .i64 q.txn)).setCell (p := ⟨b, 12, none⟩) hb (.int .i64 q.act)).setCell (p := ⟨b, 13, none⟩) hb (.bool q.blocked)
theorem stP_keep {b k : Nat} {w : World} (q : Prod) (hne : k ≠ b) : (stP b q w).heap[k]? = w.heap[k]? := by
  unfold stP; rw [Below.heap_setCell _ _ _ _ hne, Below.heap_setCell _ _ _ _ hne, Below.heap_setCell _ _ _ _ hne, Below.heap_setCell _ _ _ _ hne, Below.heap_setCell _ _ _ _ hne, Below.heap_setCell _ _ _ _ hne, Below.heap_setCell _ _ _ _ hne, Below.heap_setCell _ _ _ _ hne, Below.heap_setCell _ _ _ _ hne, Below.heap_setCell _ _ _ _ hne, Below.heap_setCell _ _ _ _ hne, Below.heap_setCell _ _ _ _ hne, Below.heap_setCell _ _ _ _ hne, Below.heap_setCell _ _ _ _ hne]
theorem stP_size (b : Nat) (w : World) (q : Prod) : (stP b q w).heap.size = w.heap.size := by simp [stP]
end Go.Proofs.Ytlbfeoobeleobaa
