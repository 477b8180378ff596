/- A thing: its small functions, and done. -/
import Derived.Test.YtlbfeoobeleobaaParseD
import Derived.StillTailTactics
namespace Go.Proofs.Ytlbfeoobeleobaa
open Go.RowKit
set_option linter.unusedVariables false
set_option linter.unusedSimpArgs false

/-- block b is a thing's box -/
def PT (b : Nat) (p : Prod) (w : World) : Prop := w.heap[b]? = some (.cells p.cells.toArray 34 (0, 0))
theorem PT.at_ {b : Nat} {p : Prod} {w : World} (h : PT b p w) (i : Nat) : w.cell? ⟨b, i, none⟩ = p.cells[i]? := by
  rw [cell_blk h]; simp
theorem PT.cs {b : Nat} {p : Prod} {w : World} (h : PT b p w) : w.cell? ⟨b, 0, none⟩ = some (.int .i64 p.kind) ∧ w.cell? ⟨b, 1, none⟩ = some (.int .i64 p.owner) ∧ w.cell? ⟨b, 2, none⟩ = some (.int .i64 p.id) ∧ w.cell? ⟨b, 3, none⟩ = some (.int .i64 p.card) ∧ w.cell? ⟨b, 4, none⟩ = some (.int .i64 p.ver) ∧ w.cell? ⟨b, 5, none⟩ = some (.int .i64 p.value) ∧ w.cell? ⟨b, 6, none⟩ = some (.int .i64 p.last) ∧
    w.cell? ⟨b, 7, none⟩ = some (.int .i64 p.rides) ∧ w.cell? ⟨b, 8, none⟩ = some (.bool p.opn) ∧ w.cell? ⟨b, 9, none⟩ = some (.int .i64 p.zone) ∧ w.cell? ⟨b, 10, none⟩ = some (.int .i64 p.day) ∧ w.cell? ⟨b, 11, none⟩ = some (.int .i64 p.txn) ∧ w.cell? ⟨b, 12, none⟩ = some (.int .i64 p.act) ∧ w.cell? ⟨b, 13, none⟩ = some (.bool p.blocked) :=
  ⟨h.at_ 0, h.at_ 1, h.at_ 2, h.at_ 3, h.at_ 4, h.at_ 5, h.at_ 6, h.at_ 7, h.at_ 8, h.at_ 9, h.at_ 10, h.at_ 11, h.at_ 12, h.at_ 13⟩
theorem PT.fr {b : Nat} {p : Prod} {w : World} (h : PT b p w) (i : Nat) : w.frozen? ⟨b, i, none⟩ = false := frozen_of_row w _ _ _ _ h
theorem PT.fs {b : Nat} {p : Prod} {w : World} (h : PT b p w) : w.frozen? ⟨b, 0, none⟩ = false ∧ w.frozen? ⟨b, 1, none⟩ = false ∧ w.frozen? ⟨b, 2, none⟩ = false ∧ w.frozen? ⟨b, 3, none⟩ = false ∧ w.frozen? ⟨b, 4, none⟩ = false ∧ w.frozen? ⟨b, 5, none⟩ = false ∧ w.frozen? ⟨b, 6, none⟩ = false ∧ w.frozen? ⟨b, 7, none⟩ = false ∧ w.frozen? ⟨b, 8, none⟩ = false ∧ w.frozen? ⟨b, 9, none⟩ = false ∧ w.frozen? ⟨b, 10, none⟩ = false ∧ w.frozen? ⟨b, 11, none⟩ = false ∧ w.frozen? ⟨b, 12, none⟩ = false ∧ w.frozen? ⟨b, 13, none⟩ = false :=
  ⟨h.fr 0, h.fr 1, h.fr 2, h.fr 3, h.fr 4, h.fr 5, h.fr 6, h.fr 7, h.fr 8, h.fr 9, h.fr 10, h.fr 11, h.fr 12, h.fr 13⟩

theorem PT.store {b : Nat} {p : Prod} {w : World} (h : PT b p w) (q : Prod) : PT b q (stP b q w) := by
  have h : w.heap[b]? = some (.cells p.cells.toArray 34 (0, 0)) := h
  have h0 := blk_set h 0 (.int .i64 q.kind)
  have h1 := blk_set h0 1 (.int .i64 q.owner)
  have h2 := blk_set h1 2 (.int .i64 q.id)
  have h3 := blk_set h2 3 (.int .i64 q.card)
  have h4 := blk_set h3 4 (.int .i64 q.ver)
  have h5 := blk_set h4 5 (.int .i64 q.value)
  have h6 := blk_set h5 6 (.int .i64 q.last)
  have h7 := blk_set h6 7 (.int .i64 q.rides)
  have h8 := blk_set h7 8 (.bool q.opn)
  have h9 := blk_set h8 9 (.int .i64 q.zone)
  have h10 := blk_set h9 10 (.int .i64 q.day)
  have h11 := blk_set h10 11 (.int .i64 q.txn)
  have h12 := blk_set h11 12 (.int .i64 q.act)
  have h13 := blk_set h12 13 (.bool q.blocked)
  exact h13.trans (congrArg (fun l : List Value => some (Obj.cells l.toArray 34 (0, 0))) (show _ = q.cells from rfl))

def unl (b : Bool) (e : Int) : Int := if b then 0 else e
set_option maxHeartbeats 1000000 in
theorem unless_any (b : Bool) (e : Int) (w : World) : Calls Try.prog 32 #[.bool b, .int .i64 e] w fun ed w' => ed = .returned (.int .i64 (unl b e)) ∧ w' = w := by
  cases b <;>
  · go_enter Try.func32, Try.ntmps32
    go_wp2_with fail
    go_ret
    exact ⟨rfl, rfl⟩
def inB (n most : Int) : Bool := decide (0 ≤ n) && decide (n ≤ most)
set_option maxHeartbeats 1000000 in
theorem in_any (n most : Int) (w : World) : Calls Try.prog 33 #[.int .i64 n, .int .i64 most] w fun ed w' => ed = .returned (.bool (inB n most)) ∧ w' = w := by
  by_cases h0 : 0 ≤ n
  · have d0 : decide (0 ≤ n) = true := by simpa using h0
    have hr : inB n most = decide (n ≤ most) := by unfold inB; rw [d0]; rfl
    rw [hr]
    clear hr
    go_enter Try.func33, Try.ntmps33
    go_wp2_with fail
    go_ret
    exact ⟨rfl, rfl⟩
  · have d0 : decide (0 ≤ n) = false := by simpa using h0
    have hr : inB n most = false := by unfold inB; rw [d0]; rfl
    rw [hr]
    clear hr
    go_enter Try.func33, Try.ntmps33
    go_wp2_with fail
    go_ret
    exact ⟨rfl, rfl⟩

/-- what done answers -/
def doneR (p : Prod) : List Int → Prod × Int
  | [] => if p.txn = 65535 then (Prod.zero, 29) else ({ p with txn := p.txn + 1 }, 0)
  | e :: es => if e = 0 then doneR p es else (Prod.zero, e)
theorem doneR_skip (p : Prod) (es : List Int) (k : Nat) (h : ∀ e ∈ es.take k, e = 0) : doneR p es = doneR p (es.drop k) := by
  induction k generalizing es with
  | zero => rfl
  | succ k ih =>
    cases es with
    | nil => rfl
    | cons e es =>
      have h0 : e = 0 := h e (by simp)
      rw [List.drop_succ_cons, ← ih es (fun x hx => h x (by simp [hx]))]
      simp [doneR, h0]

set_option maxHeartbeats 4000000 in
set_option maxRecDepth 100000 in
theorem done_any (p : Prod) (v : Value) (es : List Int) (w : World) (hs : Sl 1 w v es.length (i64s es)) (h0 : 0 ≤ p.txn) (h1 : p.txn ≤ 65535) (hl : es.length ≤ 1000) : Calls Try.prog 34 #[p.v, v] w (ProdE w (doneR p es)) := by
  obtain ⟨a, c, rfl⟩ := hs.shape
  obtain ⟨pa, pb, pc, pd, pe, pf, pg, ph, po, pi, pj, pk, pl, pm⟩ := p
  simp only at h0 h1
  generalize hP : (⟨pa, pb, pc, pd, pe, pf, pg, ph, po, pi, pj, pk, pl, pm⟩ : Prod) = p
  have hq : PT w.heap.size p (((w.alloc (.cells p.cells.toArray 34)).alloc (.cells Prod.zero.cells.toArray 34))) := (Below.heap_alloc _ _ _ (by simp)).trans (heap_alloc_new w _)
  have hz : PT (w.heap.size + 1) Prod.zero (((w.alloc (.cells p.cells.toArray 34)).alloc (.cells Prod.zero.cells.toArray 34))) := by
    have := heap_alloc_new (w.alloc (.cells p.cells.toArray 34)) (.cells Prod.zero.cells.toArray 34)
    simpa [PT] using this
  have hB : Below w.heap.size w (((w.alloc (.cells p.cells.toArray 34)).alloc (.cells Prod.zero.cells.toArray 34))) := (by repeat' (first | exact Below.refl _ _ | refine Below.alloc ?_ (by first | omega | (simp; done) | (simp; omega)) _ | refine Below.drew ?_ | refine below_drewN ?_ _ | refine Below.setCell ?_ (by first | omega | (simp; done) | (simp; omega)) _))
  subst hP
  have HS := Lib.hid hs; clear hs
  simp only [Prod.v]
  go_enter Try.func34, Try.ntmps34
  go_wp2_with fail
  change Code.wp _ _ _ _ (((w.alloc (.cells (Prod.cells ⟨pa, pb, pc, pd, pe, pf, pg, ph, po, pi, pj, pk, pl, pm⟩).toArray 34)).alloc (.cells Prod.zero.cells.toArray 34)))
  generalize (((w.alloc (.cells (Prod.cells ⟨pa, pb, pc, pd, pe, pf, pg, ph, po, pi, pj, pk, pl, pm⟩).toArray 34)).alloc (.cells Prod.zero.cells.toArray 34))) = w1 at *
  have HS1 := Lib.hid (HS.out.ofBelow hB)
  have cp := hq.cs
  have fp := hq.fr 11
  have cz := hz.cs
  have fz := hz.fs
  dsimp only at cp
  have HQ := Lib.hid hq; clear hq
  have HZ := Lib.hid hz; clear hz
  have HB := Lib.hid hB; clear hB
  go_loopw [10] (fun i wr => wr = w1 ∧ ∃ k : Nat, k ≤ es.length ∧ i = .int .i64 k ∧ Hid (∀ e ∈ es.take k, e = 0)) (fun i _ => es.length - (intOf i).toNat)
  case atStart => exact ⟨rfl, 0, by omega, rfl, Lib.hid (by simp)⟩
  case round =>
    obtain ⟨rfl, k, hk, rfl, hno⟩ := hrel
    by_cases hlt : k < es.length
    · obtain ⟨b, o, rfl, hb, hc⟩ := sl_some HS1.out (by omega)
      have ck : wr.cell? ⟨b, o + k, none⟩ = some (.int .i64 es[k]) := by
        obtain ⟨_, a', c', he, _, _, _, h5⟩ := HS1.out
        obtain ⟨rfl, -, rfl⟩ := Value.slice.inj he
        rcases h5 with ⟨h, _⟩ | ⟨b', o', s, he, h5, h6⟩
        · cases h
        obtain ⟨rfl, rfl, rfl⟩ : b = b' ∧ o = o' ∧ none = s := by simpa using he
        exact h5 k _ (by rw [i64s, List.getElem?_map, List.getElem?_eq_getElem hlt]; rfl)
      have hsk := doneR_skip ⟨pa, pb, pc, pd, pe, pf, pg, ph, po, pi, pj, pk, pl, pm⟩ es k hno.out
      rw [List.drop_eq_getElem_cons hlt] at hsk
      have hts := List.take_succ_eq_append_getElem hlt
      have HSK := Lib.hid hsk; clear hsk
      have HTS := Lib.hid hts; clear hts
      generalize es[k] = e at *
      by_cases he : e = 0
      · subst he
        clear cp fp cz fz
        go_wp2_with fail
        go_roundw
        case rel => exact ⟨trivial, k + 1, by omega, by go_num, Lib.hid (fun x hx => by
          rw [HTS.out] at hx
          rcases List.mem_append.1 hx with h | h
          · exact hno.out x h
          · exact List.mem_singleton.1 h)⟩
        case measure => simp [intOf]; omega
      · have d0 : (e != 0) = true := by simp [he]
        have hf := HSK.out
        simp only [doneR, if_neg he] at hf
        have HF := Lib.hid hf; clear hf
        clear he cp fp
        go_wp2_with fail
        refine bodyPost_ret (v := .tuple #[Prod.zero.v, .int .i64 e]) ?_ rfl ⟨by rw [HF.out], stP_below Prod.zero HB.out (Nat.le_succ _)⟩
        have hp := HZ.out.store Prod.zero
        change (results _ _).run _ (stP (w.heap.size + 1) Prod.zero wr) = .ok _ (stP (w.heap.size + 1) Prod.zero wr)
        generalize stP (w.heap.size + 1) Prod.zero wr = w5 at *
        clear cz fz
        have cs := hp.cs
        simp [results, Try.results34, go_sem, cs, Prod.v]
    · obtain rfl : k = es.length := by omega
      have hsk := doneR_skip ⟨pa, pb, pc, pd, pe, pf, pg, ph, po, pi, pj, pk, pl, pm⟩ es es.length hno.out
      rw [List.drop_length] at hsk
      by_cases ht : pk = 65535
      · have hf := hsk
        simp only [doneR, if_pos ht] at hf
        have d0 : (pk == 65535) = true := by simp [ht]
        have HF := Lib.hid hf; clear hf
        clear hsk ht
        go_wp2_with fail
        refine bodyPost_ret (v := .tuple #[Prod.zero.v, .int .i64 29]) ?_ rfl ⟨by rw [HF.out], stP_below Prod.zero HB.out (Nat.le_succ _)⟩
        have hp := HZ.out.store Prod.zero
        change (results _ _).run _ (stP (w.heap.size + 1) Prod.zero wr) = .ok _ (stP (w.heap.size + 1) Prod.zero wr)
        generalize stP (w.heap.size + 1) Prod.zero wr = w5 at *
        clear cz fz cp fp
        have cs := hp.cs
        simp [results, Try.results34, go_sem, cs, Prod.v]
      · have hf := hsk
        simp only [doneR, if_neg ht] at hf
        have d0 : (pk == 65535) = false := by simp [ht]
        have HF := Lib.hid hf; clear hf
        clear hsk ht
        go_upto_region 10 with fail
        have hq2 : PT w.heap.size ⟨pa, pb, pc, pd, pe, pf, pg, ph, po, pi, pj, pk + 1, pl, pm⟩ (wr.setCell ⟨w.heap.size, 11, none⟩ (.int .i64 (pk + 1))) := (blk_set HQ.out 11 _).trans (congrArg (fun l : List Value => some (Obj.cells l.toArray 34 (0, 0))) (show _ = Prod.cells ⟨pa, pb, pc, pd, pe, pf, pg, ph, po, pi, pj, pk + 1, pl, pm⟩ from rfl))
        have hz2 : PT (w.heap.size + 1) Prod.zero (wr.setCell ⟨w.heap.size, 11, none⟩ (.int .i64 (pk + 1))) := by
          unfold PT; rw [Below.heap_setCell _ _ _ _ (by simp)]; exact HZ.out
        have HB2 := Lib.hid (HB.out.setCell (p := ⟨w.heap.size, 11, none⟩) (Nat.le_refl _) (.int .i64 (pk + 1)))
        generalize wr.setCell ⟨w.heap.size, 11, none⟩ (.int .i64 (pk + 1)) = w6 at *
        clear cp fp cz fz HQ HZ HB HS1
        have cp := hq2.cs
        have cz := hz2.cs
        have fz := hz2.fs
        dsimp only at cp
        clear hq2
        have HZ2 := Lib.hid hz2; clear hz2
        go_wp2_with fail
        refine bodyPost_ret (v := .tuple #[Prod.v ⟨pa, pb, pc, pd, pe, pf, pg, ph, po, pi, pj, pk + 1, pl, pm⟩, .int .i64 0]) ?_ rfl ⟨by rw [HF.out], stP_below ⟨pa, pb, pc, pd, pe, pf, pg, ph, po, pi, pj, pk + 1, pl, pm⟩ HB2.out (Nat.le_succ _)⟩
        have hp := HZ2.out.store ⟨pa, pb, pc, pd, pe, pf, pg, ph, po, pi, pj, pk + 1, pl, pm⟩
        change (results _ _).run _ (stP (w.heap.size + 1) ⟨pa, pb, pc, pd, pe, pf, pg, ph, po, pi, pj, pk + 1, pl, pm⟩ w6) = .ok _ (stP (w.heap.size + 1) ⟨pa, pb, pc, pd, pe, pf, pg, ph, po, pi, pj, pk + 1, pl, pm⟩ w6)
        generalize stP (w.heap.size + 1) ⟨pa, pb, pc, pd, pe, pf, pg, ph, po, pi, pj, pk + 1, pl, pm⟩ w6 = w5 at *
        clear cz fz cp
        have cs := hp.cs
        simp [results, Try.results34, go_sem, cs, Prod.v]
end Go.Proofs.Ytlbfeoobeleobaa
