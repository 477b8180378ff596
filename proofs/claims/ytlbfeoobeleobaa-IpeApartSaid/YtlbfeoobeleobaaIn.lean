/- A thing goes in. -/
import Derived.Test.YtlbfeoobeleobaaThing
namespace Go.Proofs.Ytlbfeoobeleobaa
open Go.RowKit
set_option linter.unusedVariables false
set_option linter.unusedSimpArgs false

/-- a thing's method begins: its box, and the result's -/
def beg (p : Prod) (w : World) : World := (w.alloc (.cells p.cells.toArray 34)).alloc (.cells Prod.zero.cells.toArray 34)
theorem beg_facts (p : Prod) (w : World) : PT w.heap.size p (beg p w) ∧ PT (w.heap.size + 1) Prod.zero (beg p w) ∧ Below w.heap.size w (beg p w) ∧ (beg p w).heap.size = w.heap.size + 2 := by
  refine ⟨(Below.heap_alloc _ _ _ (by simp)).trans (heap_alloc_new w _), ?_, (by repeat' (first | exact Below.refl _ _ | refine Below.alloc ?_ (by first | omega | (simp; done) | (simp; omega)) _ | refine Below.drew ?_ | refine below_drewN ?_ _ | refine Below.setCell ?_ (by first | omega | (simp; done) | (simp; omega)) _)), by simp [beg]⟩
  have := heap_alloc_new (w.alloc (.cells p.cells.toArray 34)) (.cells Prod.zero.cells.toArray 34)
  simpa [PT, beg] using this
theorem PT.alloc {b : Nat} {p : Prod} {w : World} (h : PT b p w) (o : Obj) : PT b p (w.alloc o) := (Below.heap_alloc _ _ _ (Array.getElem?_eq_some_iff.1 h).1).trans h
theorem PT.of {b : Nat} {p : Prod} {w : World} {cs : List Value} (h : w.heap[b]? = some (.cells cs.toArray 34 (0, 0))) (he : cs = p.cells) : PT b p w := by subst he; exact h
theorem World.heap_drew (w : World) : w.drew.heap = w.heap := rfl

def inR (p : Prod) (zone day : Int) : Prod × Int := doneR { p with opn := true, zone := zone, day := day } [unl (!p.blocked) 25, unl (inB zone 255 && inB day 65535) 2, unl (p.kind == 1 && !p.opn) 28]

set_option maxHeartbeats 4000000 in
set_option maxRecDepth 100000 in
theorem in_thing (p : Prod) (zone day : Int) (w : World) (hr : p.right = true) : Calls Try.prog 14 #[p.v, .int .i64 zone, .int .i64 day] w (ProdE w (inR p zone day)) := by
  obtain ⟨pa, pb, pc, pd, pe, pf, pg, ph, po, pi, pj, pk, pl, pm⟩ := p
  have hri := (Prod.right_iff _).1 hr
  simp only at hri
  have ht0 : 0 ≤ pk := by omega
  have ht1 : pk ≤ 65535 := by omega
  clear hri hr
  obtain ⟨hq, hz, hB, hsz⟩ := beg_facts ⟨pa, pb, pc, pd, pe, pf, pg, ph, po, pi, pj, pk, pl, pm⟩ w
  simp only [Prod.v]
  obtain ⟨b1, hb1⟩ : ∃ b, inB zone 255 = b := ⟨_, rfl⟩
  obtain ⟨b2, hb2⟩ : ∃ b, (pa == 1) = b := ⟨_, rfl⟩
  have HRES := Lib.hid (show inR ⟨pa, pb, pc, pd, pe, pf, pg, ph, po, pi, pj, pk, pl, pm⟩ zone day = doneR ⟨pa, pb, pc, pd, pe, pf, pg, ph, true, zone, day, pk, pl, pm⟩ [unl (!pm) 25, unl (b1 && inB day 65535) 2, unl (b2 && !po) 28] by unfold inR; rw [← hb1, ← hb2])
  have HB1 := Lib.hid hb1; clear hb1
  go_enter Try.func14, Try.ntmps14
  go_upto_region 1 with fail
  change Code.wp _ _ _ _ (beg ⟨pa, pb, pc, pd, pe, pf, pg, ph, po, pi, pj, pk, pl, pm⟩ w)
  generalize beg ⟨pa, pb, pc, pd, pe, pf, pg, ph, po, pi, pj, pk, pl, pm⟩ w = w1 at *
  have cp := hq.cs
  dsimp only at cp
  have HQ := Lib.hid hq; clear hq
  have HZ := Lib.hid hz; clear hz
  have HB := Lib.hid hB; clear hB
  have HSZ := Lib.hid hsz; clear hsz
  have hin1 : Calls Try.prog 33 #[.int .i64 zone, .int .i64 255] w1.drew fun ed w' => ed = .returned (.bool b1) ∧ w' = w1.drew := by rw [← HB1.out]; exact in_any zone 255 _
  have HIN1 := Lib.hid hin1; clear hin1
  cases b1 <;> cases b2
  · go_still_tail 23, (by kernel_rfl)
    still_call (unless_any _ _ _)
    repeat still_step
    still_call (HIN1.out)
    repeat still_step
    still_call (unless_any _ _ _)
    repeat still_step
    still_call (unless_any _ _ _)
    repeat still_step
    refine wpStill_nil ?_
    change wpList _ _ _ _ _ w1.drew
    have HQD := Lib.hid (show PT w.heap.size ⟨pa, pb, pc, pd, pe, pf, pg, ph, po, pi, pj, pk, pl, pm⟩ w1.drew from HQ.out)
    have HZD := Lib.hid (show PT (w.heap.size + 1) Prod.zero w1.drew from HZ.out)
    have HBD := Lib.hid HB.out.drew
    have hwd : w.heap.size + 2 ≤ w1.drew.heap.size := by have := HSZ.out; simp only [World.heap_drew]; omega
    generalize w1.drew = wd at *
    clear cp
    go_upto_region 2 with fail
    have hq2 := PT.alloc (w := wd) HQD.out (.cells #[.int .i64 (unl (!pm) 25), .int .i64 (unl false 2), .int .i64 (unl false 28)] 28)
    have hz2 := PT.alloc (w := wd) HZD.out (.cells #[.int .i64 (unl (!pm) 25), .int .i64 (unl false 2), .int .i64 (unl false 28)] 28)
    have HB2 := Lib.hid (HBD.out.alloc HBD.out.size (.cells #[.int .i64 (unl (!pm) 25), .int .i64 (unl false 2), .int .i64 (unl false 28)] 28))
    have hsl : Sl 1 (wd.alloc (.cells #[.int .i64 (unl (!pm) 25), .int .i64 (unl false 2), .int .i64 (unl false 28)] 28)) (.slice (some ⟨wd.heap.size, 0, none⟩) 3 3) 3 (i64s [unl (!pm) 25, unl false 2, unl false 28]) := sl_lit (n := 3) wd #[.int .i64 (unl (!pm) 25), .int .i64 (unl false 2), .int .i64 (unl false 28)] 28 rfl rfl (by simp [maxLen]) (by intro u hu; exact i64s_one [unl (!pm) 25, unl false 2, unl false 28] u (by simpa [i64s] using hu))
    generalize (wd.alloc (.cells #[.int .i64 (unl (!pm) 25), .int .i64 (unl false 2), .int .i64 (unl false 28)] 28)) = w2 at *
    have cq := hq2.cs
    dsimp only at cq
    have fr8 := hq2.fr 8
    have fr9 := hq2.fr 9
    have fr10 := hq2.fr 10
    go_upto_region 3 with fail
    have hq3 : PT w.heap.size ⟨pa, pb, pc, pd, pe, pf, pg, ph, true, zone, day, pk, pl, pm⟩ (((w2.setCell ⟨w.heap.size, 8, none⟩ (.bool true)).setCell ⟨w.heap.size, 9, none⟩ (.int .i64 zone)).setCell ⟨w.heap.size, 10, none⟩ (.int .i64 day)) := PT.of (blk_set (blk_set (blk_set hq2 8 _) 9 _) 10 _) rfl
    have hz3 : PT (w.heap.size + 1) Prod.zero (((w2.setCell ⟨w.heap.size, 8, none⟩ (.bool true)).setCell ⟨w.heap.size, 9, none⟩ (.int .i64 zone)).setCell ⟨w.heap.size, 10, none⟩ (.int .i64 day)) := by
      unfold PT; rw [Below.heap_setCell _ _ _ _ (by simp), Below.heap_setCell _ _ _ _ (by simp), Below.heap_setCell _ _ _ _ (by simp)]; exact hz2
    have hsl3 : Sl 1 (((w2.setCell ⟨w.heap.size, 8, none⟩ (.bool true)).setCell ⟨w.heap.size, 9, none⟩ (.int .i64 zone)).setCell ⟨w.heap.size, 10, none⟩ (.int .i64 day)) (.slice (some ⟨wd.heap.size, 0, none⟩) 3 3) 3 (i64s [unl (!pm) 25, unl false 2, unl false 28]) := ((hsl.setCell (p := ⟨w.heap.size, 8, none⟩) (fun e => by have := Option.some.inj e; have := HSZ.out; simp only at *; omega) _).setCell (p := ⟨w.heap.size, 9, none⟩) (fun e => by have := Option.some.inj e; have := HSZ.out; simp only at *; omega) _).setCell (p := ⟨w.heap.size, 10, none⟩) (fun e => by have := Option.some.inj e; have := HSZ.out; simp only at *; omega) _
    have HB3 := Lib.hid (show Below w.heap.size w (((w2.setCell ⟨w.heap.size, 8, none⟩ (.bool true)).setCell ⟨w.heap.size, 9, none⟩ (.int .i64 zone)).setCell ⟨w.heap.size, 10, none⟩ (.int .i64 day)) from ((HB2.out.setCell (p := ⟨w.heap.size, 8, none⟩) (Nat.le_refl _) _).setCell (p := ⟨w.heap.size, 9, none⟩) (Nat.le_refl _) _).setCell (p := ⟨w.heap.size, 10, none⟩) (Nat.le_refl _) _)
    generalize ((w2.setCell ⟨w.heap.size, 8, none⟩ (.bool true)).setCell ⟨w.heap.size, 9, none⟩ (.int .i64 zone)).setCell ⟨w.heap.size, 10, none⟩ (.int .i64 day) = w3 at *
    clear cq fr8 fr9 fr10 hq2 hz2 hsl HB2
    have cq := hq3.cs
    dsimp only at cq
    clear hq3
    have hcall := Lib.hid (done_any ⟨pa, pb, pc, pd, pe, pf, pg, ph, true, zone, day, pk, pl, pm⟩ (.slice (some ⟨wd.heap.size, 0, none⟩) 3 3) [unl (!pm) 25, unl false 2, unl false 28] w3 hsl3 ht0 ht1 (by simp))
    have HCALL := Lib.hid hcall; clear hcall
    clear hsl3
    have HZ3 := Lib.hid hz3; clear hz3
    generalize hrr : doneR ⟨pa, pb, pc, pd, pe, pf, pg, ph, true, zone, day, pk, pl, pm⟩ [unl (!pm) 25, unl false 2, unl false 28] = rr at *
    have HRR := Lib.hid hrr; clear hrr
    obtain ⟨⟨qa, qb, qc, qd, qe, qf, qg, qh, qo, qi, qj, qk, ql, qm⟩, q⟩ := rr
    go_wp2_with fail
    refine (HCALL.out.out).mono ?_
    rintro e w4 ⟨rfl, hB4⟩
    have hz4 : PT (w.heap.size + 1) Prod.zero w4 := (hB4.block _ (Array.getElem?_eq_some_iff.1 HZ3.out).1).trans HZ3.out
    have HB4 := Lib.hid (HB3.out.trans (hB4.mono HB3.out.size))
    clear hB4 cq
    have cz := hz4.cs
    have fz := hz4.fs
    have HZ4 := Lib.hid hz4; clear hz4
    simp only [Prod.v]
    go_wp2_with fail
    refine bodyPost_ret (v := .tuple #[Prod.v ⟨qa, qb, qc, qd, qe, qf, qg, qh, qo, qi, qj, qk, ql, qm⟩, .int .i64 q]) ?_ rfl ⟨by have h := HRES.out.trans HRR.out; rw [h], stP_below ⟨qa, qb, qc, qd, qe, qf, qg, qh, qo, qi, qj, qk, ql, qm⟩ HB4.out (Nat.le_succ _)⟩
    have hp := HZ4.out.store ⟨qa, qb, qc, qd, qe, qf, qg, qh, qo, qi, qj, qk, ql, qm⟩
    change (results _ _).run _ (stP (w.heap.size + 1) ⟨qa, qb, qc, qd, qe, qf, qg, qh, qo, qi, qj, qk, ql, qm⟩ w4) = .ok _ (stP (w.heap.size + 1) ⟨qa, qb, qc, qd, qe, qf, qg, qh, qo, qi, qj, qk, ql, qm⟩ w4)
    generalize stP (w.heap.size + 1) ⟨qa, qb, qc, qd, qe, qf, qg, qh, qo, qi, qj, qk, ql, qm⟩ w4 = w5 at *
    clear cz fz
    have cs := hp.cs
    simp [results, Try.results14, go_sem, cs, Prod.v]
  · go_still_tail 23, (by kernel_rfl)
    still_call (unless_any _ _ _)
    repeat still_step
    still_call (HIN1.out)
    repeat still_step
    still_call (unless_any _ _ _)
    repeat still_step
    still_call (unless_any _ _ _)
    repeat still_step
    refine wpStill_nil ?_
    change wpList _ _ _ _ _ w1.drew
    have HQD := Lib.hid (show PT w.heap.size ⟨pa, pb, pc, pd, pe, pf, pg, ph, po, pi, pj, pk, pl, pm⟩ w1.drew from HQ.out)
    have HZD := Lib.hid (show PT (w.heap.size + 1) Prod.zero w1.drew from HZ.out)
    have HBD := Lib.hid HB.out.drew
    have hwd : w.heap.size + 2 ≤ w1.drew.heap.size := by have := HSZ.out; simp only [World.heap_drew]; omega
    generalize w1.drew = wd at *
    clear cp
    go_upto_region 2 with fail
    have hq2 := PT.alloc (w := wd) HQD.out (.cells #[.int .i64 (unl (!pm) 25), .int .i64 (unl false 2), .int .i64 (unl (!po) 28)] 28)
    have hz2 := PT.alloc (w := wd) HZD.out (.cells #[.int .i64 (unl (!pm) 25), .int .i64 (unl false 2), .int .i64 (unl (!po) 28)] 28)
    have HB2 := Lib.hid (HBD.out.alloc HBD.out.size (.cells #[.int .i64 (unl (!pm) 25), .int .i64 (unl false 2), .int .i64 (unl (!po) 28)] 28))
    have hsl : Sl 1 (wd.alloc (.cells #[.int .i64 (unl (!pm) 25), .int .i64 (unl false 2), .int .i64 (unl (!po) 28)] 28)) (.slice (some ⟨wd.heap.size, 0, none⟩) 3 3) 3 (i64s [unl (!pm) 25, unl false 2, unl (!po) 28]) := sl_lit (n := 3) wd #[.int .i64 (unl (!pm) 25), .int .i64 (unl false 2), .int .i64 (unl (!po) 28)] 28 rfl rfl (by simp [maxLen]) (by intro u hu; exact i64s_one [unl (!pm) 25, unl false 2, unl (!po) 28] u (by simpa [i64s] using hu))
    generalize (wd.alloc (.cells #[.int .i64 (unl (!pm) 25), .int .i64 (unl false 2), .int .i64 (unl (!po) 28)] 28)) = w2 at *
    have cq := hq2.cs
    dsimp only at cq
    have fr8 := hq2.fr 8
    have fr9 := hq2.fr 9
    have fr10 := hq2.fr 10
    go_upto_region 3 with fail
    have hq3 : PT w.heap.size ⟨pa, pb, pc, pd, pe, pf, pg, ph, true, zone, day, pk, pl, pm⟩ (((w2.setCell ⟨w.heap.size, 8, none⟩ (.bool true)).setCell ⟨w.heap.size, 9, none⟩ (.int .i64 zone)).setCell ⟨w.heap.size, 10, none⟩ (.int .i64 day)) := PT.of (blk_set (blk_set (blk_set hq2 8 _) 9 _) 10 _) rfl
    have hz3 : PT (w.heap.size + 1) Prod.zero (((w2.setCell ⟨w.heap.size, 8, none⟩ (.bool true)).setCell ⟨w.heap.size, 9, none⟩ (.int .i64 zone)).setCell ⟨w.heap.size, 10, none⟩ (.int .i64 day)) := by
      unfold PT; rw [Below.heap_setCell _ _ _ _ (by simp), Below.heap_setCell _ _ _ _ (by simp), Below.heap_setCell _ _ _ _ (by simp)]; exact hz2
    have hsl3 : Sl 1 (((w2.setCell ⟨w.heap.size, 8, none⟩ (.bool true)).setCell ⟨w.heap.size, 9, none⟩ (.int .i64 zone)).setCell ⟨w.heap.size, 10, none⟩ (.int .i64 day)) (.slice (some ⟨wd.heap.size, 0, none⟩) 3 3) 3 (i64s [unl (!pm) 25, unl false 2, unl (!po) 28]) := ((hsl.setCell (p := ⟨w.heap.size, 8, none⟩) (fun e => by have := Option.some.inj e; have := HSZ.out; simp only at *; omega) _).setCell (p := ⟨w.heap.size, 9, none⟩) (fun e => by have := Option.some.inj e; have := HSZ.out; simp only at *; omega) _).setCell (p := ⟨w.heap.size, 10, none⟩) (fun e => by have := Option.some.inj e; have := HSZ.out; simp only at *; omega) _
    have HB3 := Lib.hid (show Below w.heap.size w (((w2.setCell ⟨w.heap.size, 8, none⟩ (.bool true)).setCell ⟨w.heap.size, 9, none⟩ (.int .i64 zone)).setCell ⟨w.heap.size, 10, none⟩ (.int .i64 day)) from ((HB2.out.setCell (p := ⟨w.heap.size, 8, none⟩) (Nat.le_refl _) _).setCell (p := ⟨w.heap.size, 9, none⟩) (Nat.le_refl _) _).setCell (p := ⟨w.heap.size, 10, none⟩) (Nat.le_refl _) _)
    generalize ((w2.setCell ⟨w.heap.size, 8, none⟩ (.bool true)).setCell ⟨w.heap.size, 9, none⟩ (.int .i64 zone)).setCell ⟨w.heap.size, 10, none⟩ (.int .i64 day) = w3 at *
    clear cq fr8 fr9 fr10 hq2 hz2 hsl HB2
    have cq := hq3.cs
    dsimp only at cq
    clear hq3
    have hcall := Lib.hid (done_any ⟨pa, pb, pc, pd, pe, pf, pg, ph, true, zone, day, pk, pl, pm⟩ (.slice (some ⟨wd.heap.size, 0, none⟩) 3 3) [unl (!pm) 25, unl false 2, unl (!po) 28] w3 hsl3 ht0 ht1 (by simp))
    have HCALL := Lib.hid hcall; clear hcall
    clear hsl3
    have HZ3 := Lib.hid hz3; clear hz3
    generalize hrr : doneR ⟨pa, pb, pc, pd, pe, pf, pg, ph, true, zone, day, pk, pl, pm⟩ [unl (!pm) 25, unl false 2, unl (!po) 28] = rr at *
    have HRR := Lib.hid hrr; clear hrr
    obtain ⟨⟨qa, qb, qc, qd, qe, qf, qg, qh, qo, qi, qj, qk, ql, qm⟩, q⟩ := rr
    go_wp2_with fail
    refine (HCALL.out.out).mono ?_
    rintro e w4 ⟨rfl, hB4⟩
    have hz4 : PT (w.heap.size + 1) Prod.zero w4 := (hB4.block _ (Array.getElem?_eq_some_iff.1 HZ3.out).1).trans HZ3.out
    have HB4 := Lib.hid (HB3.out.trans (hB4.mono HB3.out.size))
    clear hB4 cq
    have cz := hz4.cs
    have fz := hz4.fs
    have HZ4 := Lib.hid hz4; clear hz4
    simp only [Prod.v]
    go_wp2_with fail
    refine bodyPost_ret (v := .tuple #[Prod.v ⟨qa, qb, qc, qd, qe, qf, qg, qh, qo, qi, qj, qk, ql, qm⟩, .int .i64 q]) ?_ rfl ⟨by have h := HRES.out.trans HRR.out; rw [h], stP_below ⟨qa, qb, qc, qd, qe, qf, qg, qh, qo, qi, qj, qk, ql, qm⟩ HB4.out (Nat.le_succ _)⟩
    have hp := HZ4.out.store ⟨qa, qb, qc, qd, qe, qf, qg, qh, qo, qi, qj, qk, ql, qm⟩
    change (results _ _).run _ (stP (w.heap.size + 1) ⟨qa, qb, qc, qd, qe, qf, qg, qh, qo, qi, qj, qk, ql, qm⟩ w4) = .ok _ (stP (w.heap.size + 1) ⟨qa, qb, qc, qd, qe, qf, qg, qh, qo, qi, qj, qk, ql, qm⟩ w4)
    generalize stP (w.heap.size + 1) ⟨qa, qb, qc, qd, qe, qf, qg, qh, qo, qi, qj, qk, ql, qm⟩ w4 = w5 at *
    clear cz fz
    have cs := hp.cs
    simp [results, Try.results14, go_sem, cs, Prod.v]
  · go_still_tail 23, (by kernel_rfl)
    still_call (unless_any _ _ _)
    repeat still_step
    still_call (HIN1.out)
    repeat still_step
    still_call (in_any _ _ _)
    repeat still_step
    still_call (unless_any _ _ _)
    repeat still_step
    still_call (unless_any _ _ _)
    repeat still_step
    refine wpStill_nil ?_
    change wpList _ _ _ _ _ w1.drew
    have HQD := Lib.hid (show PT w.heap.size ⟨pa, pb, pc, pd, pe, pf, pg, ph, po, pi, pj, pk, pl, pm⟩ w1.drew from HQ.out)
    have HZD := Lib.hid (show PT (w.heap.size + 1) Prod.zero w1.drew from HZ.out)
    have HBD := Lib.hid HB.out.drew
    have hwd : w.heap.size + 2 ≤ w1.drew.heap.size := by have := HSZ.out; simp only [World.heap_drew]; omega
    generalize w1.drew = wd at *
    clear cp
    go_upto_region 2 with fail
    have hq2 := PT.alloc (w := wd) HQD.out (.cells #[.int .i64 (unl (!pm) 25), .int .i64 (unl (inB day 65535) 2), .int .i64 (unl false 28)] 28)
    have hz2 := PT.alloc (w := wd) HZD.out (.cells #[.int .i64 (unl (!pm) 25), .int .i64 (unl (inB day 65535) 2), .int .i64 (unl false 28)] 28)
    have HB2 := Lib.hid (HBD.out.alloc HBD.out.size (.cells #[.int .i64 (unl (!pm) 25), .int .i64 (unl (inB day 65535) 2), .int .i64 (unl false 28)] 28))
    have hsl : Sl 1 (wd.alloc (.cells #[.int .i64 (unl (!pm) 25), .int .i64 (unl (inB day 65535) 2), .int .i64 (unl false 28)] 28)) (.slice (some ⟨wd.heap.size, 0, none⟩) 3 3) 3 (i64s [unl (!pm) 25, unl (inB day 65535) 2, unl false 28]) := sl_lit (n := 3) wd #[.int .i64 (unl (!pm) 25), .int .i64 (unl (inB day 65535) 2), .int .i64 (unl false 28)] 28 rfl rfl (by simp [maxLen]) (by intro u hu; exact i64s_one [unl (!pm) 25, unl (inB day 65535) 2, unl false 28] u (by simpa [i64s] using hu))
    generalize (wd.alloc (.cells #[.int .i64 (unl (!pm) 25), .int .i64 (unl (inB day 65535) 2), .int .i64 (unl false 28)] 28)) = w2 at *
    have cq := hq2.cs
    dsimp only at cq
    have fr8 := hq2.fr 8
    have fr9 := hq2.fr 9
    have fr10 := hq2.fr 10
    go_upto_region 3 with fail
    have hq3 : PT w.heap.size ⟨pa, pb, pc, pd, pe, pf, pg, ph, true, zone, day, pk, pl, pm⟩ (((w2.setCell ⟨w.heap.size, 8, none⟩ (.bool true)).setCell ⟨w.heap.size, 9, none⟩ (.int .i64 zone)).setCell ⟨w.heap.size, 10, none⟩ (.int .i64 day)) := PT.of (blk_set (blk_set (blk_set hq2 8 _) 9 _) 10 _) rfl
    have hz3 : PT (w.heap.size + 1) Prod.zero (((w2.setCell ⟨w.heap.size, 8, none⟩ (.bool true)).setCell ⟨w.heap.size, 9, none⟩ (.int .i64 zone)).setCell ⟨w.heap.size, 10, none⟩ (.int .i64 day)) := by
      unfold PT; rw [Below.heap_setCell _ _ _ _ (by simp), Below.heap_setCell _ _ _ _ (by simp), Below.heap_setCell _ _ _ _ (by simp)]; exact hz2
    have hsl3 : Sl 1 (((w2.setCell ⟨w.heap.size, 8, none⟩ (.bool true)).setCell ⟨w.heap.size, 9, none⟩ (.int .i64 zone)).setCell ⟨w.heap.size, 10, none⟩ (.int .i64 day)) (.slice (some ⟨wd.heap.size, 0, none⟩) 3 3) 3 (i64s [unl (!pm) 25, unl (inB day 65535) 2, unl false 28]) := ((hsl.setCell (p := ⟨w.heap.size, 8, none⟩) (fun e => by have := Option.some.inj e; have := HSZ.out; simp only at *; omega) _).setCell (p := ⟨w.heap.size, 9, none⟩) (fun e => by have := Option.some.inj e; have := HSZ.out; simp only at *; omega) _).setCell (p := ⟨w.heap.size, 10, none⟩) (fun e => by have := Option.some.inj e; have := HSZ.out; simp only at *; omega) _
    have HB3 := Lib.hid (show Below w.heap.size w (((w2.setCell ⟨w.heap.size, 8, none⟩ (.bool true)).setCell ⟨w.heap.size, 9, none⟩ (.int .i64 zone)).setCell ⟨w.heap.size, 10, none⟩ (.int .i64 day)) from ((HB2.out.setCell (p := ⟨w.heap.size, 8, none⟩) (Nat.le_refl _) _).setCell (p := ⟨w.heap.size, 9, none⟩) (Nat.le_refl _) _).setCell (p := ⟨w.heap.size, 10, none⟩) (Nat.le_refl _) _)
    generalize ((w2.setCell ⟨w.heap.size, 8, none⟩ (.bool true)).setCell ⟨w.heap.size, 9, none⟩ (.int .i64 zone)).setCell ⟨w.heap.size, 10, none⟩ (.int .i64 day) = w3 at *
    clear cq fr8 fr9 fr10 hq2 hz2 hsl HB2
    have cq := hq3.cs
    dsimp only at cq
    clear hq3
    have hcall := Lib.hid (done_any ⟨pa, pb, pc, pd, pe, pf, pg, ph, true, zone, day, pk, pl, pm⟩ (.slice (some ⟨wd.heap.size, 0, none⟩) 3 3) [unl (!pm) 25, unl (inB day 65535) 2, unl false 28] w3 hsl3 ht0 ht1 (by simp))
    have HCALL := Lib.hid hcall; clear hcall
    clear hsl3
    have HZ3 := Lib.hid hz3; clear hz3
    generalize hrr : doneR ⟨pa, pb, pc, pd, pe, pf, pg, ph, true, zone, day, pk, pl, pm⟩ [unl (!pm) 25, unl (inB day 65535) 2, unl false 28] = rr at *
    have HRR := Lib.hid hrr; clear hrr
    obtain ⟨⟨qa, qb, qc, qd, qe, qf, qg, qh, qo, qi, qj, qk, ql, qm⟩, q⟩ := rr
    go_wp2_with fail
    refine (HCALL.out.out).mono ?_
    rintro e w4 ⟨rfl, hB4⟩
    have hz4 : PT (w.heap.size + 1) Prod.zero w4 := (hB4.block _ (Array.getElem?_eq_some_iff.1 HZ3.out).1).trans HZ3.out
    have HB4 := Lib.hid (HB3.out.trans (hB4.mono HB3.out.size))
    clear hB4 cq
    have cz := hz4.cs
    have fz := hz4.fs
    have HZ4 := Lib.hid hz4; clear hz4
    simp only [Prod.v]
    go_wp2_with fail
    refine bodyPost_ret (v := .tuple #[Prod.v ⟨qa, qb, qc, qd, qe, qf, qg, qh, qo, qi, qj, qk, ql, qm⟩, .int .i64 q]) ?_ rfl ⟨by have h := HRES.out.trans HRR.out; rw [h], stP_below ⟨qa, qb, qc, qd, qe, qf, qg, qh, qo, qi, qj, qk, ql, qm⟩ HB4.out (Nat.le_succ _)⟩
    have hp := HZ4.out.store ⟨qa, qb, qc, qd, qe, qf, qg, qh, qo, qi, qj, qk, ql, qm⟩
    change (results _ _).run _ (stP (w.heap.size + 1) ⟨qa, qb, qc, qd, qe, qf, qg, qh, qo, qi, qj, qk, ql, qm⟩ w4) = .ok _ (stP (w.heap.size + 1) ⟨qa, qb, qc, qd, qe, qf, qg, qh, qo, qi, qj, qk, ql, qm⟩ w4)
    generalize stP (w.heap.size + 1) ⟨qa, qb, qc, qd, qe, qf, qg, qh, qo, qi, qj, qk, ql, qm⟩ w4 = w5 at *
    clear cz fz
    have cs := hp.cs
    simp [results, Try.results14, go_sem, cs, Prod.v]
  · go_still_tail 23, (by kernel_rfl)
    still_call (unless_any _ _ _)
    repeat still_step
    still_call (HIN1.out)
    repeat still_step
    still_call (in_any _ _ _)
    repeat still_step
    still_call (unless_any _ _ _)
    repeat still_step
    still_call (unless_any _ _ _)
    repeat still_step
    refine wpStill_nil ?_
    change wpList _ _ _ _ _ w1.drew
    have HQD := Lib.hid (show PT w.heap.size ⟨pa, pb, pc, pd, pe, pf, pg, ph, po, pi, pj, pk, pl, pm⟩ w1.drew from HQ.out)
    have HZD := Lib.hid (show PT (w.heap.size + 1) Prod.zero w1.drew from HZ.out)
    have HBD := Lib.hid HB.out.drew
    have hwd : w.heap.size + 2 ≤ w1.drew.heap.size := by have := HSZ.out; simp only [World.heap_drew]; omega
    generalize w1.drew = wd at *
    clear cp
    go_upto_region 2 with fail
    have hq2 := PT.alloc (w := wd) HQD.out (.cells #[.int .i64 (unl (!pm) 25), .int .i64 (unl (inB day 65535) 2), .int .i64 (unl (!po) 28)] 28)
    have hz2 := PT.alloc (w := wd) HZD.out (.cells #[.int .i64 (unl (!pm) 25), .int .i64 (unl (inB day 65535) 2), .int .i64 (unl (!po) 28)] 28)
    have HB2 := Lib.hid (HBD.out.alloc HBD.out.size (.cells #[.int .i64 (unl (!pm) 25), .int .i64 (unl (inB day 65535) 2), .int .i64 (unl (!po) 28)] 28))
    have hsl : Sl 1 (wd.alloc (.cells #[.int .i64 (unl (!pm) 25), .int .i64 (unl (inB day 65535) 2), .int .i64 (unl (!po) 28)] 28)) (.slice (some ⟨wd.heap.size, 0, none⟩) 3 3) 3 (i64s [unl (!pm) 25, unl (inB day 65535) 2, unl (!po) 28]) := sl_lit (n := 3) wd #[.int .i64 (unl (!pm) 25), .int .i64 (unl (inB day 65535) 2), .int .i64 (unl (!po) 28)] 28 rfl rfl (by simp [maxLen]) (by intro u hu; exact i64s_one [unl (!pm) 25, unl (inB day 65535) 2, unl (!po) 28] u (by simpa [i64s] using hu))
    generalize (wd.alloc (.cells #[.int .i64 (unl (!pm) 25), .int .i64 (unl (inB day 65535) 2), .int .i64 (unl (!po) 28)] 28)) = w2 at *
    have cq := hq2.cs
    dsimp only at cq
    have fr8 := hq2.fr 8
    have fr9 := hq2.fr 9
    have fr10 := hq2.fr 10
    go_upto_region 3 with fail
    have hq3 : PT w.heap.size ⟨pa, pb, pc, pd, pe, pf, pg, ph, true, zone, day, pk, pl, pm⟩ (((w2.setCell ⟨w.heap.size, 8, none⟩ (.bool true)).setCell ⟨w.heap.size, 9, none⟩ (.int .i64 zone)).setCell ⟨w.heap.size, 10, none⟩ (.int .i64 day)) := PT.of (blk_set (blk_set (blk_set hq2 8 _) 9 _) 10 _) rfl
    have hz3 : PT (w.heap.size + 1) Prod.zero (((w2.setCell ⟨w.heap.size, 8, none⟩ (.bool true)).setCell ⟨w.heap.size, 9, none⟩ (.int .i64 zone)).setCell ⟨w.heap.size, 10, none⟩ (.int .i64 day)) := by
      unfold PT; rw [Below.heap_setCell _ _ _ _ (by simp), Below.heap_setCell _ _ _ _ (by simp), Below.heap_setCell _ _ _ _ (by simp)]; exact hz2
    have hsl3 : Sl 1 (((w2.setCell ⟨w.heap.size, 8, none⟩ (.bool true)).setCell ⟨w.heap.size, 9, none⟩ (.int .i64 zone)).setCell ⟨w.heap.size, 10, none⟩ (.int .i64 day)) (.slice (some ⟨wd.heap.size, 0, none⟩) 3 3) 3 (i64s [unl (!pm) 25, unl (inB day 65535) 2, unl (!po) 28]) := ((hsl.setCell (p := ⟨w.heap.size, 8, none⟩) (fun e => by have := Option.some.inj e; have := HSZ.out; simp only at *; omega) _).setCell (p := ⟨w.heap.size, 9, none⟩) (fun e => by have := Option.some.inj e; have := HSZ.out; simp only at *; omega) _).setCell (p := ⟨w.heap.size, 10, none⟩) (fun e => by have := Option.some.inj e; have := HSZ.out; simp only at *; omega) _
    have HB3 := Lib.hid (show Below w.heap.size w (((w2.setCell ⟨w.heap.size, 8, none⟩ (.bool true)).setCell ⟨w.heap.size, 9, none⟩ (.int .i64 zone)).setCell ⟨w.heap.size, 10, none⟩ (.int .i64 day)) from ((HB2.out.setCell (p := ⟨w.heap.size, 8, none⟩) (Nat.le_refl _) _).setCell (p := ⟨w.heap.size, 9, none⟩) (Nat.le_refl _) _).setCell (p := ⟨w.heap.size, 10, none⟩) (Nat.le_refl _) _)
    generalize ((w2.setCell ⟨w.heap.size, 8, none⟩ (.bool true)).setCell ⟨w.heap.size, 9, none⟩ (.int .i64 zone)).setCell ⟨w.heap.size, 10, none⟩ (.int .i64 day) = w3 at *
    clear cq fr8 fr9 fr10 hq2 hz2 hsl HB2
    have cq := hq3.cs
    dsimp only at cq
    clear hq3
    have hcall := Lib.hid (done_any ⟨pa, pb, pc, pd, pe, pf, pg, ph, true, zone, day, pk, pl, pm⟩ (.slice (some ⟨wd.heap.size, 0, none⟩) 3 3) [unl (!pm) 25, unl (inB day 65535) 2, unl (!po) 28] w3 hsl3 ht0 ht1 (by simp))
    have HCALL := Lib.hid hcall; clear hcall
    clear hsl3
    have HZ3 := Lib.hid hz3; clear hz3
    generalize hrr : doneR ⟨pa, pb, pc, pd, pe, pf, pg, ph, true, zone, day, pk, pl, pm⟩ [unl (!pm) 25, unl (inB day 65535) 2, unl (!po) 28] = rr at *
    have HRR := Lib.hid hrr; clear hrr
    obtain ⟨⟨qa, qb, qc, qd, qe, qf, qg, qh, qo, qi, qj, qk, ql, qm⟩, q⟩ := rr
    go_wp2_with fail
    refine (HCALL.out.out).mono ?_
    rintro e w4 ⟨rfl, hB4⟩
    have hz4 : PT (w.heap.size + 1) Prod.zero w4 := (hB4.block _ (Array.getElem?_eq_some_iff.1 HZ3.out).1).trans HZ3.out
    have HB4 := Lib.hid (HB3.out.trans (hB4.mono HB3.out.size))
    clear hB4 cq
    have cz := hz4.cs
    have fz := hz4.fs
    have HZ4 := Lib.hid hz4; clear hz4
    simp only [Prod.v]
    go_wp2_with fail
    refine bodyPost_ret (v := .tuple #[Prod.v ⟨qa, qb, qc, qd, qe, qf, qg, qh, qo, qi, qj, qk, ql, qm⟩, .int .i64 q]) ?_ rfl ⟨by have h := HRES.out.trans HRR.out; rw [h], stP_below ⟨qa, qb, qc, qd, qe, qf, qg, qh, qo, qi, qj, qk, ql, qm⟩ HB4.out (Nat.le_succ _)⟩
    have hp := HZ4.out.store ⟨qa, qb, qc, qd, qe, qf, qg, qh, qo, qi, qj, qk, ql, qm⟩
    change (results _ _).run _ (stP (w.heap.size + 1) ⟨qa, qb, qc, qd, qe, qf, qg, qh, qo, qi, qj, qk, ql, qm⟩ w4) = .ok _ (stP (w.heap.size + 1) ⟨qa, qb, qc, qd, qe, qf, qg, qh, qo, qi, qj, qk, ql, qm⟩ w4)
    generalize stP (w.heap.size + 1) ⟨qa, qb, qc, qd, qe, qf, qg, qh, qo, qi, qj, qk, ql, qm⟩ w4 = w5 at *
    clear cz fz
    have cs := hp.cs
    simp [results, Try.results14, go_sem, cs, Prod.v]
end Go.Proofs.Ytlbfeoobeleobaa
