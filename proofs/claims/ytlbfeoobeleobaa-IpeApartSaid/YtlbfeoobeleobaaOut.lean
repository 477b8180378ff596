/- A thing goes out. -/
import Derived.Test.YtlbfeoobeleobaaIn
namespace Go.Proofs.Ytlbfeoobeleobaa
open Go.RowKit
set_option linter.unusedVariables false
set_option linter.unusedSimpArgs false

def outR (p : Prod) (fare : Int) : Prod × Int := doneR { p with value := p.value - max fare 0, opn := false, zone := 0, day := 0 } [unl (!p.blocked) 25, unl (decide (0 ≤ fare)) 2, unl (p.kind == 1 && p.opn) 28, unl (decide (fare ≤ p.value)) 27]

set_option maxHeartbeats 4000000 in
set_option maxRecDepth 100000 in
theorem out_thing (p : Prod) (fare : Int) (w : World) (hr : p.right = true) (hf : fare ≤ 9223372036854775807) : Calls Try.prog 15 #[p.v, .int .i64 fare] w (ProdE w (outR p fare)) := by
  obtain ⟨pa, pb, pc, pd, pe, pf, pg, ph, po, pi, pj, pk, pl, pm⟩ := p
  have hri := (Prod.right_iff _).1 hr
  simp only at hri
  have ht0 : 0 ≤ pk := by omega
  have ht1 : pk ≤ 65535 := by omega
  have hv0 : 0 ≤ pf := by omega
  have hv1 : pf ≤ 2147483648 := by omega
  clear hri hr
  obtain ⟨hq, hz, hB, hsz⟩ := beg_facts ⟨pa, pb, pc, pd, pe, pf, pg, ph, po, pi, pj, pk, pl, pm⟩ w
  simp only [Prod.v]
  obtain ⟨b2, hb2⟩ : ∃ b, (pa == 1) = b := ⟨_, rfl⟩
  have HRES := Lib.hid (show outR ⟨pa, pb, pc, pd, pe, pf, pg, ph, po, pi, pj, pk, pl, pm⟩ fare = doneR ⟨pa, pb, pc, pd, pe, pf - max fare 0, pg, ph, false, 0, 0, pk, pl, pm⟩ [unl (!pm) 25, unl (decide (0 ≤ fare)) 2, unl (b2 && po) 28, unl (decide (fare ≤ pf)) 27] by unfold outR; rw [← hb2])
  have hmx : 0 ≤ max fare 0 ∧ max fare 0 ≤ 9223372036854775807 := by omega
  have hwrap : IntKind.i64.wrap (pf - max fare 0) = pf - max fare 0 := by rw [IntKind.wrap_i64]; omega
  go_enter Try.func15, Try.ntmps15
  go_upto_region 1 with fail
  change Code.wp _ _ _ _ (beg ⟨pa, pb, pc, pd, pe, pf, pg, ph, po, pi, pj, pk, pl, pm⟩ w)
  generalize beg ⟨pa, pb, pc, pd, pe, pf, pg, ph, po, pi, pj, pk, pl, pm⟩ w = w1 at *
  have cp := hq.cs
  dsimp only at cp
  have HQ := Lib.hid hq; clear hq
  have HZ := Lib.hid hz; clear hz
  have HB := Lib.hid hB; clear hB
  have HSZ := Lib.hid hsz; clear hsz
  cases b2
  · go_still_tail 24, (by kernel_rfl)
    still_call (unless_any _ _ _)
    repeat still_step
    still_call (unless_any _ _ _)
    repeat still_step
    still_call (unless_any _ _ _)
    repeat still_step
    still_call (unless_any _ _ _)
    repeat still_step
    refine wpStill_nil ?_
    change wpList _ _ _ _ _ w1.drew
    have HQD := Lib.hid (show PT w.heap.size ⟨pa, pb, pc, pd, pe, pf, pg, ph, po, pi, pj, pk, pl, pm⟩ w1.drew from HQ.out)
    have HZD := Lib.hid (show PT (w.heap.size + 1) Prod.zero w1.drew from HZ.out)
    have HBD := Lib.hid HB.out.drew
    have hwd : w.heap.size + 2 ≤ w1.drew.heap.size := by have := HSZ.out; simp only [World.heap_drew]; omega
    generalize w1.drew = wd at *
    clear cp
    go_upto_region 2 with fail
    have hq2 := PT.alloc (w := wd) HQD.out (.cells #[.int .i64 (unl (!pm) 25), .int .i64 (unl (decide (0 ≤ fare)) 2), .int .i64 (unl false 28), .int .i64 (unl (decide (fare ≤ pf)) 27)] 28)
    have hz2 := PT.alloc (w := wd) HZD.out (.cells #[.int .i64 (unl (!pm) 25), .int .i64 (unl (decide (0 ≤ fare)) 2), .int .i64 (unl false 28), .int .i64 (unl (decide (fare ≤ pf)) 27)] 28)
    have HB2 := Lib.hid (HBD.out.alloc HBD.out.size (.cells #[.int .i64 (unl (!pm) 25), .int .i64 (unl (decide (0 ≤ fare)) 2), .int .i64 (unl false 28), .int .i64 (unl (decide (fare ≤ pf)) 27)] 28))
    have hsl : Sl 1 (wd.alloc (.cells #[.int .i64 (unl (!pm) 25), .int .i64 (unl (decide (0 ≤ fare)) 2), .int .i64 (unl false 28), .int .i64 (unl (decide (fare ≤ pf)) 27)] 28)) (.slice (some ⟨wd.heap.size, 0, none⟩) 4 4) 4 (i64s [unl (!pm) 25, unl (decide (0 ≤ fare)) 2, unl false 28, unl (decide (fare ≤ pf)) 27]) := sl_lit (n := 4) wd #[.int .i64 (unl (!pm) 25), .int .i64 (unl (decide (0 ≤ fare)) 2), .int .i64 (unl false 28), .int .i64 (unl (decide (fare ≤ pf)) 27)] 28 rfl rfl (by simp [maxLen]) (by intro u hu; exact i64s_one [unl (!pm) 25, unl (decide (0 ≤ fare)) 2, unl false 28, unl (decide (fare ≤ pf)) 27] u (by simpa [i64s] using hu))
    generalize (wd.alloc (.cells #[.int .i64 (unl (!pm) 25), .int .i64 (unl (decide (0 ≤ fare)) 2), .int .i64 (unl false 28), .int .i64 (unl (decide (fare ≤ pf)) 27)] 28)) = w2 at *
    rcases (show fare < 0 ∨ 0 ≤ fare by omega) with hn | hn
    · have hmv : pf - max fare 0 = pf := by omega
      rw [hmv] at HRES
      clear hmv hwrap hmx
      have cq := hq2.cs
      dsimp only at cq
      have fr5 := hq2.fr 5
      have fr8 := hq2.fr 8
      have fr9 := hq2.fr 9
      have fr10 := hq2.fr 10
      go_upto_region 4 with fail
      have hq3 : PT w.heap.size ⟨pa, pb, pc, pd, pe, pf, pg, ph, false, 0, 0, pk, pl, pm⟩ ((((w2.setCell ⟨w.heap.size, 5, none⟩ (.int .i64 (pf))).setCell ⟨w.heap.size, 8, none⟩ (.bool false)).setCell ⟨w.heap.size, 9, none⟩ (.int .i64 0)).setCell ⟨w.heap.size, 10, none⟩ (.int .i64 0)) := PT.of (blk_set (blk_set (blk_set (blk_set hq2 5 _) 8 _) 9 _) 10 _) rfl
      have hz3 : PT (w.heap.size + 1) Prod.zero ((((w2.setCell ⟨w.heap.size, 5, none⟩ (.int .i64 (pf))).setCell ⟨w.heap.size, 8, none⟩ (.bool false)).setCell ⟨w.heap.size, 9, none⟩ (.int .i64 0)).setCell ⟨w.heap.size, 10, none⟩ (.int .i64 0)) := by
        unfold PT; rw [Below.heap_setCell _ _ _ _ (by simp), Below.heap_setCell _ _ _ _ (by simp), Below.heap_setCell _ _ _ _ (by simp), Below.heap_setCell _ _ _ _ (by simp)]; exact hz2
      have hsl3 : Sl 1 ((((w2.setCell ⟨w.heap.size, 5, none⟩ (.int .i64 (pf))).setCell ⟨w.heap.size, 8, none⟩ (.bool false)).setCell ⟨w.heap.size, 9, none⟩ (.int .i64 0)).setCell ⟨w.heap.size, 10, none⟩ (.int .i64 0)) (.slice (some ⟨wd.heap.size, 0, none⟩) 4 4) 4 (i64s [unl (!pm) 25, unl (decide (0 ≤ fare)) 2, unl false 28, unl (decide (fare ≤ pf)) 27]) := (((hsl.setCell (p := ⟨w.heap.size, 5, none⟩) (fun e => by have := Option.some.inj e; have := HSZ.out; simp only at *; omega) _).setCell (p := ⟨w.heap.size, 8, none⟩) (fun e => by have := Option.some.inj e; have := HSZ.out; simp only at *; omega) _).setCell (p := ⟨w.heap.size, 9, none⟩) (fun e => by have := Option.some.inj e; have := HSZ.out; simp only at *; omega) _).setCell (p := ⟨w.heap.size, 10, none⟩) (fun e => by have := Option.some.inj e; have := HSZ.out; simp only at *; omega) _
      have HB3 := Lib.hid (show Below w.heap.size w ((((w2.setCell ⟨w.heap.size, 5, none⟩ (.int .i64 (pf))).setCell ⟨w.heap.size, 8, none⟩ (.bool false)).setCell ⟨w.heap.size, 9, none⟩ (.int .i64 0)).setCell ⟨w.heap.size, 10, none⟩ (.int .i64 0)) from (((HB2.out.setCell (p := ⟨w.heap.size, 5, none⟩) (Nat.le_refl _) _).setCell (p := ⟨w.heap.size, 8, none⟩) (Nat.le_refl _) _).setCell (p := ⟨w.heap.size, 9, none⟩) (Nat.le_refl _) _).setCell (p := ⟨w.heap.size, 10, none⟩) (Nat.le_refl _) _)
      generalize (((w2.setCell ⟨w.heap.size, 5, none⟩ (.int .i64 (pf))).setCell ⟨w.heap.size, 8, none⟩ (.bool false)).setCell ⟨w.heap.size, 9, none⟩ (.int .i64 0)).setCell ⟨w.heap.size, 10, none⟩ (.int .i64 0) = w3 at *
      clear cq fr5 fr8 fr9 fr10 hq2 hz2 hsl HB2
      have cq := hq3.cs
      dsimp only at cq
      clear hq3
      have hcall := Lib.hid (done_any ⟨pa, pb, pc, pd, pe, pf, pg, ph, false, 0, 0, pk, pl, pm⟩ (.slice (some ⟨wd.heap.size, 0, none⟩) 4 4) [unl (!pm) 25, unl (decide (0 ≤ fare)) 2, unl false 28, unl (decide (fare ≤ pf)) 27] w3 hsl3 ht0 ht1 (by simp))
      have HCALL := Lib.hid hcall; clear hcall
      clear hsl3
      have HZ3 := Lib.hid hz3; clear hz3
      generalize hrr : doneR ⟨pa, pb, pc, pd, pe, pf, pg, ph, false, 0, 0, pk, pl, pm⟩ [unl (!pm) 25, unl (decide (0 ≤ fare)) 2, unl false 28, unl (decide (fare ≤ pf)) 27] = rr at *
      have HRR := Lib.hid hrr; clear hrr
      obtain ⟨⟨qa, qb, qc, qd, qe, qf, qg, qh, qo, qi, qj, qk, ql, qm⟩, q⟩ := rr
      go_wp2_with fail
      refine (HCALL.out.out).mono ?_
      rintro e w4 ⟨rfl, hB4⟩
      have hz4 : PT (w.heap.size + 1) Prod.zero w4 := (hB4.block _ (Array.getElem?_eq_some_iff.1 HZ3.out).1).trans HZ3.out
      have HB4 := Lib.hid (HB3.out.trans (hB4.mono HB3.out.size))
      clear hB4 cq
      have cz := hz4.cs
      have fz := hz4.fs
      have HZ4 := Lib.hid hz4; clear hz4
      simp only [Prod.v]
      go_wp2_with fail
      refine bodyPost_ret (v := .tuple #[Prod.v ⟨qa, qb, qc, qd, qe, qf, qg, qh, qo, qi, qj, qk, ql, qm⟩, .int .i64 q]) ?_ rfl ⟨by first | (have h := HRES.out.trans HRR.out; rw [h]) | rw [HRES.out], stP_below ⟨qa, qb, qc, qd, qe, qf, qg, qh, qo, qi, qj, qk, ql, qm⟩ HB4.out (Nat.le_succ _)⟩
      have hp := HZ4.out.store ⟨qa, qb, qc, qd, qe, qf, qg, qh, qo, qi, qj, qk, ql, qm⟩
      change (results _ _).run _ (stP (w.heap.size + 1) ⟨qa, qb, qc, qd, qe, qf, qg, qh, qo, qi, qj, qk, ql, qm⟩ w4) = .ok _ (stP (w.heap.size + 1) ⟨qa, qb, qc, qd, qe, qf, qg, qh, qo, qi, qj, qk, ql, qm⟩ w4)
      generalize stP (w.heap.size + 1) ⟨qa, qb, qc, qd, qe, qf, qg, qh, qo, qi, qj, qk, ql, qm⟩ w4 = w5 at *
      clear cz fz
      have cs := hp.cs
      simp [results, Try.results15, go_sem, cs, Prod.v]
    · have hmv : pf - max fare 0 = pf - fare := by omega
      rw [hmv] at HRES hwrap
      clear hmv hmx
      have cq := hq2.cs
      dsimp only at cq
      have fr5 := hq2.fr 5
      have fr8 := hq2.fr 8
      have fr9 := hq2.fr 9
      have fr10 := hq2.fr 10
      go_upto_region 4 with fail
      have hq3 : PT w.heap.size ⟨pa, pb, pc, pd, pe, pf - fare, pg, ph, false, 0, 0, pk, pl, pm⟩ ((((w2.setCell ⟨w.heap.size, 5, none⟩ (.int .i64 (pf - fare))).setCell ⟨w.heap.size, 8, none⟩ (.bool false)).setCell ⟨w.heap.size, 9, none⟩ (.int .i64 0)).setCell ⟨w.heap.size, 10, none⟩ (.int .i64 0)) := PT.of (blk_set (blk_set (blk_set (blk_set hq2 5 _) 8 _) 9 _) 10 _) rfl
      have hz3 : PT (w.heap.size + 1) Prod.zero ((((w2.setCell ⟨w.heap.size, 5, none⟩ (.int .i64 (pf - fare))).setCell ⟨w.heap.size, 8, none⟩ (.bool false)).setCell ⟨w.heap.size, 9, none⟩ (.int .i64 0)).setCell ⟨w.heap.size, 10, none⟩ (.int .i64 0)) := by
        unfold PT; rw [Below.heap_setCell _ _ _ _ (by simp), Below.heap_setCell _ _ _ _ (by simp), Below.heap_setCell _ _ _ _ (by simp), Below.heap_setCell _ _ _ _ (by simp)]; exact hz2
      have hsl3 : Sl 1 ((((w2.setCell ⟨w.heap.size, 5, none⟩ (.int .i64 (pf - fare))).setCell ⟨w.heap.size, 8, none⟩ (.bool false)).setCell ⟨w.heap.size, 9, none⟩ (.int .i64 0)).setCell ⟨w.heap.size, 10, none⟩ (.int .i64 0)) (.slice (some ⟨wd.heap.size, 0, none⟩) 4 4) 4 (i64s [unl (!pm) 25, unl (decide (0 ≤ fare)) 2, unl false 28, unl (decide (fare ≤ pf)) 27]) := (((hsl.setCell (p := ⟨w.heap.size, 5, none⟩) (fun e => by have := Option.some.inj e; have := HSZ.out; simp only at *; omega) _).setCell (p := ⟨w.heap.size, 8, none⟩) (fun e => by have := Option.some.inj e; have := HSZ.out; simp only at *; omega) _).setCell (p := ⟨w.heap.size, 9, none⟩) (fun e => by have := Option.some.inj e; have := HSZ.out; simp only at *; omega) _).setCell (p := ⟨w.heap.size, 10, none⟩) (fun e => by have := Option.some.inj e; have := HSZ.out; simp only at *; omega) _
      have HB3 := Lib.hid (show Below w.heap.size w ((((w2.setCell ⟨w.heap.size, 5, none⟩ (.int .i64 (pf - fare))).setCell ⟨w.heap.size, 8, none⟩ (.bool false)).setCell ⟨w.heap.size, 9, none⟩ (.int .i64 0)).setCell ⟨w.heap.size, 10, none⟩ (.int .i64 0)) from (((HB2.out.setCell (p := ⟨w.heap.size, 5, none⟩) (Nat.le_refl _) _).setCell (p := ⟨w.heap.size, 8, none⟩) (Nat.le_refl _) _).setCell (p := ⟨w.heap.size, 9, none⟩) (Nat.le_refl _) _).setCell (p := ⟨w.heap.size, 10, none⟩) (Nat.le_refl _) _)
      generalize (((w2.setCell ⟨w.heap.size, 5, none⟩ (.int .i64 (pf - fare))).setCell ⟨w.heap.size, 8, none⟩ (.bool false)).setCell ⟨w.heap.size, 9, none⟩ (.int .i64 0)).setCell ⟨w.heap.size, 10, none⟩ (.int .i64 0) = w3 at *
      clear cq fr5 fr8 fr9 fr10 hq2 hz2 hsl HB2
      have cq := hq3.cs
      dsimp only at cq
      clear hq3
      have hcall := Lib.hid (done_any ⟨pa, pb, pc, pd, pe, pf - fare, pg, ph, false, 0, 0, pk, pl, pm⟩ (.slice (some ⟨wd.heap.size, 0, none⟩) 4 4) [unl (!pm) 25, unl (decide (0 ≤ fare)) 2, unl false 28, unl (decide (fare ≤ pf)) 27] w3 hsl3 ht0 ht1 (by simp))
      have HCALL := Lib.hid hcall; clear hcall
      clear hsl3
      have HZ3 := Lib.hid hz3; clear hz3
      generalize hrr : doneR ⟨pa, pb, pc, pd, pe, pf - fare, pg, ph, false, 0, 0, pk, pl, pm⟩ [unl (!pm) 25, unl (decide (0 ≤ fare)) 2, unl false 28, unl (decide (fare ≤ pf)) 27] = rr at *
      have HRR := Lib.hid hrr; clear hrr
      obtain ⟨⟨qa, qb, qc, qd, qe, qf, qg, qh, qo, qi, qj, qk, ql, qm⟩, q⟩ := rr
      go_wp2_with fail
      refine (HCALL.out.out).mono ?_
      rintro e w4 ⟨rfl, hB4⟩
      have hz4 : PT (w.heap.size + 1) Prod.zero w4 := (hB4.block _ (Array.getElem?_eq_some_iff.1 HZ3.out).1).trans HZ3.out
      have HB4 := Lib.hid (HB3.out.trans (hB4.mono HB3.out.size))
      clear hB4 cq
      have cz := hz4.cs
      have fz := hz4.fs
      have HZ4 := Lib.hid hz4; clear hz4
      simp only [Prod.v]
      go_wp2_with fail
      refine bodyPost_ret (v := .tuple #[Prod.v ⟨qa, qb, qc, qd, qe, qf, qg, qh, qo, qi, qj, qk, ql, qm⟩, .int .i64 q]) ?_ rfl ⟨by first | (have h := HRES.out.trans HRR.out; rw [h]) | rw [HRES.out], stP_below ⟨qa, qb, qc, qd, qe, qf, qg, qh, qo, qi, qj, qk, ql, qm⟩ HB4.out (Nat.le_succ _)⟩
      have hp := HZ4.out.store ⟨qa, qb, qc, qd, qe, qf, qg, qh, qo, qi, qj, qk, ql, qm⟩
      change (results _ _).run _ (stP (w.heap.size + 1) ⟨qa, qb, qc, qd, qe, qf, qg, qh, qo, qi, qj, qk, ql, qm⟩ w4) = .ok _ (stP (w.heap.size + 1) ⟨qa, qb, qc, qd, qe, qf, qg, qh, qo, qi, qj, qk, ql, qm⟩ w4)
      generalize stP (w.heap.size + 1) ⟨qa, qb, qc, qd, qe, qf, qg, qh, qo, qi, qj, qk, ql, qm⟩ w4 = w5 at *
      clear cz fz
      have cs := hp.cs
      simp [results, Try.results15, go_sem, cs, Prod.v]
  · go_still_tail 24, (by kernel_rfl)
    still_call (unless_any _ _ _)
    repeat still_step
    still_call (unless_any _ _ _)
    repeat still_step
    still_call (unless_any _ _ _)
    repeat still_step
    still_call (unless_any _ _ _)
    repeat still_step
    refine wpStill_nil ?_
    change wpList _ _ _ _ _ w1.drew
    have HQD := Lib.hid (show PT w.heap.size ⟨pa, pb, pc, pd, pe, pf, pg, ph, po, pi, pj, pk, pl, pm⟩ w1.drew from HQ.out)
    have HZD := Lib.hid (show PT (w.heap.size + 1) Prod.zero w1.drew from HZ.out)
    have HBD := Lib.hid HB.out.drew
    have hwd : w.heap.size + 2 ≤ w1.drew.heap.size := by have := HSZ.out; simp only [World.heap_drew]; omega
    generalize w1.drew = wd at *
    clear cp
    go_upto_region 2 with fail
    have hq2 := PT.alloc (w := wd) HQD.out (.cells #[.int .i64 (unl (!pm) 25), .int .i64 (unl (decide (0 ≤ fare)) 2), .int .i64 (unl po 28), .int .i64 (unl (decide (fare ≤ pf)) 27)] 28)
    have hz2 := PT.alloc (w := wd) HZD.out (.cells #[.int .i64 (unl (!pm) 25), .int .i64 (unl (decide (0 ≤ fare)) 2), .int .i64 (unl po 28), .int .i64 (unl (decide (fare ≤ pf)) 27)] 28)
    have HB2 := Lib.hid (HBD.out.alloc HBD.out.size (.cells #[.int .i64 (unl (!pm) 25), .int .i64 (unl (decide (0 ≤ fare)) 2), .int .i64 (unl po 28), .int .i64 (unl (decide (fare ≤ pf)) 27)] 28))
    have hsl : Sl 1 (wd.alloc (.cells #[.int .i64 (unl (!pm) 25), .int .i64 (unl (decide (0 ≤ fare)) 2), .int .i64 (unl po 28), .int .i64 (unl (decide (fare ≤ pf)) 27)] 28)) (.slice (some ⟨wd.heap.size, 0, none⟩) 4 4) 4 (i64s [unl (!pm) 25, unl (decide (0 ≤ fare)) 2, unl po 28, unl (decide (fare ≤ pf)) 27]) := sl_lit (n := 4) wd #[.int .i64 (unl (!pm) 25), .int .i64 (unl (decide (0 ≤ fare)) 2), .int .i64 (unl po 28), .int .i64 (unl (decide (fare ≤ pf)) 27)] 28 rfl rfl (by simp [maxLen]) (by intro u hu; exact i64s_one [unl (!pm) 25, unl (decide (0 ≤ fare)) 2, unl po 28, unl (decide (fare ≤ pf)) 27] u (by simpa [i64s] using hu))
    generalize (wd.alloc (.cells #[.int .i64 (unl (!pm) 25), .int .i64 (unl (decide (0 ≤ fare)) 2), .int .i64 (unl po 28), .int .i64 (unl (decide (fare ≤ pf)) 27)] 28)) = w2 at *
    rcases (show fare < 0 ∨ 0 ≤ fare by omega) with hn | hn
    · have hmv : pf - max fare 0 = pf := by omega
      rw [hmv] at HRES
      clear hmv hwrap hmx
      have cq := hq2.cs
      dsimp only at cq
      have fr5 := hq2.fr 5
      have fr8 := hq2.fr 8
      have fr9 := hq2.fr 9
      have fr10 := hq2.fr 10
      go_upto_region 4 with fail
      have hq3 : PT w.heap.size ⟨pa, pb, pc, pd, pe, pf, pg, ph, false, 0, 0, pk, pl, pm⟩ ((((w2.setCell ⟨w.heap.size, 5, none⟩ (.int .i64 (pf))).setCell ⟨w.heap.size, 8, none⟩ (.bool false)).setCell ⟨w.heap.size, 9, none⟩ (.int .i64 0)).setCell ⟨w.heap.size, 10, none⟩ (.int .i64 0)) := PT.of (blk_set (blk_set (blk_set (blk_set hq2 5 _) 8 _) 9 _) 10 _) rfl
      have hz3 : PT (w.heap.size + 1) Prod.zero ((((w2.setCell ⟨w.heap.size, 5, none⟩ (.int .i64 (pf))).setCell ⟨w.heap.size, 8, none⟩ (.bool false)).setCell ⟨w.heap.size, 9, none⟩ (.int .i64 0)).setCell ⟨w.heap.size, 10, none⟩ (.int .i64 0)) := by
        unfold PT; rw [Below.heap_setCell _ _ _ _ (by simp), Below.heap_setCell _ _ _ _ (by simp), Below.heap_setCell _ _ _ _ (by simp), Below.heap_setCell _ _ _ _ (by simp)]; exact hz2
      have hsl3 : Sl 1 ((((w2.setCell ⟨w.heap.size, 5, none⟩ (.int .i64 (pf))).setCell ⟨w.heap.size, 8, none⟩ (.bool false)).setCell ⟨w.heap.size, 9, none⟩ (.int .i64 0)).setCell ⟨w.heap.size, 10, none⟩ (.int .i64 0)) (.slice (some ⟨wd.heap.size, 0, none⟩) 4 4) 4 (i64s [unl (!pm) 25, unl (decide (0 ≤ fare)) 2, unl po 28, unl (decide (fare ≤ pf)) 27]) := (((hsl.setCell (p := ⟨w.heap.size, 5, none⟩) (fun e => by have := Option.some.inj e; have := HSZ.out; simp only at *; omega) _).setCell (p := ⟨w.heap.size, 8, none⟩) (fun e => by have := Option.some.inj e; have := HSZ.out; simp only at *; omega) _).setCell (p := ⟨w.heap.size, 9, none⟩) (fun e => by have := Option.some.inj e; have := HSZ.out; simp only at *; omega) _).setCell (p := ⟨w.heap.size, 10, none⟩) (fun e => by have := Option.some.inj e; have := HSZ.out; simp only at *; omega) _
      have HB3 := Lib.hid (show Below w.heap.size w ((((w2.setCell ⟨w.heap.size, 5, none⟩ (.int .i64 (pf))).setCell ⟨w.heap.size, 8, none⟩ (.bool false)).setCell ⟨w.heap.size, 9, none⟩ (.int .i64 0)).setCell ⟨w.heap.size, 10, none⟩ (.int .i64 0)) from (((HB2.out.setCell (p := ⟨w.heap.size, 5, none⟩) (Nat.le_refl _) _).setCell (p := ⟨w.heap.size, 8, none⟩) (Nat.le_refl _) _).setCell (p := ⟨w.heap.size, 9, none⟩) (Nat.le_refl _) _).setCell (p := ⟨w.heap.size, 10, none⟩) (Nat.le_refl _) _)
      generalize (((w2.setCell ⟨w.heap.size, 5, none⟩ (.int .i64 (pf))).setCell ⟨w.heap.size, 8, none⟩ (.bool false)).setCell ⟨w.heap.size, 9, none⟩ (.int .i64 0)).setCell ⟨w.heap.size, 10, none⟩ (.int .i64 0) = w3 at *
      clear cq fr5 fr8 fr9 fr10 hq2 hz2 hsl HB2
      have cq := hq3.cs
      dsimp only at cq
      clear hq3
      have hcall := Lib.hid (done_any ⟨pa, pb, pc, pd, pe, pf, pg, ph, false, 0, 0, pk, pl, pm⟩ (.slice (some ⟨wd.heap.size, 0, none⟩) 4 4) [unl (!pm) 25, unl (decide (0 ≤ fare)) 2, unl po 28, unl (decide (fare ≤ pf)) 27] w3 hsl3 ht0 ht1 (by simp))
      have HCALL := Lib.hid hcall; clear hcall
      clear hsl3
      have HZ3 := Lib.hid hz3; clear hz3
      generalize hrr : doneR ⟨pa, pb, pc, pd, pe, pf, pg, ph, false, 0, 0, pk, pl, pm⟩ [unl (!pm) 25, unl (decide (0 ≤ fare)) 2, unl po 28, unl (decide (fare ≤ pf)) 27] = rr at *
      have HRR := Lib.hid hrr; clear hrr
      obtain ⟨⟨qa, qb, qc, qd, qe, qf, qg, qh, qo, qi, qj, qk, ql, qm⟩, q⟩ := rr
      go_wp2_with fail
      refine (HCALL.out.out).mono ?_
      rintro e w4 ⟨rfl, hB4⟩
      have hz4 : PT (w.heap.size + 1) Prod.zero w4 := (hB4.block _ (Array.getElem?_eq_some_iff.1 HZ3.out).1).trans HZ3.out
      have HB4 := Lib.hid (HB3.out.trans (hB4.mono HB3.out.size))
      clear hB4 cq
      have cz := hz4.cs
      have fz := hz4.fs
      have HZ4 := Lib.hid hz4; clear hz4
      simp only [Prod.v]
      go_wp2_with fail
      refine bodyPost_ret (v := .tuple #[Prod.v ⟨qa, qb, qc, qd, qe, qf, qg, qh, qo, qi, qj, qk, ql, qm⟩, .int .i64 q]) ?_ rfl ⟨by first | (have h := HRES.out.trans HRR.out; rw [h]) | rw [HRES.out], stP_below ⟨qa, qb, qc, qd, qe, qf, qg, qh, qo, qi, qj, qk, ql, qm⟩ HB4.out (Nat.le_succ _)⟩
      have hp := HZ4.out.store ⟨qa, qb, qc, qd, qe, qf, qg, qh, qo, qi, qj, qk, ql, qm⟩
      change (results _ _).run _ (stP (w.heap.size + 1) ⟨qa, qb, qc, qd, qe, qf, qg, qh, qo, qi, qj, qk, ql, qm⟩ w4) = .ok _ (stP (w.heap.size + 1) ⟨qa, qb, qc, qd, qe, qf, qg, qh, qo, qi, qj, qk, ql, qm⟩ w4)
      generalize stP (w.heap.size + 1) ⟨qa, qb, qc, qd, qe, qf, qg, qh, qo, qi, qj, qk, ql, qm⟩ w4 = w5 at *
      clear cz fz
      have cs := hp.cs
      simp [results, Try.results15, go_sem, cs, Prod.v]
    · have hmv : pf - max fare 0 = pf - fare := by omega
      rw [hmv] at HRES hwrap
      clear hmv hmx
      have cq := hq2.cs
      dsimp only at cq
      have fr5 := hq2.fr 5
      have fr8 := hq2.fr 8
      have fr9 := hq2.fr 9
      have fr10 := hq2.fr 10
      go_upto_region 4 with fail
      have hq3 : PT w.heap.size ⟨pa, pb, pc, pd, pe, pf - fare, pg, ph, false, 0, 0, pk, pl, pm⟩ ((((w2.setCell ⟨w.heap.size, 5, none⟩ (.int .i64 (pf - fare))).setCell ⟨w.heap.size, 8, none⟩ (.bool false)).setCell ⟨w.heap.size, 9, none⟩ (.int .i64 0)).setCell ⟨w.heap.size, 10, none⟩ (.int .i64 0)) := PT.of (blk_set (blk_set (blk_set (blk_set hq2 5 _) 8 _) 9 _) 10 _) rfl
      have hz3 : PT (w.heap.size + 1) Prod.zero ((((w2.setCell ⟨w.heap.size, 5, none⟩ (.int .i64 (pf - fare))).setCell ⟨w.heap.size, 8, none⟩ (.bool false)).setCell ⟨w.heap.size, 9, none⟩ (.int .i64 0)).setCell ⟨w.heap.size, 10, none⟩ (.int .i64 0)) := by
        unfold PT; rw [Below.heap_setCell _ _ _ _ (by simp), Below.heap_setCell _ _ _ _ (by simp), Below.heap_setCell _ _ _ _ (by simp), Below.heap_setCell _ _ _ _ (by simp)]; exact hz2
      have hsl3 : Sl 1 ((((w2.setCell ⟨w.heap.size, 5, none⟩ (.int .i64 (pf - fare))).setCell ⟨w.heap.size, 8, none⟩ (.bool false)).setCell ⟨w.heap.size, 9, none⟩ (.int .i64 0)).setCell ⟨w.heap.size, 10, none⟩ (.int .i64 0)) (.slice (some ⟨wd.heap.size, 0, none⟩) 4 4) 4 (i64s [unl (!pm) 25, unl (decide (0 ≤ fare)) 2, unl po 28, unl (decide (fare ≤ pf)) 27]) := (((hsl.setCell (p := ⟨w.heap.size, 5, none⟩) (fun e => by have := Option.some.inj e; have := HSZ.out; simp only at *; omega) _).setCell (p := ⟨w.heap.size, 8, none⟩) (fun e => by have := Option.some.inj e; have := HSZ.out; simp only at *; omega) _).setCell (p := ⟨w.heap.size, 9, none⟩) (fun e => by have := Option.some.inj e; have := HSZ.out; simp only at *; omega) _).setCell (p := ⟨w.heap.size, 10, none⟩) (fun e => by have := Option.some.inj e; have := HSZ.out; simp only at *; omega) _
      have HB3 := Lib.hid (show Below w.heap.size w ((((w2.setCell ⟨w.heap.size, 5, none⟩ (.int .i64 (pf - fare))).setCell ⟨w.heap.size, 8, none⟩ (.bool false)).setCell ⟨w.heap.size, 9, none⟩ (.int .i64 0)).setCell ⟨w.heap.size, 10, none⟩ (.int .i64 0)) from (((HB2.out.setCell (p := ⟨w.heap.size, 5, none⟩) (Nat.le_refl _) _).setCell (p := ⟨w.heap.size, 8, none⟩) (Nat.le_refl _) _).setCell (p := ⟨w.heap.size, 9, none⟩) (Nat.le_refl _) _).setCell (p := ⟨w.heap.size, 10, none⟩) (Nat.le_refl _) _)
      generalize (((w2.setCell ⟨w.heap.size, 5, none⟩ (.int .i64 (pf - fare))).setCell ⟨w.heap.size, 8, none⟩ (.bool false)).setCell ⟨w.heap.size, 9, none⟩ (.int .i64 0)).setCell ⟨w.heap.size, 10, none⟩ (.int .i64 0) = w3 at *
      clear cq fr5 fr8 fr9 fr10 hq2 hz2 hsl HB2
      have cq := hq3.cs
      dsimp only at cq
      clear hq3
      have hcall := Lib.hid (done_any ⟨pa, pb, pc, pd, pe, pf - fare, pg, ph, false, 0, 0, pk, pl, pm⟩ (.slice (some ⟨wd.heap.size, 0, none⟩) 4 4) [unl (!pm) 25, unl (decide (0 ≤ fare)) 2, unl po 28, unl (decide (fare ≤ pf)) 27] w3 hsl3 ht0 ht1 (by simp))
      have HCALL := Lib.hid hcall; clear hcall
      clear hsl3
      have HZ3 := Lib.hid hz3; clear hz3
      generalize hrr : doneR ⟨pa, pb, pc, pd, pe, pf - fare, pg, ph, false, 0, 0, pk, pl, pm⟩ [unl (!pm) 25, unl (decide (0 ≤ fare)) 2, unl po 28, unl (decide (fare ≤ pf)) 27] = rr at *
      have HRR := Lib.hid hrr; clear hrr
      obtain ⟨⟨qa, qb, qc, qd, qe, qf, qg, qh, qo, qi, qj, qk, ql, qm⟩, q⟩ := rr
      go_wp2_with fail
      refine (HCALL.out.out).mono ?_
      rintro e w4 ⟨rfl, hB4⟩
      have hz4 : PT (w.heap.size + 1) Prod.zero w4 := (hB4.block _ (Array.getElem?_eq_some_iff.1 HZ3.out).1).trans HZ3.out
      have HB4 := Lib.hid (HB3.out.trans (hB4.mono HB3.out.size))
      clear hB4 cq
      have cz := hz4.cs
      have fz := hz4.fs
      have HZ4 := Lib.hid hz4; clear hz4
      simp only [Prod.v]
      go_wp2_with fail
      refine bodyPost_ret (v := .tuple #[Prod.v ⟨qa, qb, qc, qd, qe, qf, qg, qh, qo, qi, qj, qk, ql, qm⟩, .int .i64 q]) ?_ rfl ⟨by first | (have h := HRES.out.trans HRR.out; rw [h]) | rw [HRES.out], stP_below ⟨qa, qb, qc, qd, qe, qf, qg, qh, qo, qi, qj, qk, ql, qm⟩ HB4.out (Nat.le_succ _)⟩
      have hp := HZ4.out.store ⟨qa, qb, qc, qd, qe, qf, qg, qh, qo, qi, qj, qk, ql, qm⟩
      change (results _ _).run _ (stP (w.heap.size + 1) ⟨qa, qb, qc, qd, qe, qf, qg, qh, qo, qi, qj, qk, ql, qm⟩ w4) = .ok _ (stP (w.heap.size + 1) ⟨qa, qb, qc, qd, qe, qf, qg, qh, qo, qi, qj, qk, ql, qm⟩ w4)
      generalize stP (w.heap.size + 1) ⟨qa, qb, qc, qd, qe, qf, qg, qh, qo, qi, qj, qk, ql, qm⟩ w4 = w5 at *
      clear cz fz
      have cs := hp.cs
      simp [results, Try.results15, go_sem, cs, Prod.v]
end Go.Proofs.Ytlbfeoobeleobaa
