/- ipe.Parse: no product is found. -/
import Derived.Test.YtlbfeoobeleobaaParse
import Derived.Deep.DeepCutAuto
namespace Go.Proofs.Ytlbfeoobeleobaa
open Go.RowKit
set_option linter.unusedVariables false
set_option linter.unusedSimpArgs false

/-- behind 'var p', 'var kind, open, blocked' and fields -/
def aftF (w1 : World) : World := ((((w1.alloc (.cells Prod.zero.cells.toArray 24)).alloc (.cells #[.int .i64 0] 3)).alloc (.cells #[.int .i64 0] 3)).alloc (.cells #[.int .i64 0] 3)).drew.alloc (.cells (fieldCells w1.heap.size (w1.heap.size + 1) (w1.heap.size + 2) (w1.heap.size + 3)).toArray 87)
theorem heap_alloc_at (w : World) (o : Obj) {k : Nat} (h : k = w.heap.size) : (w.alloc o).heap[k]? = some o := by subst h; exact heap_alloc_new w o
theorem heap_alloc_lt (w : World) (o : Obj) {k : Nat} (h : k < w.heap.size) : (w.alloc o).heap[k]? = w.heap[k]? := Below.heap_alloc w o k h
theorem aftF_facts (w1 : World) : PS w1.heap.size zeros (aftF w1) ∧ Below w1.heap.size w1 (aftF w1) ∧ (aftF w1).heap.size = w1.heap.size + 5 ∧ (∀ j u, (fieldCells w1.heap.size (w1.heap.size + 1) (w1.heap.size + 2) (w1.heap.size + 3))[j]? = some u → (aftF w1).cell? ⟨w1.heap.size + 4, j, none⟩ = some u) := by
  refine ⟨⟨rfl, ?_, ?_, ?_, ?_⟩, (by repeat' (first | exact Below.refl _ _ | refine Below.alloc ?_ (by first | omega | (simp; done) | (simp; omega)) _ | refine Below.drew ?_ | refine below_drewN ?_ _ | refine Below.setCell ?_ (by first | omega | (simp; done) | (simp; omega)) _)), by simp [aftF], fun j u hu => ?_⟩
  · unfold aftF; rw [heap_alloc_lt _ _ (by first | omega | (simp; done) | (simp; omega))]; show (World.alloc _ _).heap[_]? = _; rw [heap_alloc_lt _ _ (by first | omega | (simp; done) | (simp; omega)), heap_alloc_lt _ _ (by first | omega | (simp; done) | (simp; omega)), heap_alloc_lt _ _ (by first | omega | (simp; done) | (simp; omega)), heap_alloc_at _ _ rfl]; rfl
  · unfold aftF; rw [heap_alloc_lt _ _ (by first | omega | (simp; done) | (simp; omega))]; show (World.alloc _ _).heap[_]? = _; rw [heap_alloc_lt _ _ (by first | omega | (simp; done) | (simp; omega)), heap_alloc_lt _ _ (by first | omega | (simp; done) | (simp; omega)), heap_alloc_at _ _ (by simp)]; rfl
  · unfold aftF; rw [heap_alloc_lt _ _ (by first | omega | (simp; done) | (simp; omega))]; show (World.alloc _ _).heap[_]? = _; rw [heap_alloc_lt _ _ (by first | omega | (simp; done) | (simp; omega)), heap_alloc_at _ _ (by simp)]; rfl
  · unfold aftF; rw [heap_alloc_lt _ _ (by first | omega | (simp; done) | (simp; omega))]; show (World.alloc _ _).heap[_]? = _; rw [heap_alloc_at _ _ (by simp)]; rfl
  · have h := heap_alloc_at ((((w1.alloc (.cells Prod.zero.cells.toArray 24)).alloc (.cells #[.int .i64 0] 3)).alloc (.cells #[.int .i64 0] 3)).alloc (.cells #[.int .i64 0] 3)).drew (.cells (fieldCells w1.heap.size (w1.heap.size + 1) (w1.heap.size + 2) (w1.heap.size + 3)).toArray 87) (k := w1.heap.size + 4) (by simp)
    have h2 : (aftF w1).heap[w1.heap.size + 4]? = some (.cells (fieldCells w1.heap.size (w1.heap.size + 1) (w1.heap.size + 2) (w1.heap.size + 3)).toArray 87 (0, 0)) := h
    rw [cell_blk h2]; simpa using hu

theorem PS.close {P : Nat} {ns : List Int} {w : World} (h : PS P ns w) : PB P (prodOf ns) (((w.setCell ⟨P, 0, none⟩ (.int .i64 (ns.getD 0 0))).setCell ⟨P, 8, none⟩ (.bool (ns.getD 8 0 == 1))).setCell ⟨P, 13, none⟩ (.bool (ns.getD 13 0 == 1))) :=
  (blk_set (blk_set (blk_set h.p 0 _) 8 _) 13 _).trans (congrArg (fun l : List Value => some (Obj.cells l.toArray 24 (0, 0))) (show _ = (prodOf ns).cells from rfl))
theorem PS.ps {P : Nat} {ns : List Int} {w : World} (h : PS P ns w) : w.cell? ⟨P, 0, none⟩ = some (.int .i64 0) ∧ w.cell? ⟨P, 8, none⟩ = some (.bool false) ∧ w.cell? ⟨P, 13, none⟩ = some (.bool false) ∧ w.frozen? ⟨P, 0, none⟩ = false ∧ w.frozen? ⟨P, 8, none⟩ = false ∧ w.frozen? ⟨P, 13, none⟩ = false :=
  ⟨by rw [cell_blk h.p]; rfl, by rw [cell_blk h.p]; rfl, by rw [cell_blk h.p]; rfl, frozen_of_row w _ _ _ _ h.p, frozen_of_row w _ _ _ _ h.p, frozen_of_row w _ _ _ _ h.p⟩

def parseFin (ns bs : List Int) : Prod × Int := if (prodOf ns).right = true ∧ (prodOf ns).form = bs then (prodOf ns, 0) else (Prod.zero, 12)
def parse2 (es : List T) (bs : List Int) : Prod × Int := if (prodOf (decN zeros (kidsOf es))).right = true ∧ (prodOf (decN zeros (kidsOf es))).form = bs then (prodOf (decN zeros (kidsOf es)), 0) else (Prod.zero, 12)

set_option maxHeartbeats 4000000 in
set_option maxRecDepth 100000 in
theorem parse_none (v : Value) (bs : List Int) (w : World) (hs : Sl 1 w v bs.length (u8s bs)) (hb : BytesOk bs) (hl : bs.length ≤ 140737488355328) (es : List T) (he : getP 4 bs = (0, es)) (hft : findTag 224 es = none) : Calls Try.prog 20 #[v] w (ProdE w (parse2 es bs)) := by
  have HGG := Lib.hid (fun W (hB : Below w.heap.size w W) => Lib.hid (tlv_get v bs W (hs.ofBelow hB) hb hl))
  have HOK := Lib.hid (getP_ok 4 bs hb)
  rw [he] at HGG HOK
  obtain ⟨a, c, rfl⟩ := hs.shape
  have HS := Lib.hid hs; clear hs
  clear hb he
  have hblk : PB w.heap.size Prod.zero (w.alloc (.cells Prod.zero.cells.toArray 24)) := heap_alloc_new w _
  simp only [Prod.zero, Prod.cells] at hblk
  go_enter Try.func20, Try.ntmps20
  go_wp2_with fail
  refine ((HGG.out _ (by exact (Below.refl _ _).alloc (Nat.le_refl _) _)).out).mono ?_
  rintro e w1 ⟨v1, rfl, hr, hB⟩
  simp only at hr ⊢
  have hblk1 : PB w.heap.size Prod.zero w1 := (hB.block w.heap.size (by simp)).trans hblk
  have HB1 := Lib.hid (show Below w.heap.size w w1 from Below.trans ((Below.refl _ _).alloc (Nat.le_refl _) _) (hB.mono (by simp)))
  have hRw1 : w.heap.size < w1.heap.size := (Array.getElem?_eq_some_iff.1 hblk1).1
  have HR := Lib.hid (hr.weaken (G := fun b => b < w1.heap.size) (fun b hb _ => hb))
  obtain ⟨a1, c1, rfl⟩ := hr.shape
  clear hB hblk hr HGG
  obtain ⟨hps, hB2, hsz2, hfc⟩ := aftF_facts w1
  have hblk2 : PB w.heap.size Prod.zero (aftF w1) := (hB2.block _ hRw1).trans hblk1
  have HR2 := Lib.hid (HR.out.ofBelow hB2)
  have HB2 := Lib.hid (HB1.out.trans (hB2.mono HB1.out.size))
  have HPS := Lib.hid hps; clear hps
  have HSZ := Lib.hid hsz2; clear hsz2
  have HFC := Lib.hid hfc; clear hfc
  have HPB := Lib.hid hblk2; clear hblk2
  have hP2 : w1.heap.size + 5 ≤ (aftF w1).heap.size := by rw [HSZ.out]; exact Nat.le_refl _
  clear hblk1 HR HB1 hB2
  go_wp2_with fail
  refine (fields_any _ _ _ _ _).mono ?_
  rintro e w' ⟨he, hw'⟩
  have hw2 : w' = aftF w1 := hw'
  have he2 : e = .returned (.slice (some ⟨w1.heap.size + 4, 0, none⟩) 14 14) := he.trans (by simp)
  subst hw2 he2
  clear he hw'
  generalize hPP : w1.heap.size = P at *
  generalize aftF w1 = w2 at *
  clear hPP
  generalize hk : P + 1 = Bk at ⊢
  generalize ho : Bk + 1 = Bo at ⊢
  generalize hbb : Bo + 1 = Bb at ⊢
  generalize hf : P + 4 = FB at *
  have HE := Lib.hid (show P + 1 = Bk ∧ Bk + 1 = Bo ∧ Bo + 1 = Bb ∧ P + 4 = FB from ⟨hk, ho, hbb, hf⟩)
  clear hk ho hbb hf
  go_wp2_with fail
  refine (find_any 3 (fun b => b < P) 224 _ es _ HR2.out).mono ?_
  clear HR2
  rw [hft]
  rintro e w3 ⟨rfl, hB3⟩
  have HNS := Lib.hid (show parse2 es bs = parseFin zeros bs by unfold parse2 kidsOf; rw [hft]; rfl)
  have HPSZ := Lib.hid (HPS.out.keep (w' := w3) (fun b h1 h2 => hB3.block b (by omega)))
  have HPBZ := Lib.hid (show PB w.heap.size Prod.zero w3 from (hB3.block _ (by omega)).trans HPB.out)
  have HBZ := Lib.hid (HB2.out.trans (hB3.mono HB2.out.size))
  have hz3 : P + 5 ≤ w3.heap.size := by have := hB3.size; omega
  clear hB3 hft HPS HPB HB2 HFC HSZ
  generalize hns : zeros = ns at *
  clear hns
  have hps := HPSZ.out
  have k0 : w3.cell? ⟨Bk, 0, none⟩ = some (.int .i64 (ns.getD 0 0)) := by rw [← HE.out.1, cell_blk hps.k]; rfl
  have k8 : w3.cell? ⟨Bo, 0, none⟩ = some (.int .i64 (ns.getD 8 0)) := by rw [← HE.out.2.1, ← HE.out.1, cell_blk hps.o]; rfl
  have k13 : w3.cell? ⟨Bb, 0, none⟩ = some (.int .i64 (ns.getD 13 0)) := by rw [← HE.out.2.2.1, ← HE.out.2.1, ← HE.out.1, cell_blk hps.b]; rfl
  obtain ⟨p0, p8, p13, f0, f8, f13⟩ := hps.ps
  have hPz : P < w3.heap.size := by have := hps.lt; omega
  have hRP : w.heap.size < w3.heap.size := by omega
  have hkz : Bk < w3.heap.size := by have := hps.lt; have := HE.out.1; omega
  have hoz : Bo < w3.heap.size := by have := hps.lt; have := HE.out; omega
  have hbz : Bb < w3.heap.size := by have := hps.lt; have := HE.out; omega
  have hnk : P ≠ Bk := by have := HE.out; omega
  have hno : P ≠ Bo := by have := HE.out; omega
  have hnb : P ≠ Bb := by have := HE.out; omega
  have hpb := hps.close
  clear hps
  generalize ns.getD 0 0 = n0 at *
  generalize ns.getD 8 0 = n8 at *
  generalize ns.getD 13 0 = n13 at *
  have HPBB := Lib.hid hpb; clear hpb
  go_upto_region 16 with fail
  have hpb := HPBB.out
  have hBz : Below w.heap.size w (((w3.setCell ⟨P, 0, none⟩ (.int .i64 n0)).setCell ⟨P, 8, none⟩ (.bool (n8 == 1))).setCell ⟨P, 13, none⟩ (.bool (n13 == 1))) := ((HBZ.out.setCell (by simp only; omega) _).setCell (by simp only; omega) _).setCell (by simp only; omega) _
  have hpr : PB w.heap.size Prod.zero (((w3.setCell ⟨P, 0, none⟩ (.int .i64 n0)).setCell ⟨P, 8, none⟩ (.bool (n8 == 1))).setCell ⟨P, 13, none⟩ (.bool (n13 == 1))) := by
    unfold PB; rw [Below.heap_setCell _ _ _ _ (by simp only; omega), Below.heap_setCell _ _ _ _ (by simp only; omega), Below.heap_setCell _ _ _ _ (by simp only; omega)]; exact HPBZ.out
  have hsz6 : w3.heap.size ≤ (((w3.setCell ⟨P, 0, none⟩ (.int .i64 n0)).setCell ⟨P, 8, none⟩ (.bool (n8 == 1))).setCell ⟨P, 13, none⟩ (.bool (n13 == 1))).heap.size := by simp
  generalize ((w3.setCell ⟨P, 0, none⟩ (.int .i64 n0)).setCell ⟨P, 8, none⟩ (.bool (n8 == 1))).setCell ⟨P, 13, none⟩ (.bool (n13 == 1)) = w5 at *
  have hpb3 : PB P (prodOf ns) (w5.alloc (.cells #[.int .i64 0, .slice none 0 0, .slice none 0 0] 67)) := (Below.heap_alloc _ _ _ (by omega)).trans hpb
  have hpr3 : PB w.heap.size Prod.zero (w5.alloc (.cells #[.int .i64 0, .slice none 0 0, .slice none 0 0] 67)) := (Below.heap_alloc _ _ _ (by omega)).trans hpr
  have hBz3 : Below w.heap.size w (w5.alloc (.cells #[.int .i64 0, .slice none 0 0, .slice none 0 0] 67)) := hBz.alloc hBz.size _
  clear hpb hpr hBz
  generalize w5.alloc (.cells #[.int .i64 0, .slice none 0 0, .slice none 0 0] 67) = w6 at *
  have hBz := Lib.hid hBz3; clear hBz3
  clear HPBB hsz6
  clear k0 k8 k13 p0 p8 p13 f0 f8 f13 hkz hoz hbz hnk hno hnb hPz hRP
  generalize hp : prodOf ns = p at *
  have cs := hpb3.cs
  have hP6 : P < w6.heap.size := (Array.getElem?_eq_some_iff.1 hpb3).1
  have hPB6 := Lib.hid hpb3
  have hPR6 := Lib.hid hpr3
  have HSP := Lib.hid (show parse2 es bs = if p.right = true ∧ p.form = bs then (p, 0) else (Prod.zero, 12) by rw [HNS.out]; unfold parseFin; rw [hp])
  clear hpb3 hpr3 hp
  have HFB := fun W => Lib.hid (form_bad p W)
  have HFR := fun W => Lib.hid (form_right p W)
  obtain ⟨pa, pb, pc, pd, pe, pf, pg, ph, po, pi, pj, pk, pl, pm⟩ := p
  simp only [Prod.v] at HFB HFR
  dsimp only at cs
  go_wp2_with fail
  cases hright : (Prod.right ⟨pa, pb, pc, pd, pe, pf, pg, ph, po, pi, pj, pk, pl, pm⟩) with
  | false =>
    refine ((HFB _).out hright).mono ?_
    rintro e w7 ⟨v7, rfl, hown, hB⟩
    have hsp := HSP.out
    rw [hright, if_neg (by simp)] at hsp
    have HSPF := Lib.hid hsp; clear hsp
    have hpr7 : PB w.heap.size Prod.zero w7 := (hB.block _ (by omega)).trans hPR6.out
    have HB7 := Lib.hid (hBz.out.trans (hB.mono hBz.out.size))
    clear hB hown cs HFB HFR HSP hright
    have cs := hpr7.cs
    have fs := hpr7.fs
    have HPB7 := Lib.hid hpr7; clear hpr7
    go_wp2_with fail
    refine bodyPost_ret (v := .tuple #[Prod.zero.v, .int .i64 12]) ?_ rfl ⟨by rw [HSPF.out], stP_below Prod.zero HB7.out (Nat.le_refl _)⟩
    have hp := HPB7.out.store Prod.zero
    change (results _ _).run _ (stP w.heap.size Prod.zero w7) = .ok _ (stP w.heap.size Prod.zero w7)
    generalize stP w.heap.size Prod.zero w7 = w5 at *
    have cs := hp.cs
    simp [results, Try.results20, go_sem, cs, Prod.v]
  | true =>
    refine ((HFR _).out hright).mono ?_
    rintro e w7 ⟨v7, rfl, hown, hB⟩
    obtain ⟨a7, c7, rfl⟩ := own_shape hown
    have hsp := HSP.out
    rw [hright] at hsp
    have hpr7 : PB w.heap.size Prod.zero w7 := (hB.block _ (by omega)).trans hPR6.out
    have hpb7 : PB P ⟨pa, pb, pc, pd, pe, pf, pg, ph, po, pi, pj, pk, pl, pm⟩ w7 := (hB.block _ hP6).trans hPB6.out
    have HB7 := Lib.hid (hBz.out.trans (hB.mono hBz.out.size))
    have hfl : (Prod.form ⟨pa, pb, pc, pd, pe, pf, pg, ph, po, pi, pj, pk, pl, pm⟩).length ≤ 140737488355328 := by
      have := Prod.inner_len _ hright; unfold Prod.form; simp; omega
    have HEQ := Lib.hid (equal_bytes _ _ _ bs w7 (own_sl hown (u8s_one _)) (HS.out.ofBelow HB7.out) hfl hl)
    clear hB hown cs HFB HFR HSP
    generalize hfm : (Prod.form ⟨pa, pb, pc, pd, pe, pf, pg, ph, po, pi, pj, pk, pl, pm⟩) = fm at *
    clear hfm hright
    have HPB7 := Lib.hid hpr7; clear hpr7
    have HPP7 := Lib.hid hpb7; clear hpb7
    have HSP := Lib.hid hsp; clear hsp
    go_wp2_with fail
    refine (HEQ.out).mono ?_
    rintro e w8 ⟨rfl, hw8⟩
    obtain ⟨hpr8, hpb8, HB8⟩ : PB w.heap.size Prod.zero w8 ∧ PB P ⟨pa, pb, pc, pd, pe, pf, pg, ph, po, pi, pj, pk, pl, pm⟩ w8 ∧ Hid (Below w.heap.size w w8) := by
      obtain ⟨nq, rfl⟩ := hw8
      exact ⟨HPB7.out, HPP7.out, Lib.hid (below_drewN HB7.out nq)⟩
    have cs := hpr8.cs
    have fs := hpr8.fs
    have HPB8 := Lib.hid hpr8; clear hpr8
    clear hw8 HPB7 HPP7 HB7 HEQ
    by_cases hfe : fm = bs
    · rw [decide_eq_true hfe]
      have hsp := HSP.out
      rw [if_pos (by first | exact ⟨rfl, hfe⟩ | exact ⟨trivial, hfe⟩)] at hsp
      have cp := hpb8.cs
      dsimp only at cp
      clear hpb8
      have HSPF := Lib.hid hsp; clear hsp
      clear hfe HSP
      go_wp2_with fail
      refine bodyPost_ret (v := .tuple #[Prod.v ⟨pa, pb, pc, pd, pe, pf, pg, ph, po, pi, pj, pk, pl, pm⟩, .int .i64 0]) ?_ rfl ⟨by rw [HSPF.out], stP_below ⟨pa, pb, pc, pd, pe, pf, pg, ph, po, pi, pj, pk, pl, pm⟩ HB8.out (Nat.le_refl _)⟩
      have hp := HPB8.out.store ⟨pa, pb, pc, pd, pe, pf, pg, ph, po, pi, pj, pk, pl, pm⟩
      change (results _ _).run _ (stP w.heap.size ⟨pa, pb, pc, pd, pe, pf, pg, ph, po, pi, pj, pk, pl, pm⟩ w8) = .ok _ (stP w.heap.size ⟨pa, pb, pc, pd, pe, pf, pg, ph, po, pi, pj, pk, pl, pm⟩ w8)
      generalize stP w.heap.size ⟨pa, pb, pc, pd, pe, pf, pg, ph, po, pi, pj, pk, pl, pm⟩ w8 = w5 at *
      clear cs fs cp
      have cs := hp.cs
      simp [results, Try.results20, go_sem, cs, Prod.v]
    · rw [decide_eq_false hfe]
      have hsp := HSP.out
      rw [if_neg (fun h => hfe h.2)] at hsp
      clear hpb8
      have HSPF := Lib.hid hsp; clear hsp
      clear hfe HSP
      go_wp2_with fail
      refine bodyPost_ret (v := .tuple #[Prod.zero.v, .int .i64 12]) ?_ rfl ⟨by rw [HSPF.out], stP_below Prod.zero HB8.out (Nat.le_refl _)⟩
      have hp := HPB8.out.store Prod.zero
      change (results _ _).run _ (stP w.heap.size Prod.zero w8) = .ok _ (stP w.heap.size Prod.zero w8)
      generalize stP w.heap.size Prod.zero w8 = w5 at *
      clear cs fs
      have cs := hp.cs
      simp [results, Try.results20, go_sem, cs, Prod.v]
end Go.Proofs.Ytlbfeoobeleobaa
