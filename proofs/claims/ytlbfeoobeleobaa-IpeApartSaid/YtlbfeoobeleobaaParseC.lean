/- ipe.Parse: a product is found. -/
import Derived.Test.YtlbfeoobeleobaaParseB
import Derived.Deep.RegionHeld3
namespace Go.Proofs.Ytlbfeoobeleobaa
open Go.RowKit
set_option linter.unusedVariables false
set_option linter.unusedSimpArgs false

structure ParRel (P : Nat) (ns : List Int) (w4 wr : World) : Prop where
  ps : PS P ns wr
  chg : Chg (fun b => P ≤ b ∧ b < P + 4) w4 wr

set_option maxHeartbeats 4000000 in
set_option maxRecDepth 100000 in
theorem parse_some (v : Value) (bs : List Int) (w : World) (hs : Sl 1 w v bs.length (u8s bs)) (hb : BytesOk bs) (hl : bs.length ≤ 140737488355328) (es : List T) (he : getP 4 bs = (0, es)) (t : T) (hft : findTag 224 es = some t) : Calls Try.prog 20 #[v] w (ProdE w (parse2 es bs)) := by
  have HGG := Lib.hid (fun W (hB : Below w.heap.size w W) => Lib.hid (tlv_get v bs W (hs.ofBelow hB) hb hl))
  have HOK := Lib.hid (getP_ok 4 bs hb)
  rw [he] at HGG HOK
  obtain ⟨a, c, rfl⟩ := hs.shape
  have HS := Lib.hid hs; clear hs
  clear hb he
  have hblk : PB w.heap.size Prod.zero (w.alloc (.cells Prod.zero.cells.toArray 24)) := heap_alloc_new w _
  simp only [Prod.zero, Prod.cells] at hblk
  go_enter Try.func20, Try.ntmps20
  go_wp2_with fail
  refine ((HGG.out _ (by exact (Below.refl _ _).alloc (Nat.le_refl _) _)).out).mono ?_
  rintro e w1 ⟨v1, rfl, hr, hB⟩
  simp only at hr ⊢
  have hblk1 : PB w.heap.size Prod.zero w1 := (hB.block w.heap.size (by simp)).trans hblk
  have HB1 := Lib.hid (show Below w.heap.size w w1 from Below.trans ((Below.refl _ _).alloc (Nat.le_refl _) _) (hB.mono (by simp)))
  have hRw1 : w.heap.size < w1.heap.size := (Array.getElem?_eq_some_iff.1 hblk1).1
  have HR := Lib.hid (hr.weaken (G := fun b => b < w1.heap.size) (fun b hb _ => hb))
  obtain ⟨a1, c1, rfl⟩ := hr.shape
  clear hB hblk hr HGG
  obtain ⟨hps, hB2, hsz2, hfc⟩ := aftF_facts w1
  have hblk2 : PB w.heap.size Prod.zero (aftF w1) := (hB2.block _ hRw1).trans hblk1
  have HR2 := Lib.hid (HR.out.ofBelow hB2)
  have HB2 := Lib.hid (HB1.out.trans (hB2.mono HB1.out.size))
  have HPS := Lib.hid hps; clear hps
  have HSZ := Lib.hid hsz2; clear hsz2
  have HFC := Lib.hid hfc; clear hfc
  have HPB := Lib.hid hblk2; clear hblk2
  have hP2 : w1.heap.size + 5 ≤ (aftF w1).heap.size := by rw [HSZ.out]; exact Nat.le_refl _
  clear hblk1 HR HB1 hB2
  go_wp2_with fail
  refine (fields_any _ _ _ _ _).mono ?_
  rintro e w' ⟨he, hw'⟩
  have hw2 : w' = aftF w1 := hw'
  have he2 : e = .returned (.slice (some ⟨w1.heap.size + 4, 0, none⟩) 14 14) := he.trans (by simp)
  subst hw2 he2
  clear he hw'
  generalize hPP : w1.heap.size = P at *
  generalize aftF w1 = w2 at *
  clear hPP
  generalize hk : P + 1 = Bk at ⊢
  generalize ho : Bk + 1 = Bo at ⊢
  generalize hbb : Bo + 1 = Bb at ⊢
  generalize hf : P + 4 = FB at *
  have HE := Lib.hid (show P + 1 = Bk ∧ Bk + 1 = Bo ∧ Bo + 1 = Bb ∧ P + 4 = FB from ⟨hk, ho, hbb, hf⟩)
  clear hk ho hbb hf
  go_wp2_with fail
  refine (find_any 3 (fun b => b < P) 224 _ es _ HR2.out).mono ?_
  clear HR2
  rw [hft]
  rintro e w3 ⟨a3, c3, a4, c4, rfl, hrx, hB3⟩
  have hkok : OkL 3 t.kids := by
    have h1 := List.mem_of_find?_eq_some hft
    exact (HOK.out t h1).2.2.2
  have hko : kidsOf es = t.kids := by unfold kidsOf; rw [hft]
  obtain ⟨tt, tb, kids⟩ := t
  simp only [T.tag_mk, T.bytes_mk, T.kids_mk] at hrx hkok hko ⊢
  obtain ⟨xs, hxs, hxl, hxk, hxr⟩ := hrx.2.2.cut
  simp only at hxs hxk
  have hkl : kids.length = xs.length := by rw [hxs, List.length_map]
  rw [hkl] at hxk ⊢
  have HPSZ := Lib.hid (HPS.out.keep (w' := w3) (fun b h1 h2 => hB3.block b (by omega)))
  have HPB3 := Lib.hid (show PB w.heap.size Prod.zero w3 from (hB3.block _ (by omega)).trans HPB.out)
  have HBW3 := Lib.hid (HB2.out.trans (hB3.mono HB2.out.size))
  have hz3 : P + 5 ≤ w3.heap.size := by have := hB3.size; omega
  have HFC3 := Lib.hid (show ∀ j u, (fieldCells P (P + 1) (P + 2) (P + 3))[j]? = some u → w3.cell? ⟨FB, j, none⟩ = some u from fun j u hu => (hB3.cell (p := ⟨FB, j, none⟩) (by have := HE.out; simp only; omega)).trans (HFC.out j u hu))
  have HXK := Lib.hid (show SlF (fun b => b < P ∨ P + 5 ≤ b) 3 w3 (.slice a4 xs.length c4) xs.length (xs.flatMap EC.cells) from hxk.weaken (fun b _ hb => by have := HSZ.out; omega))
  have HXR := Lib.hid (show ∀ x ∈ xs, RepX 2 (fun b => b < P ∨ P + 5 ≤ b) w3 x from fun x hx => (hxr x hx).weaken (fun b _ hb => by have := HSZ.out; omega))
  have HXS := Lib.hid hxs; clear hxs
  have HKO := Lib.hid hko; clear hko
  have HKOK := Lib.hid hkok; clear hkok
  clear hB3 hrx hxk hxr HPS HPB HB2 HFC HSZ HOK hft hkl
  generalize hN : zeros = ns0 at *
  have HN := Lib.hid hN; clear hN
  have hB4 : Below w3.heap.size w3 (w3.alloc (.cells #[.int .i64 tt, .slice a3 tb.length c3, .slice a4 xs.length c4] 67)) := (by repeat' (first | exact Below.refl _ _ | refine Below.alloc ?_ (by first | omega | (simp; done) | (simp; omega)) _ | refine Below.drew ?_ | refine below_drewN ?_ _ | refine Below.setCell ?_ (by first | omega | (simp; done) | (simp; omega)) _))
  have HPS4 := Lib.hid (HPSZ.out.keep (w' := (w3.alloc (.cells #[.int .i64 tt, .slice a3 tb.length c3, .slice a4 xs.length c4] 67))) (fun b h1 h2 => hB4.block b (by omega)))
  have HPB4 := Lib.hid (show PB w.heap.size Prod.zero (w3.alloc (.cells #[.int .i64 tt, .slice a3 tb.length c3, .slice a4 xs.length c4] 67)) from (hB4.block _ (by omega)).trans HPB3.out)
  have HB4 := Lib.hid (HBW3.out.trans (hB4.mono HBW3.out.size))
  have HFC4 := Lib.hid (show ∀ j u, (fieldCells P (P + 1) (P + 2) (P + 3))[j]? = some u → (w3.alloc (.cells #[.int .i64 tt, .slice a3 tb.length c3, .slice a4 xs.length c4] 67)).cell? ⟨FB, j, none⟩ = some u from fun j u hu => (hB4.cell (p := ⟨FB, j, none⟩) (by have := HE.out; simp only; omega)).trans (HFC3.out j u hu))
  have HXK4 := Lib.hid (HXK.out.keep hB4.size (fun b _ hl => hB4.block b hl))
  have HXR4 := Lib.hid (show ∀ x ∈ xs, RepX 2 (fun b => b < P ∨ P + 5 ≤ b) (w3.alloc (.cells #[.int .i64 tt, .slice a3 tb.length c3, .slice a4 xs.length c4] 67)) x from fun x hx => (HXR.out x hx).ofBelow hB4)
  have hz4 : P + 5 ≤ (w3.alloc (.cells #[.int .i64 tt, .slice a3 tb.length c3, .slice a4 xs.length c4] 67)).heap.size := by have := hB4.size; omega
  clear hB4 HPSZ HPB3 HBW3 HFC3 HXK HXR
  go_wp2_with fail
  generalize (w3.alloc (.cells #[.int .i64 tt, .slice a3 tb.length c3, .slice a4 xs.length c4] 67)) = w4 at *
  go_loopw [35] (fun i wr => ∃ k : Nat, k ≤ xs.length ∧ i = .int .i64 k ∧ ParRel P (decN ns0 (kids.take k)) w4 wr) (fun i _ => xs.length - (intOf i).toNat)
  case atStart => exact ⟨0, by omega, rfl, HPS4.out, Chg.refl _ _⟩
  case round =>
    obtain ⟨k, hk, rfl, hR⟩ := hrel
    have hwr : w4.heap.size ≤ wr.heap.size := hR.chg.size
    by_cases hlt : k < xs.length
    · obtain ⟨b, o, c', he, hb, hc'⟩ := ecs_at HXK4.out.1 hlt
      obtain ⟨rfl, -, rfl⟩ := Value.slice.inj he
      have hbF := HXK4.out.2 (by omega) b rfl
      obtain ⟨e0, e1, e2⟩ := ecs_cells HXK4.out.1 hlt
      replace e0 := (hR.chg.cell (p := ⟨b, o + k * 3, none⟩) hb (by simp only; omega)).trans e0
      replace e1 := (hR.chg.cell (p := ⟨b, o + k * 3 + 1, none⟩) hb (by simp only; omega)).trans e1
      replace e2 := (hR.chg.cell (p := ⟨b, o + k * 3 + 2, none⟩) hb (by simp only; omega)).trans e2
      have hx := HXR4.out xs[k] (List.getElem_mem hlt)
      have hkk : k < kids.length := by rw [HXS.out, List.length_map]; exact hlt
      have hxk : kids[k] = xs[k].t := by simp only [HXS.out, List.getElem_map]
      have hok := HKOK.out kids[k] (List.getElem_mem hkk)
      have hsn : decN ns0 (kids.take (k + 1)) = decStep (decN ns0 (kids.take k)) kids[k] := by rw [List.take_succ_eq_append_getElem hkk, decN_snoc]
      rw [hxk] at hok hsn
      generalize xs[k] = x at *
      obtain ⟨tag, bytes, kd, ab, cb, ak, ck, rfl, hx1, hx2, hx3⟩ := hx.cut
      simp only [EC.t, T.tag_mk, T.bytes_mk] at e0 e1 e2 hok hsn
      obtain ⟨ht1, ht2, hby, -⟩ := hok
      have hsl : Sl 1 wr (.slice ab bytes.length cb) bytes.length (u8s bytes) := (hx2.keep hR.chg.size (fun b hF hl => hR.chg.block b hl (by omega))).1
      obtain ⟨i, rfl⟩ : ∃ i : Nat, tag = (i : Int) + 1 := ⟨tag.toNat - 1, by omega⟩
      have HSN := Lib.hid hsn; clear hsn
      have HSL := Lib.hid hsl; clear hsl
      have HBY := Lib.hid hby; clear hby
      clear he hx hx2 hx3 hxk
      by_cases ht : (i : Int) + 1 ≤ 14
      · have hi : i < 14 := by omega
        have hf := (hR.chg.cell (p := ⟨FB, i * 3, none⟩) (by have := HE.out; simp only; omega) (by have := HE.out; simp only; omega)).trans (HFC4.out _ _ (fields_at P i hi))
        obtain ⟨hpc, hpf⟩ := hR.ps.at_ hi
        have hpl := World.block_lt_of_cell? _ _ hpc
        simp only at hpl
        generalize (decN ns0 (kids.take k)).getD i 0 = old at *
        have hBX := Lib.hid (show Below wr.heap.size wr (wr.alloc (.cells #[.int .i64 ((i : Int) + 1), .slice ab bytes.length cb, .slice ak kd.length ck] 67)) from (by repeat' (first | exact Below.refl _ _ | refine Below.alloc ?_ (by first | omega | (simp; done) | (simp; omega)) _ | refine Below.drew ?_ | refine below_drewN ?_ _ | refine Below.setCell ?_ (by first | omega | (simp; done) | (simp; omega)) _)))
        have HNEW := Lib.hid ((hR.ps.keep (w' := (wr.alloc (.cells #[.int .i64 ((i : Int) + 1), .slice ab bytes.length cb, .slice ak kd.length ck] 67))) (fun b h1 h2 => hBX.out.block b (by omega))).set hi (intP bytes).1)
        have hrng : P ≤ (pAt P i).1 ∧ (pAt P i).1 < P + 4 := by unfold pAt; (repeat' split) <;> simp
        have HR := Lib.hid hR; clear hR
        generalize hpa : pAt P i = q at *
        obtain ⟨ad, oo⟩ := q
        simp only at hf hpc hpf hpl hrng
        have hi0 : (0 : Int) ≤ i := by omega
        have hi1 : (i : Int) < 14 := by omega
        have HPA := Lib.hid hpa; clear hpa
        have hbw : FB < wr.heap.size := by have := HE.out; omega
        have hint := fun W (hB : Below wr.heap.size wr W) => Lib.hid (tlv_int (.slice ab bytes.length cb) bytes W (HSL.out.ofBelow hB) HBY.out (by omega))
        have HINT := Lib.hid hint; clear hint
        have b0 : (wr.alloc (.cells #[.int .i64 ((i : Int) + 1), .slice ab bytes.length cb, .slice ak kd.length ck] 67)).cell? ⟨wr.heap.size, 0, none⟩ = some (.int .i64 ((i : Int) + 1)) := by go_simp
        have b1 : (wr.alloc (.cells #[.int .i64 ((i : Int) + 1), .slice ab bytes.length cb, .slice ak kd.length ck] 67)).cell? ⟨wr.heap.size, 1, none⟩ = some (.slice ab bytes.length cb) := by go_simp
        have b2 := (hBX.out.cell (p := ⟨FB, i * 3, none⟩) hbw).trans hf
        have b3 := (hBX.out.cell (p := ⟨ad, oo, none⟩) hpl).trans hpc
        have b4 := (hBX.out.frozen (p := ⟨ad, oo, none⟩) hpl).trans hpf
        have n1 : ad ≠ wr.heap.size := by omega
        have n2 : ad ≠ FB := by
          have := HE.out; omega
        have hw1 : IntKind.i64.wrap ((i : Int) + 1 - 1) = i := by rw [IntKind.wrap_i64]; omega
        have hw2 : IntKind.i64.wrap (i : Int) = i := by rw [IntKind.wrap_i64]; omega
        go_wp2_with fail
        generalize (wr.alloc (.cells #[.int .i64 ((i : Int) + 1), .slice ab bytes.length cb, .slice ak kd.length ck] 67)) = w5 at *
        go_region_held3 (fun w' => w'.cell? ⟨wr.heap.size, 0, none⟩ = some (.int .i64 ((i : Int) + 1)) ∧ w'.cell? ⟨wr.heap.size, 1, none⟩ = some (.slice ab bytes.length cb) ∧ w'.cell? ⟨FB, i * 3, none⟩ = some (.pointer (some ⟨ad, oo, none⟩))) ((simp [World.cell?_setCell_other, n1, n2, b0, b1, b2]; done)) ((go_at_call 41; go_must (refine ((HINT.out _ (by exact hBX.out.drew)).out).mono ?_); rintro e w' ⟨rfl, rfl⟩))
        go_wp2_with fail
        go_roundw
        case rel =>
          refine ⟨k + 1, by omega, by go_num, ?_, ?_⟩
          · rw [HSN.out]
            have hst : decStep (decN ns0 (kids.take k)) (T.mk ((i : Int) + 1) bytes kd) = (decN ns0 (kids.take k)).set i (intP bytes).1 := by
              show (if (i : Int) + 1 ≤ 14 then (decN ns0 (kids.take k)).set (((i : Int) + 1).toNat - 1) (intP bytes).1 else _) = _
              rw [if_pos ht, show ((i : Int) + 1).toNat - 1 = i by omega]
            rw [hst]
            exact HNEW.out.keep (fun _ _ _ => rfl)
          · exact chg_drew (chg_setCell (HR.out.chg.trans (Chg.ofBelow hBX.out)) (fun _ => hrng) _)
        case measure => simp [intOf]; omega
      · have HR := Lib.hid hR; clear hR
        have hBX := Lib.hid (show Below wr.heap.size wr (wr.alloc (.cells #[.int .i64 ((i : Int) + 1), .slice ab bytes.length cb, .slice ak kd.length ck] 67)) from (by repeat' (first | exact Below.refl _ _ | refine Below.alloc ?_ (by first | omega | (simp; done) | (simp; omega)) _ | refine Below.drew ?_ | refine below_drewN ?_ _ | refine Below.setCell ?_ (by first | omega | (simp; done) | (simp; omega)) _)))
        go_wp2_with fail
        go_roundw
        case rel =>
          refine ⟨k + 1, by omega, by go_num, ?_, HR.out.chg.trans (Chg.ofBelow hBX.out)⟩
          rw [HSN.out]
          have hst : decStep (decN ns0 (kids.take k)) (T.mk ((i : Int) + 1) bytes kd) = decN ns0 (kids.take k) := by
            show (if (i : Int) + 1 ≤ 14 then _ else _) = _
            rw [if_neg ht]
          rw [hst]
          exact HR.out.ps.keep (fun b h1 h2 => hBX.out.block b (by omega))
        case measure => simp [intOf]; omega
    · obtain rfl : k = xs.length := by omega
      have hkt : kids.take xs.length = kids := List.take_of_length_le (by rw [HXS.out, List.length_map]; exact Nat.le_refl _)
      rw [hkt] at hR
      have HPSZ := Lib.hid hR.ps
      have HPBZ := Lib.hid (show PB w.heap.size Prod.zero wr from (hR.chg.block _ (by omega) (by omega)).trans HPB4.out)
      have HBZ := Lib.hid (HB4.out.trans (hR.chg.toBelow HB4.out.size (fun i hi e => by omega)))
      have HNS := Lib.hid (show parse2 es bs = parseFin (decN ns0 kids) bs by unfold parse2; rw [HKO.out, HN.out]; rfl)
      clear hR hkt HPS4 HPB4 HB4 HFC4 HXK4 HXR4 HKOK HKO HN HXS
      generalize decN ns0 kids = ns at *
      have hps := HPSZ.out
      have k0 : wr.cell? ⟨Bk, 0, none⟩ = some (.int .i64 (ns.getD 0 0)) := by rw [← HE.out.1, cell_blk hps.k]; rfl
      have k8 : wr.cell? ⟨Bo, 0, none⟩ = some (.int .i64 (ns.getD 8 0)) := by rw [← HE.out.2.1, ← HE.out.1, cell_blk hps.o]; rfl
      have k13 : wr.cell? ⟨Bb, 0, none⟩ = some (.int .i64 (ns.getD 13 0)) := by rw [← HE.out.2.2.1, ← HE.out.2.1, ← HE.out.1, cell_blk hps.b]; rfl
      obtain ⟨p0, p8, p13, f0, f8, f13⟩ := hps.ps
      have hPz : P < wr.heap.size := by have := hps.lt; omega
      have hRP : w.heap.size < wr.heap.size := by omega
      have hkz : Bk < wr.heap.size := by have := hps.lt; have := HE.out.1; omega
      have hoz : Bo < wr.heap.size := by have := hps.lt; have := HE.out; omega
      have hbz : Bb < wr.heap.size := by have := hps.lt; have := HE.out; omega
      have hnk : P ≠ Bk := by have := HE.out; omega
      have hno : P ≠ Bo := by have := HE.out; omega
      have hnb : P ≠ Bb := by have := HE.out; omega
      have hpb := hps.close
      clear hps
      generalize ns.getD 0 0 = n0 at *
      generalize ns.getD 8 0 = n8 at *
      generalize ns.getD 13 0 = n13 at *
      have HPBB := Lib.hid hpb; clear hpb
      go_upto_region 16 with fail
      have hpb := HPBB.out
      have hBz : Below w.heap.size w (((wr.setCell ⟨P, 0, none⟩ (.int .i64 n0)).setCell ⟨P, 8, none⟩ (.bool (n8 == 1))).setCell ⟨P, 13, none⟩ (.bool (n13 == 1))) := ((HBZ.out.setCell (by simp only; omega) _).setCell (by simp only; omega) _).setCell (by simp only; omega) _
      have hpr : PB w.heap.size Prod.zero (((wr.setCell ⟨P, 0, none⟩ (.int .i64 n0)).setCell ⟨P, 8, none⟩ (.bool (n8 == 1))).setCell ⟨P, 13, none⟩ (.bool (n13 == 1))) := by
        unfold PB; rw [Below.heap_setCell _ _ _ _ (by simp only; omega), Below.heap_setCell _ _ _ _ (by simp only; omega), Below.heap_setCell _ _ _ _ (by simp only; omega)]; exact HPBZ.out
      have hsz6 : wr.heap.size ≤ (((wr.setCell ⟨P, 0, none⟩ (.int .i64 n0)).setCell ⟨P, 8, none⟩ (.bool (n8 == 1))).setCell ⟨P, 13, none⟩ (.bool (n13 == 1))).heap.size := by simp
      generalize ((wr.setCell ⟨P, 0, none⟩ (.int .i64 n0)).setCell ⟨P, 8, none⟩ (.bool (n8 == 1))).setCell ⟨P, 13, none⟩ (.bool (n13 == 1)) = w5 at *
      have hpb3 := hpb
      have hpr3 := hpr
      have hBz3 := hBz
      clear hpb hpr hBz
      obtain ⟨w6, rfl⟩ : ∃ q : World, q = w5 := ⟨_, rfl⟩
      have hBz := Lib.hid hBz3; clear hBz3
      clear HPBB hsz6
      clear k0 k8 k13 p0 p8 p13 f0 f8 f13 hkz hoz hbz hnk hno hnb hPz hRP
      generalize hp : prodOf ns = p at *
      have cs := hpb3.cs
      have hP6 : P < w6.heap.size := (Array.getElem?_eq_some_iff.1 hpb3).1
      have hPB6 := Lib.hid hpb3
      have hPR6 := Lib.hid hpr3
      have HSP := Lib.hid (show parse2 es bs = if p.right = true ∧ p.form = bs then (p, 0) else (Prod.zero, 12) by rw [HNS.out]; unfold parseFin; rw [hp])
      clear hpb3 hpr3 hp
      have HFB := fun W => Lib.hid (form_bad p W)
      have HFR := fun W => Lib.hid (form_right p W)
      obtain ⟨pa, pb, pc, pd, pe, pf, pg, ph, po, pi, pj, pk, pl, pm⟩ := p
      simp only [Prod.v] at HFB HFR
      dsimp only at cs
      go_wp2_with fail
      cases hright : (Prod.right ⟨pa, pb, pc, pd, pe, pf, pg, ph, po, pi, pj, pk, pl, pm⟩) with
      | false =>
        refine ((HFB _).out hright).mono ?_
        rintro e w7 ⟨v7, rfl, hown, hB⟩
        have hsp := HSP.out
        rw [hright, if_neg (by simp)] at hsp
        have HSPF := Lib.hid hsp; clear hsp
        have hpr7 : PB w.heap.size Prod.zero w7 := (hB.block _ (by omega)).trans hPR6.out
        have HB7 := Lib.hid (hBz.out.trans (hB.mono hBz.out.size))
        clear hB hown cs HFB HFR HSP hright
        have cs := hpr7.cs
        have fs := hpr7.fs
        have HPB7 := Lib.hid hpr7; clear hpr7
        go_wp2_with fail
        refine bodyPost_ret (v := .tuple #[Prod.zero.v, .int .i64 12]) ?_ rfl ⟨by rw [HSPF.out], stP_below Prod.zero HB7.out (Nat.le_refl _)⟩
        have hp := HPB7.out.store Prod.zero
        change (results _ _).run _ (stP w.heap.size Prod.zero w7) = .ok _ (stP w.heap.size Prod.zero w7)
        generalize stP w.heap.size Prod.zero w7 = w5 at *
        have cs := hp.cs
        simp [results, Try.results20, go_sem, cs, Prod.v]
      | true =>
        refine ((HFR _).out hright).mono ?_
        rintro e w7 ⟨v7, rfl, hown, hB⟩
        obtain ⟨a7, c7, rfl⟩ := own_shape hown
        have hsp := HSP.out
        rw [hright] at hsp
        have hpr7 : PB w.heap.size Prod.zero w7 := (hB.block _ (by omega)).trans hPR6.out
        have hpb7 : PB P ⟨pa, pb, pc, pd, pe, pf, pg, ph, po, pi, pj, pk, pl, pm⟩ w7 := (hB.block _ hP6).trans hPB6.out
        have HB7 := Lib.hid (hBz.out.trans (hB.mono hBz.out.size))
        have hfl : (Prod.form ⟨pa, pb, pc, pd, pe, pf, pg, ph, po, pi, pj, pk, pl, pm⟩).length ≤ 140737488355328 := by
          have := Prod.inner_len _ hright; unfold Prod.form; simp; omega
        have HEQ := Lib.hid (equal_bytes _ _ _ bs w7 (own_sl hown (u8s_one _)) (HS.out.ofBelow HB7.out) hfl hl)
        clear hB hown cs HFB HFR HSP
        generalize hfm : (Prod.form ⟨pa, pb, pc, pd, pe, pf, pg, ph, po, pi, pj, pk, pl, pm⟩) = fm at *
        clear hfm hright
        have HPB7 := Lib.hid hpr7; clear hpr7
        have HPP7 := Lib.hid hpb7; clear hpb7
        have HSP := Lib.hid hsp; clear hsp
        go_wp2_with fail
        refine (HEQ.out).mono ?_
        rintro e w8 ⟨rfl, hw8⟩
        obtain ⟨hpr8, hpb8, HB8⟩ : PB w.heap.size Prod.zero w8 ∧ PB P ⟨pa, pb, pc, pd, pe, pf, pg, ph, po, pi, pj, pk, pl, pm⟩ w8 ∧ Hid (Below w.heap.size w w8) := by
          obtain ⟨nq, rfl⟩ := hw8
          exact ⟨HPB7.out, HPP7.out, Lib.hid (below_drewN HB7.out nq)⟩
        have cs := hpr8.cs
        have fs := hpr8.fs
        have HPB8 := Lib.hid hpr8; clear hpr8
        clear hw8 HPB7 HPP7 HB7 HEQ
        by_cases hfe : fm = bs
        · rw [decide_eq_true hfe]
          have hsp := HSP.out
          rw [if_pos (by first | exact ⟨rfl, hfe⟩ | exact ⟨trivial, hfe⟩)] at hsp
          have cp := hpb8.cs
          dsimp only at cp
          clear hpb8
          have HSPF := Lib.hid hsp; clear hsp
          clear hfe HSP
          go_wp2_with fail
          refine bodyPost_ret (v := .tuple #[Prod.v ⟨pa, pb, pc, pd, pe, pf, pg, ph, po, pi, pj, pk, pl, pm⟩, .int .i64 0]) ?_ rfl ⟨by rw [HSPF.out], stP_below ⟨pa, pb, pc, pd, pe, pf, pg, ph, po, pi, pj, pk, pl, pm⟩ HB8.out (Nat.le_refl _)⟩
          have hp := HPB8.out.store ⟨pa, pb, pc, pd, pe, pf, pg, ph, po, pi, pj, pk, pl, pm⟩
          change (results _ _).run _ (stP w.heap.size ⟨pa, pb, pc, pd, pe, pf, pg, ph, po, pi, pj, pk, pl, pm⟩ w8) = .ok _ (stP w.heap.size ⟨pa, pb, pc, pd, pe, pf, pg, ph, po, pi, pj, pk, pl, pm⟩ w8)
          generalize stP w.heap.size ⟨pa, pb, pc, pd, pe, pf, pg, ph, po, pi, pj, pk, pl, pm⟩ w8 = w5 at *
          clear cs fs cp
          have cs := hp.cs
          simp [results, Try.results20, go_sem, cs, Prod.v]
        · rw [decide_eq_false hfe]
          have hsp := HSP.out
          rw [if_neg (fun h => hfe h.2)] at hsp
          clear hpb8
          have HSPF := Lib.hid hsp; clear hsp
          clear hfe HSP
          go_wp2_with fail
          refine bodyPost_ret (v := .tuple #[Prod.zero.v, .int .i64 12]) ?_ rfl ⟨by rw [HSPF.out], stP_below Prod.zero HB8.out (Nat.le_refl _)⟩
          have hp := HPB8.out.store Prod.zero
          change (results _ _).run _ (stP w.heap.size Prod.zero w8) = .ok _ (stP w.heap.size Prod.zero w8)
          generalize stP w.heap.size Prod.zero w8 = w5 at *
          clear cs fs
          have cs := hp.cs
          simp [results, Try.results20, go_sem, cs, Prod.v]
end Go.Proofs.Ytlbfeoobeleobaa
