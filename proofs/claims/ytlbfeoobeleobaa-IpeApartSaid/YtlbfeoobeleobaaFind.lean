/- tlv.copied and tlv.Find. -/
import Derived.Test.YtlbfeoobeleobaaFindA
import Derived.Deep.RegionWith
import Derived.Deep.DeepCutAuto
namespace Go.Proofs.Ytlbfeoobeleobaa
open Go.RowKit
set_option linter.unusedVariables false
set_option linter.unusedSimpArgs false

theorem read3 {w : World} {b : Nat} {u0 u1 u2 : Value} (h0 : w.cell? ⟨b, 0, none⟩ = some u0) (h1 : w.cell? ⟨b, 1, none⟩ = some u1) (h2 : w.cell? ⟨b, 2, none⟩ = some u2) (x y z : Value) :
    (((w.setCell ⟨b, 0, none⟩ x).setCell ⟨b, 1, none⟩ y).setCell ⟨b, 2, none⟩ z).cell? ⟨b, 0, none⟩ = some x ∧ (((w.setCell ⟨b, 0, none⟩ x).setCell ⟨b, 1, none⟩ y).setCell ⟨b, 2, none⟩ z).cell? ⟨b, 1, none⟩ = some y ∧ (((w.setCell ⟨b, 0, none⟩ x).setCell ⟨b, 1, none⟩ y).setCell ⟨b, 2, none⟩ z).cell? ⟨b, 2, none⟩ = some z := by
  refine ⟨?_, ?_, ?_⟩
  · rw [World.cell?_setCell_other _ _ _ _ (by simp), World.cell?_setCell_other _ _ _ _ (by simp)]; exact World.cell?_setCell_same _ _ _ h0
  · rw [World.cell?_setCell_other _ _ _ _ (by simp)]; exact World.cell?_setCell_same _ _ _ (u := u1) (by rw [World.cell?_setCell_other _ _ _ _ (by simp)]; exact h1)
  · exact World.cell?_setCell_same _ _ _ (u := u2) (by rw [World.cell?_setCell_other _ _ _ _ (by simp), World.cell?_setCell_other _ _ _ _ (by simp)]; exact h2)

def CopPost (d : Nat) (F : Nat → Prop) (w : World) (tag : Int) (bytes : List Int) (kids : List T) (e : Ending) (w' : World) : Prop :=
  ∃ a1 c1 a2 c2, e = .returned (.agg #[.int .i64 tag, .slice a1 bytes.length c1, .slice a2 kids.length c2]) ∧ RepX d (fun b => F b ∨ w.heap.size ≤ b) w' ⟨tag, .slice a1 bytes.length c1, .slice a2 kids.length c2, bytes, kids⟩ ∧ Below w.heap.size w w'

def CopCut (d : Nat) (F : Nat → Prop) (w : World) (x : EC) (xs : List EC) (s1 s2 : Value) (wx : World) : Prop :=
  s1 = .pointer (some ⟨w.heap.size, 0, none⟩) ∧ s2 = .pointer (some ⟨w.heap.size + 1, 0, none⟩) ∧ ∃ v1 v2, wx.cell? ⟨w.heap.size, 0, none⟩ = some (.int .i64 x.tag) ∧ wx.cell? ⟨w.heap.size, 1, none⟩ = some v1 ∧ wx.cell? ⟨w.heap.size, 2, none⟩ = some v2 ∧
    Sl 1 wx v1 x.bytes.length (u8s x.bytes) ∧ (∀ b, v1.ownBlock = some b → w.heap.size + 2 ≤ b ∧ v2.ownBlock ≠ some b) ∧ wx.ownsRow (w.heap.size + 2) 67 3 v2 xs.length (xs.flatMap EC.cells) ∧ Below w.heap.size w wx ∧ w.heap.size + 2 ≤ wx.heap.size ∧
    wx.cell? ⟨w.heap.size + 1, 0, none⟩ = some (.int .i64 0) ∧ wx.cell? ⟨w.heap.size + 1, 1, none⟩ = some (.slice none 0 0) ∧ wx.cell? ⟨w.heap.size + 1, 2, none⟩ = some (.slice none 0 0) ∧ ∀ j, wx.frozen? ⟨w.heap.size + 1, j, none⟩ = false

def CopAll (d : Nat) : Prop := ∀ (F : Nat → Prop) (tag : Int) (bytes : List Int) (kids : List T) (ab : Option Addr) (cb : Nat) (ak : Option Addr) (ck : Nat) (w : World), RepX d F w ⟨tag, .slice ab bytes.length cb, .slice ak kids.length ck, bytes, kids⟩ →
    Calls Try.prog 61 #[.agg #[.int .i64 tag, .slice ab bytes.length cb, .slice ak kids.length ck]] w (CopPost d F w tag bytes kids)

set_option maxHeartbeats 4000000 in
set_option maxRecDepth 100000 in
theorem copied_core (d : Nat) (F : Nat → Prop) (tag : Int) (bytes : List Int) (kids : List T) (ab : Option Addr) (cb : Nat) (ak : Option Addr) (ck : Nat) (w : World) (xs : List EC) (ih : 0 < xs.length → CopAll d)
    (h1 : bytes.length ≤ 255) (h2 : SlF F 1 w (.slice ab bytes.length cb) bytes.length (u8s bytes)) (hxs : kids = xs.map EC.t) (hxl : xs.length ≤ 255) (hsk : SlF F 3 w (.slice ak kids.length ck) xs.length (xs.flatMap EC.cells)) (hxr : ∀ x ∈ xs, RepX d F w x) :
    Calls Try.prog 61 #[.agg #[.int .i64 tag, .slice ab bytes.length cb, .slice ak kids.length ck]] w (CopPost (d + 1) F w tag bytes kids) := by
  have hkl : kids.length = xs.length := by rw [hxs, List.length_map]
  rw [hkl] at hsk ⊢
  have HXS := Lib.hid hxs; clear hxs
  have HKL := Lib.hid hkl; clear hkl
  have IH := Lib.hid ih; clear ih
  have HB := Lib.hid h2.1
  have HK := Lib.hid hsk.1
  have HXR := Lib.hid hxr; clear hxr
  clear h2 hsk
  have hbb := Lib.hid (show Below w.heap.size w (w.alloc (.cells #[.int .i64 tag, .slice ab bytes.length cb, .slice ak xs.length ck] 67)) from (by repeat' (first | exact Below.refl _ _ | refine Below.alloc ?_ (by first | omega | (simp; done) | (simp; omega)) _ | refine Below.drew ?_ | refine below_drewN ?_ _ | refine Below.setCell ?_ (by first | omega | (simp; done) | (simp; omega)) _)))
  go_enter Try.func61, Try.ntmps61
  go_upto_region 1 with fail
  go_cut [1, 2] (fun s1 s2 wx => CopCut d F w ⟨tag, .slice ab bytes.length cb, .slice ak xs.length ck, bytes, kids⟩ xs s1 s2 wx)
  case first =>
    go_region_with (first | (go_at_call 63; refine (clone_byte _ bytes.length (u8s bytes) _ (HB.out.ofBelow (by repeat' (first | exact Below.refl _ _ | refine Below.alloc ?_ (by first | omega | (simp; done) | (simp; omega)) _ | refine Below.drew ?_))) (by omega)).mono ?_; rintro e w1 ⟨v1, rfl, hown1, hB1⟩; obtain ⟨a1, c1, rfl⟩ := own_shape hown1; obtain ⟨hc1, hf1⟩ := bcell hB1; have hz1 : w.heap.size + 2 ≤ w1.heap.size := (by have := hB1.size; simp at this; omega); have hz1' : w.heap.size < w1.heap.size := (by omega); have HB1 := Lib.hid hB1; have HO1 := Lib.hid hown1; have HBA := Lib.hid (show Below w.heap.size w w1 from Below.trans (b := ((w.alloc (.cells #[.int .i64 tag, .slice ab bytes.length cb, .slice ak xs.length ck] 67)).alloc (.cells #[.int .i64 0, .slice none 0 0, .slice none 0 0] 67)).drew) (by repeat' (first | exact Below.refl _ _ | refine Below.alloc ?_ (by first | omega | (simp; done) | (simp; omega)) _ | refine Below.drew ?_ | refine below_drewN ?_ _ | refine Below.setCell ?_ (by first | omega | (simp; done) | (simp; omega)) _)) (hB1.mono (by simp; omega))); clear hB1 hown1) | (go_at_call 69; refine (clone_Elem _ xs.length (xs.flatMap EC.cells) _ (HK.out.ofBelow HBA.out) (by omega)).mono ?_; rintro e w2 ⟨v2, rfl, hown2, hB2⟩; obtain ⟨a2, c2, rfl⟩ := own_shape hown2; obtain ⟨hc2, hf2⟩ := bcell hB2; have HB2 := Lib.hid hB2; have HO2 := Lib.hid hown2; clear hB2 hown2))
    all_goals
      go_wp2_with fail
      go_meet
      have g0 : w2.cell? ⟨w.heap.size, 0, none⟩ = some (.int .i64 tag) := by rw [hc2 _ _ hz1', hc1 _ _ (by simp; omega)]; go_simp
      have g1 : w2.cell? ⟨w.heap.size, 1, none⟩ = some (.slice ab bytes.length cb) := by rw [hc2 _ _ hz1', hc1 _ _ (by simp; omega)]; go_simp
      have g2 : w2.cell? ⟨w.heap.size, 2, none⟩ = some (.slice ak xs.length ck) := by rw [hc2 _ _ hz1', hc1 _ _ (by simp; omega)]; go_simp
      have hz3 : w.heap.size + 1 < w1.heap.size := by omega
      have g3 : w2.cell? ⟨w.heap.size + 1, 0, none⟩ = some (.int .i64 0) := by rw [hc2 _ _ hz3, hc1 _ _ (by simp)]; go_simp
      have g4 : w2.cell? ⟨w.heap.size + 1, 1, none⟩ = some (.slice none 0 0) := by rw [hc2 _ _ hz3, hc1 _ _ (by simp)]; go_simp
      have g5 : w2.cell? ⟨w.heap.size + 1, 2, none⟩ = some (.slice none 0 0) := by rw [hc2 _ _ hz3, hc1 _ _ (by simp)]; go_simp
      have gf : ∀ j, w2.frozen? ⟨w.heap.size + 1, j, none⟩ = false := fun j => by rw [hf2 _ _ hz3, hf1 _ _ (by simp)]; go_simp
      clear hc1 hc2 hf1 hf2
      refine ⟨rfl, rfl, .slice a1 bytes.length c1, .slice a2 xs.length c2, ?_, ?_, ?_, ?_, ?_, ?_, ?_, ?_, ?_, ?_, ?_, ?_⟩
      · rw [World.cell?_setCell_other _ _ _ _ (by simp), World.cell?_setCell_other _ _ _ _ (by simp)]; exact g0
      · rw [World.cell?_setCell_other _ _ _ _ (by simp), World.cell?_setCell_same _ _ _ g1]
      · exact World.cell?_setCell_same _ _ _ (u := .slice ak xs.length ck) (by rw [World.cell?_setCell_other _ _ _ _ (by simp)]; exact g2)
      · refine Sl.setCell (Sl.setCell ((own_sl HO1.out (u8s_one _)).ofBelow HB2.out) ?_ _) ?_ _ <;> (intro e; have := (HO1.out.lt _ e).1; simp at this; omega)
      · intro b hb; have := HO1.out.lt _ hb; simp at this; exact ⟨by omega, fun e => by have := (HO2.out.lt _ e).1; omega⟩
      · refine own_base (own_keep HO2.out (fun b hb _ => ?_)) hz1
        have hlt := (HO2.out.lt b hb).1
        rw [Below.heap_setCell _ _ _ _ (by simp; omega), Below.heap_setCell _ _ _ _ (by simp; omega)]
      · exact ((HBA.out.trans (HB2.out.mono (by omega))).setCell (Nat.le_refl _) _).setCell (Nat.le_refl _) _
      · have := HB2.out.size; simp; omega
      · rw [World.cell?_setCell_other _ _ _ _ (by simp), World.cell?_setCell_other _ _ _ _ (by simp)]; exact g3
      · rw [World.cell?_setCell_other _ _ _ _ (by simp), World.cell?_setCell_other _ _ _ _ (by simp)]; exact g4
      · rw [World.cell?_setCell_other _ _ _ _ (by simp), World.cell?_setCell_other _ _ _ _ (by simp)]; exact g5
      · intro j; rw [World.frozen?_setCell, World.frozen?_setCell]; exact gf j
  case rest =>
    obtain ⟨rfl, rfl, v1, v2, k0, k1, k2, ksl, kb, kown, kB, ksz, k3, k4, k5, kf⟩ := hcut
    obtain ⟨a1, c1, rfl⟩ := ksl.shape
    obtain ⟨a2, c2, rfl⟩ := own_shape kown
    simp only at k0 k1 k2 ksl kb
    have KSL := Lib.hid ksl; clear ksl
    have KBL := Lib.hid kb; clear kb
    have KB := Lib.hid kB; clear kB
    have KLT := Lib.hid kown.lt
    have KST := Lib.hid (cop_start (F := F) HXR.out KB.out kown)
    have KF := Lib.hid kf; clear kf
    clear kown
    have hb0 : w.heap.size < wc.heap.size := by omega
    have hb1 : w.heap.size + 1 < wc.heap.size := by omega
    go_wp2_with fail
    go_loopw [15] (fun i wr => ∃ (k : Nat) (ys : List EC), k ≤ xs.length ∧ i = .int .i64 k ∧ CopRel d F w.heap.size wc xs (.slice a2 xs.length c2) ys wr) (fun i _ => xs.length - (intOf i).toNat)
    case atStart => exact ⟨0, xs, by omega, rfl, KST.out⟩
    case round =>
      obtain ⟨k, ys, hk, rfl, hR⟩ := hrel
      have nb0 := fun e => (show False by have := (KLT.out w.heap.size e).1; omega)
      have nb1 := fun e => (show False by have := (KLT.out (w.heap.size + 1) e).1; omega)
      have r0 := (hR.chg.cell (p := ⟨w.heap.size, 0, none⟩) hb0 nb0).trans k0
      have r1 := (hR.chg.cell (p := ⟨w.heap.size, 1, none⟩) hb0 nb0).trans k1
      have r2 := (hR.chg.cell (p := ⟨w.heap.size, 2, none⟩) hb0 nb0).trans k2
      have hwr : wc.heap.size ≤ wr.heap.size := hR.chg.size
      by_cases hlt : k < xs.length
      · clear k0 k1 k2 k3 k4 k5 nb0 nb1 r0 r1
        obtain ⟨g, rfl, hgb, hgw, hgc⟩ := own_some hR.own (by omega)
        have hky : k < ys.length := by rw [hR.len]; exact hlt
        obtain ⟨⟨e0, e1, e2⟩, f0, f1, f2⟩ := own_get3 hR.own hky
        have hy := hR.rep ys[k] (List.getElem_mem _)
        have hyk := ys.getElem?_eq_getElem hky
        generalize ys[k] = y at *
        obtain ⟨tag', bytes', kids', ab', cb', ak', ck', rfl, hy1, hy2, hy3⟩ := hy.cut
        have HY := Lib.hid hy; clear hy
        have HYK := Lib.hid hyk; clear hyk
        have HR := Lib.hid hR; clear hR
        clear hy1 hy2 hy3
        simp only at e0 e1 e2
        have hbw : w.heap.size < wr.heap.size := by omega
        have hk0 : (0 : Int) ≤ k := by omega
        have hk1 : (k : Int) < xs.length := by omega
        go_wp2_with fail
        go_region_with ((go_at_call 61; go_must (refine (IH.out (by omega) _ tag' bytes' kids' ab' cb' ak' ck' _ (HY.out.ofBelow (Below.refl _ _).drew)).mono ?_); rintro e w3 ⟨a3, c3, a4, c4, rfl, hr3, hB3⟩; have q2 := (hB3.cell (p := ⟨w.heap.size, 2, none⟩) hbw).trans r2; have q3 := (hB3.cell (p := ⟨g, k * 3, none⟩) hgw).trans e0; have q4 := (hB3.cell (p := ⟨g, k * 3 + 1, none⟩) hgw).trans e1; have q5 := (hB3.cell (p := ⟨g, k * 3 + 2, none⟩) hgw).trans e2; have q6 := (hB3.frozen (p := ⟨g, k * 3, none⟩) hgw).trans f0; have q7 := (hB3.frozen (p := ⟨g, k * 3 + 1, none⟩) hgw).trans f1; have q8 := (hB3.frozen (p := ⟨g, k * 3 + 2, none⟩) hgw).trans f2; have HNEW := Lib.hid (cop_step HR.out (w3 := w3) ⟨hB3.os, hB3.tape, hB3.output, hB3.size, hB3.block⟩ hky HYK.out (Y := ⟨tag', .slice a3 bytes'.length c3, .slice a4 kids'.length c4, bytes', kids'⟩) rfl hr3 hgw (by omega)); clear hr3 hB3))
        all_goals
          go_wp2_with fail
          go_roundw
          case rel => exact ⟨k + 1, _, by omega, by go_num, HNEW.out⟩
          case measure => simp [intOf]; omega
      · obtain rfl : k = xs.length := by omega
        have r3 := (hR.chg.cell (p := ⟨w.heap.size + 1, 0, none⟩) hb1 nb1).trans k3
        have r4 := (hR.chg.cell (p := ⟨w.heap.size + 1, 1, none⟩) hb1 nb1).trans k4
        have r5 := (hR.chg.cell (p := ⟨w.heap.size + 1, 2, none⟩) hb1 nb1).trans k5
        have rf := fun j => (World.frozen?_of_block (a := ⟨w.heap.size + 1, j, none⟩) (hR.chg.block _ hb1 nb1)).trans (KF.out j)
        have rf0 := rf 0
        have rf1 := rf 1
        have rf2 := rf 2
        have HR := Lib.hid hR; clear hR
        clear k0 k1 k2 k3 k4 k5 nb0 nb1 rf
        go_wp2_with fail
        refine bodyPost_ret (v := .agg #[.int .i64 tag, .slice a1 bytes.length c1, .slice a2 xs.length c2]) ?_ rfl ?_
        · obtain ⟨z0, z1, z2⟩ := read3 r3 r4 r5 (.int .i64 tag) (.slice a1 bytes.length c1) (.slice a2 xs.length c2)
          generalize ((wr.setCell ⟨w.heap.size + 1, 0, none⟩ (.int .i64 tag)).setCell ⟨w.heap.size + 1, 1, none⟩ (.slice a1 bytes.length c1)).setCell ⟨w.heap.size + 1, 2, none⟩ (.slice a2 xs.length c2) = w5 at *
          simp [results, Try.results61, go_sem, z0, z1, z2]
        · have hend := cop_end (x := .int .i64 tag) (y := .slice a1 bytes.length c1) (z := .slice a2 xs.length c2) (tag := tag) HXS.out hxl h1 KSL.out KBL.out HR.out KB.out
          exact ⟨a1, c1, a2, c2, by rw [HKL.out], by rw [HKL.out]; exact hend.1, hend.2⟩

theorem RepL.down {d : Nat} {F : Nat → Prop} {w : World} {v : Value} (h : RepL (d + 1) F w v []) : RepL 0 F w v [] := by
  obtain ⟨xs, hxs, _, hs, _⟩ := h.cut
  obtain rfl : xs = [] := by simpa using hxs.symm
  exact ⟨rfl, hs.1⟩

theorem copied_any (d : Nat) : CopAll d := by
  induction d with
  | zero =>
    intro F tag bytes kids ab cb ak ck w hx
    obtain ⟨h1, h2, h3, h4⟩ := hx
    simp only at h1 h2 h3 h4
    subst h3
    refine (copied_core 0 F tag bytes [] ab cb ak ck w [] (fun h => by simp at h) h1 h2 rfl (by simp) ⟨h4, fun h => by simp at h⟩ (by simp)).mono ?_
    rintro e w' ⟨a1, c1, a2, c2, he, hr, hB⟩
    exact ⟨a1, c1, a2, c2, he, ⟨hr.1, hr.2.1, hr.2.2.down⟩, hB⟩
  | succ d ih =>
    intro F tag bytes kids ab cb ak ck w hx
    obtain ⟨h1, h2, h3⟩ := hx
    simp only at h1 h2 h3
    obtain ⟨xs, hxs, hxl, hsk, hxr⟩ := h3.cut
    exact copied_core d F tag bytes kids ab cb ak ck w xs (fun _ => ih) h1 h2 hxs hxl hsk hxr

end Go.Proofs.Ytlbfeoobeleobaa
