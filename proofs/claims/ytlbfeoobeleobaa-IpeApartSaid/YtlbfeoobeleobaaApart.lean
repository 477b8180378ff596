/- IpeApart answers true. -/
import Derived.Test.YtlbfeoobeleobaaAwake10
import Derived.Test.YtlbfeoobeleobaaApartP
namespace Go.Proofs.Ytlbfeoobeleobaa
open Go.RowKit
set_option linter.unusedVariables false
set_option linter.unusedSimpArgs false

theorem conv_sl {w : World} {v : Value} {bs : List Int} (h : Sl 1 w v bs.length (u8s bs)) (W : World) (hW : ∀ b o u, w.cell? ⟨b, o, none⟩ = some u → W.cell? ⟨b, o, none⟩ = some u) : (convert 27 9 v).run Try.prog W = .ok (.string (strOfNums bs)) W := by
  obtain ⟨h1, a, c, rfl, h2, h3, h4, h5⟩ := h
  rcases h5 with ⟨rfl, h5, rfl⟩ | ⟨b, o, s, rfl, h5, h6⟩
  · obtain rfl : bs = [] := List.eq_nil_of_length_eq_zero h5
    exact run_convert_bytes_nil W _ _ Try.underlying27 Try.underlying5 _ _ _ Try.underlying9
  · by_cases hn : 0 < bs.length
    · obtain ⟨rfl, hb⟩ := h6 hn
      exact run_convert_bytes_arg W _ _ Try.underlying27 Try.underlying5 b o _ c bs rfl (fun i hi => hW _ _ _ (h5 i _ (by rw [u8s, List.getElem?_map, List.getD_eq_getElem?_getD, List.getElem?_eq_getElem hi]; rfl))) _ Try.underlying9
    · obtain rfl : bs = [] := List.eq_nil_of_length_eq_zero (by omega)
      have h0 := run_convert_bytes_string W 27 9 5 (some ⟨b, o, s⟩) 0 c Try.underlying27 Try.underlying5 Try.underlying9
      simp only [List.length_nil]
      rw [h0, run_bytesToString W _ 0 c [] (by simp [loadCells, loadCellsFrom])]
      rfl

theorem str_ne {a b : ByteArray} (h : a ≠ b) : (a.toList == b.toList) = false := by
  rw [beq_eq_false_iff_ne, ByteArray.toList_eq, ByteArray.toList_eq]
  intro e
  exact h (by cases a; cases b; simp only [ByteArray.mk.injEq]; exact Array.toList_inj.1 e)
theorem cut_to {w : World} {a : Option Addr} {n c m : Nat} {cs : List Value} (H : Int) (h : Sl 1 w (.slice a n c) n cs) (hn : 0 < n) (hm : m ≤ n) (hH : H = m) :
    ∃ a', (∀ W, (Instr.slice 27 (.slice a n c) none (some (.int .i64 H)) none).run Try.prog W = .ok (.slice a' m c) W) ∧ Sl 1 w (.slice a' m c) m (cs.take m) := by
  obtain ⟨b, o, rfl, hb, hc⟩ := sl_some h hn
  refine ⟨if c = 0 then some ⟨b, o, none⟩ else some ⟨b, o + 0, none⟩, fun W => ?_, by have := sl_mid h (l := 0) (m := m) (by omega) rfl; simpa using this⟩
  subst hH
  have hE := el_byte
  have hcell : Try.prog.cellsOf 5 = 1 := by obtain ⟨hu, ⟨i, z, hi, hz, hs, hb, hc⟩, hp⟩ := hE; simp [Program.cellsOf, hi, hs]
  rw [run_slice_h W 27 _ n c (by rw [hE.elem]; exact hE.und) .i64 _ (by omega) (by omega), hE.elem]
  obtain ⟨hu, ⟨i, z, hi, hz, hs, hb, hc⟩, hp⟩ := hE
  rw [run_sizeOf W hi, hcell]
  simp only [Result.andThen, sliced, Int.toNat_natCast, Nat.zero_mul, Option.map_some, Addr.add_lit, Nat.sub_zero]

theorem PB.of_alloc (p : Prod) (w : World) : PB w.heap.size p (w.alloc (.cells p.cells.toArray 24)) := heap_alloc_new w _
theorem PB.keep {b : Nat} {p : Prod} {w w' : World} (h : PB b p w) (hB : Below w.heap.size w w') : PB b p w' := (hB.block _ (Array.getElem?_eq_some_iff.1 h).1).trans h
theorem PB.lt {b : Nat} {p : Prod} {w : World} (h : PB b p w) : b < w.heap.size := (Array.getElem?_eq_some_iff.1 h).1

set_option maxHeartbeats 4000000 in
set_option maxRecDepth 100000 in
theorem apart_1 (p q : Prod) (w : World) (hpr : p.right = false) : Calls Try.prog 3 #[p.v, q.v] w (RetB true w) := by
  have hB0 : Below w.heap.size w ((w.alloc (.cells p.cells.toArray 24)).alloc (.cells q.cells.toArray 24)) := (by repeat' (first | exact Below.refl _ _ | refine Below.alloc ?_ (by first | omega | (simp; done) | (simp; omega)) _ | refine Below.drew ?_ | refine below_drewN ?_ _ | refine Below.setCell ?_ (by first | omega | (simp; done) | (simp; omega)) _))
  have hp0 : PB w.heap.size p ((w.alloc (.cells p.cells.toArray 24)).alloc (.cells q.cells.toArray 24)) := (PB.of_alloc p w).keep ((Below.refl _ _).alloc (Nat.le_refl _) _)
  have hq0 : PB (w.heap.size + 1) q ((w.alloc (.cells p.cells.toArray 24)).alloc (.cells q.cells.toArray 24)) := by simpa [PB] using PB.of_alloc q (w.alloc (.cells p.cells.toArray 24))
  have HP := Lib.hid (fun W => ref_right p W)
  have HQ := Lib.hid (fun W => ref_right q W)
  rw [hpr] at HP
  have HPR := Lib.hid hpr; clear hpr
  go_enter Try.func3, Try.ntmps3
  go_upto_region 1 with fail
  change Code.wp _ _ _ _ ((w.alloc (.cells p.cells.toArray 24)).alloc (.cells q.cells.toArray 24))
  generalize (w.alloc (.cells p.cells.toArray 24)).alloc (.cells q.cells.toArray 24) = w0 at *
  go_wp2_with fail
  refine (awake_true w0).mono ?_
  rintro e w1 ⟨rfl, hB1⟩
  have hp1 := hp0.keep hB1
  have hq1 := hq0.keep hB1
  have HB1 := Lib.hid (hB0.trans (hB1.mono hB0.size))
  clear hB0 hp0 hq0 hB1
  have cp := hp1.cs
  have HP1 := Lib.hid hp1; clear hp1
  have HQ1 := Lib.hid hq1; clear hq1
  go_wp2_with fail
  refine (HP.out w1).mono ?_
  rintro e w2 ⟨rfl, hB2⟩
  have hp2 := HP1.out.keep hB2
  have hq2 := HQ1.out.keep hB2
  have HB2 := Lib.hid (HB1.out.trans (hB2.mono HB1.out.size))
  clear hB2 cp HP1 HQ1 HB1
  clear hp2 hq2
  go_wp2_with fail
  refine (awake_true w2).mono ?_
  rintro e w3 ⟨rfl, hB3⟩
  have HB3 := Lib.hid (HB2.out.trans (hB3.mono HB2.out.size))
  clear hB3
  go_wp2_with fail
  go_ret
  exact ⟨rfl, HB3.out⟩

set_option maxHeartbeats 4000000 in
set_option maxRecDepth 100000 in
theorem apart_2 (p q : Prod) (w : World) (hpr : p.right = true) (hqr : q.right = false) : Calls Try.prog 3 #[p.v, q.v] w (RetB true w) := by
  have hB0 : Below w.heap.size w ((w.alloc (.cells p.cells.toArray 24)).alloc (.cells q.cells.toArray 24)) := (by repeat' (first | exact Below.refl _ _ | refine Below.alloc ?_ (by first | omega | (simp; done) | (simp; omega)) _ | refine Below.drew ?_ | refine below_drewN ?_ _ | refine Below.setCell ?_ (by first | omega | (simp; done) | (simp; omega)) _))
  have hp0 : PB w.heap.size p ((w.alloc (.cells p.cells.toArray 24)).alloc (.cells q.cells.toArray 24)) := (PB.of_alloc p w).keep ((Below.refl _ _).alloc (Nat.le_refl _) _)
  have hq0 : PB (w.heap.size + 1) q ((w.alloc (.cells p.cells.toArray 24)).alloc (.cells q.cells.toArray 24)) := by simpa [PB] using PB.of_alloc q (w.alloc (.cells p.cells.toArray 24))
  have HP := Lib.hid (fun W => ref_right p W)
  have HQ := Lib.hid (fun W => ref_right q W)
  rw [hpr] at HP
  rw [hqr] at HQ
  have HQR := Lib.hid hqr; clear hqr
  have HPR := Lib.hid hpr; clear hpr
  go_enter Try.func3, Try.ntmps3
  go_upto_region 1 with fail
  change Code.wp _ _ _ _ ((w.alloc (.cells p.cells.toArray 24)).alloc (.cells q.cells.toArray 24))
  generalize (w.alloc (.cells p.cells.toArray 24)).alloc (.cells q.cells.toArray 24) = w0 at *
  go_wp2_with fail
  refine (awake_true w0).mono ?_
  rintro e w1 ⟨rfl, hB1⟩
  have hp1 := hp0.keep hB1
  have hq1 := hq0.keep hB1
  have HB1 := Lib.hid (hB0.trans (hB1.mono hB0.size))
  clear hB0 hp0 hq0 hB1
  have cp := hp1.cs
  have HP1 := Lib.hid hp1; clear hp1
  have HQ1 := Lib.hid hq1; clear hq1
  go_wp2_with fail
  refine (HP.out w1).mono ?_
  rintro e w2 ⟨rfl, hB2⟩
  have hp2 := HP1.out.keep hB2
  have hq2 := HQ1.out.keep hB2
  have HB2 := Lib.hid (HB1.out.trans (hB2.mono HB1.out.size))
  clear hB2 cp HP1 HQ1 HB1
  have cq := hq2.cs
  have HP2 := Lib.hid hp2; clear hp2
  have HQ2 := Lib.hid hq2; clear hq2
  go_wp2_with fail
  refine (HQ.out w2).mono ?_
  rintro e w3 ⟨rfl, hB3⟩
  have hp3 := HP2.out.keep hB3
  have hq3 := HQ2.out.keep hB3
  have HB3 := Lib.hid (HB2.out.trans (hB3.mono HB2.out.size))
  clear hB3 cq HP2 HQ2 HB2
  clear hp3 hq3
  go_wp2_with fail
  refine (awake_true w3).mono ?_
  rintro e w4 ⟨rfl, hB4⟩
  have HB4 := Lib.hid (HB3.out.trans (hB4.mono HB3.out.size))
  clear hB4
  go_wp2_with fail
  go_ret
  exact ⟨rfl, HB4.out⟩

set_option maxHeartbeats 4000000 in
set_option maxRecDepth 100000 in
theorem apart_3 (p q : Prod) (w : World) (hpr : p.right = true) (hqr : q.right = true) (hpq : p = q) : Calls Try.prog 3 #[p.v, q.v] w (RetB true w) := by
  have hB0 : Below w.heap.size w ((w.alloc (.cells p.cells.toArray 24)).alloc (.cells q.cells.toArray 24)) := (by repeat' (first | exact Below.refl _ _ | refine Below.alloc ?_ (by first | omega | (simp; done) | (simp; omega)) _ | refine Below.drew ?_ | refine below_drewN ?_ _ | refine Below.setCell ?_ (by first | omega | (simp; done) | (simp; omega)) _))
  have hp0 : PB w.heap.size p ((w.alloc (.cells p.cells.toArray 24)).alloc (.cells q.cells.toArray 24)) := (PB.of_alloc p w).keep ((Below.refl _ _).alloc (Nat.le_refl _) _)
  have hq0 : PB (w.heap.size + 1) q ((w.alloc (.cells p.cells.toArray 24)).alloc (.cells q.cells.toArray 24)) := by simpa [PB] using PB.of_alloc q (w.alloc (.cells p.cells.toArray 24))
  have HP := Lib.hid (fun W => ref_right p W)
  have HQ := Lib.hid (fun W => ref_right q W)
  rw [hpr] at HP
  rw [hqr] at HQ
  have HQR := Lib.hid hqr; clear hqr
  have HPR := Lib.hid hpr; clear hpr
  have HPQ0 := Lib.hid hpq; clear hpq
  go_enter Try.func3, Try.ntmps3
  go_upto_region 1 with fail
  change Code.wp _ _ _ _ ((w.alloc (.cells p.cells.toArray 24)).alloc (.cells q.cells.toArray 24))
  generalize (w.alloc (.cells p.cells.toArray 24)).alloc (.cells q.cells.toArray 24) = w0 at *
  go_wp2_with fail
  refine (awake_true w0).mono ?_
  rintro e w1 ⟨rfl, hB1⟩
  have hp1 := hp0.keep hB1
  have hq1 := hq0.keep hB1
  have HB1 := Lib.hid (hB0.trans (hB1.mono hB0.size))
  clear hB0 hp0 hq0 hB1
  have cp := hp1.cs
  have HP1 := Lib.hid hp1; clear hp1
  have HQ1 := Lib.hid hq1; clear hq1
  go_wp2_with fail
  refine (HP.out w1).mono ?_
  rintro e w2 ⟨rfl, hB2⟩
  have hp2 := HP1.out.keep hB2
  have hq2 := HQ1.out.keep hB2
  have HB2 := Lib.hid (HB1.out.trans (hB2.mono HB1.out.size))
  clear hB2 cp HP1 HQ1 HB1
  have cq := hq2.cs
  have HP2 := Lib.hid hp2; clear hp2
  have HQ2 := Lib.hid hq2; clear hq2
  go_wp2_with fail
  refine (HQ.out w2).mono ?_
  rintro e w3 ⟨rfl, hB3⟩
  have hp3 := HP2.out.keep hB3
  have hq3 := HQ2.out.keep hB3
  have HB3 := Lib.hid (HB2.out.trans (hB3.mono HB2.out.size))
  clear hB3 cq HP2 HQ2 HB2
  have cp := hp3.cs
  have HP3 := Lib.hid hp3; clear hp3
  have HQ3 := Lib.hid hq3; clear hq3
  clear HP HQ
  go_wp2_with fail
  refine (form_right p w3 HPR.out).mono ?_
  rintro e w4 ⟨v4, rfl, hown4, hB4⟩
  obtain ⟨a4, c4, rfl⟩ := own_shape hown4
  have hp4 := HP3.out.keep hB4
  have hq4 := HQ3.out.keep hB4
  have HB4 := Lib.hid (HB3.out.trans (hB4.mono HB3.out.size))
  have HS4 := Lib.hid (own_sl hown4 (u8s_one _))
  clear hB4 cp HP3 HQ3 HB3 hown4
  have cq := hq4.cs
  have HP4 := Lib.hid hp4; clear hp4
  have HQ4 := Lib.hid hq4; clear hq4
  go_wp2_with fail
  refine (form_right q w4 HQR.out).mono ?_
  rintro e w5 ⟨v5, rfl, hown5, hB5⟩
  obtain ⟨a5, c5, rfl⟩ := own_shape hown5
  have hp5 := HP4.out.keep hB5
  have hq5 := HQ4.out.keep hB5
  have HB5 := Lib.hid (HB4.out.trans (hB5.mono HB4.out.size))
  have HS5 := Lib.hid (own_sl hown5 (u8s_one _))
  have HS4' := Lib.hid (HS4.out.ofBelow hB5)
  clear hB5 cq HP4 HQ4 HB4 hown5 HS4
  have cp := hp5.cs
  have cq := hq5.cs
  clear hp5 hq5
  have hl1 := Prod.form_short p HPR.out
  have hl2 := Prod.form_short q HQR.out
  have hm1 : 2 ≤ p.form.length := by rw [Prod.form_len]; omega
  have hm2 : 2 ≤ q.form.length := by rw [Prod.form_len]; omega
  have HC1 := Lib.hid (fun W hW => conv_sl HS4'.out W hW)
  have HC2 := Lib.hid (fun W hW => conv_sl HS5.out W hW)
  have HPF := Lib.hid (fun (n : Nat) hn h1 h2 hm => Prod.form_prefix HPR.out HQR.out (n := n) hn h1 h2 hm)
  have HBF := Lib.hid (And.intro (bytes_of_form p HPR.out) (bytes_of_form q HQR.out))
  have heq := fun W => prod_eql p q W
  simp only [Prod.v] at heq
  have hpq := HPQ0.out
  have he : prodEqB p q = true := decide_eq_true hpq
  rw [he] at heq
  have hc1 : ∀ n, (convert 27 9 (.slice a4 p.form.length c4)).run Try.prog (w5.drewN n) = .ok (.string (strOfNums p.form)) (w5.drewN n) := fun n => HC1.out _ (fun _ _ _ h => h)
  have hc2 : ∀ n, (convert 27 9 (.slice a5 q.form.length c5)).run Try.prog (w5.drewN n) = .ok (.string (strOfNums q.form)) (w5.drewN n) := fun n => HC2.out _ (fun _ _ _ h => h)
  have hqf : q.form = p.form := by rw [hpq]
  rw [hqf] at hc2 hl2 hm2 HS5 ⊢
  clear hqf
  generalize hx3 : strOfNums p.form = s1 at *
  clear hx3
  have HPQ := Lib.hid hpq; clear hpq
  clear HS4' HS5 HC1 HC2 HPF HBF
  generalize p.form.length = lp at *
  have hd : decide ((lp : Int) ≤ 59) = true := by simp; omega
  have hb1 : (s1.toList == s1.toList) = true := by simp
  go_wp2_with fail
  go_quiet (fail)
  go_wp2_with fail
  go_ret
  exact ⟨rfl, below_drewN HB5.out _⟩

end Go.Proofs.Ytlbfeoobeleobaa
