/- IpeApart at unlike right products. -/
import Derived.Test.YtlbfeoobeleobaaApart
namespace Go.Proofs.Ytlbfeoobeleobaa
open Go.RowKit
set_option linter.unusedVariables false
set_option linter.unusedSimpArgs false

set_option maxHeartbeats 4000000 in
set_option maxRecDepth 100000 in
theorem apart_6 (p q : Prod) (w : World) (hpr : p.right = true) (hqr : q.right = true) (hpq : ¬ p = q) (hlt : q.form.length < p.form.length) : Calls Try.prog 3 #[p.v, q.v] w (RetB true w) := by
  have hB0 : Below w.heap.size w ((w.alloc (.cells p.cells.toArray 24)).alloc (.cells q.cells.toArray 24)) := (by repeat' (first | exact Below.refl _ _ | refine Below.alloc ?_ (by first | omega | (simp; done) | (simp; omega)) _ | refine Below.drew ?_ | refine below_drewN ?_ _ | refine Below.setCell ?_ (by first | omega | (simp; done) | (simp; omega)) _))
  have hp0 : PB w.heap.size p ((w.alloc (.cells p.cells.toArray 24)).alloc (.cells q.cells.toArray 24)) := (PB.of_alloc p w).keep ((Below.refl _ _).alloc (Nat.le_refl _) _)
  have hq0 : PB (w.heap.size + 1) q ((w.alloc (.cells p.cells.toArray 24)).alloc (.cells q.cells.toArray 24)) := by simpa [PB] using PB.of_alloc q (w.alloc (.cells p.cells.toArray 24))
  have HP := Lib.hid (fun W => ref_right p W)
  have HQ := Lib.hid (fun W => ref_right q W)
  rw [hpr] at HP
  rw [hqr] at HQ
  have HQR := Lib.hid hqr; clear hqr
  have HPR := Lib.hid hpr; clear hpr
  have HPQ0 := Lib.hid hpq; clear hpq
  have HLT0 := Lib.hid hlt; clear hlt
  go_enter Try.func3, Try.ntmps3
  go_upto_region 1 with fail
  change Code.wp _ _ _ _ ((w.alloc (.cells p.cells.toArray 24)).alloc (.cells q.cells.toArray 24))
  generalize (w.alloc (.cells p.cells.toArray 24)).alloc (.cells q.cells.toArray 24) = w0 at *
  go_wp2_with fail
  refine (awake_true w0).mono ?_
  rintro e w1 ⟨rfl, hB1⟩
  have hp1 := hp0.keep hB1
  have hq1 := hq0.keep hB1
  have HB1 := Lib.hid (hB0.trans (hB1.mono hB0.size))
  clear hB0 hp0 hq0 hB1
  have cp := hp1.cs
  have HP1 := Lib.hid hp1; clear hp1
  have HQ1 := Lib.hid hq1; clear hq1
  go_wp2_with fail
  refine (HP.out w1).mono ?_
  rintro e w2 ⟨rfl, hB2⟩
  have hp2 := HP1.out.keep hB2
  have hq2 := HQ1.out.keep hB2
  have HB2 := Lib.hid (HB1.out.trans (hB2.mono HB1.out.size))
  clear hB2 cp HP1 HQ1 HB1
  have cq := hq2.cs
  have HP2 := Lib.hid hp2; clear hp2
  have HQ2 := Lib.hid hq2; clear hq2
  go_wp2_with fail
  refine (HQ.out w2).mono ?_
  rintro e w3 ⟨rfl, hB3⟩
  have hp3 := HP2.out.keep hB3
  have hq3 := HQ2.out.keep hB3
  have HB3 := Lib.hid (HB2.out.trans (hB3.mono HB2.out.size))
  clear hB3 cq HP2 HQ2 HB2
  have cp := hp3.cs
  have HP3 := Lib.hid hp3; clear hp3
  have HQ3 := Lib.hid hq3; clear hq3
  clear HP HQ
  go_wp2_with fail
  refine (form_right p w3 HPR.out).mono ?_
  rintro e w4 ⟨v4, rfl, hown4, hB4⟩
  obtain ⟨a4, c4, rfl⟩ := own_shape hown4
  have hp4 := HP3.out.keep hB4
  have hq4 := HQ3.out.keep hB4
  have HB4 := Lib.hid (HB3.out.trans (hB4.mono HB3.out.size))
  have HS4 := Lib.hid (own_sl hown4 (u8s_one _))
  clear hB4 cp HP3 HQ3 HB3 hown4
  have cq := hq4.cs
  have HP4 := Lib.hid hp4; clear hp4
  have HQ4 := Lib.hid hq4; clear hq4
  go_wp2_with fail
  refine (form_right q w4 HQR.out).mono ?_
  rintro e w5 ⟨v5, rfl, hown5, hB5⟩
  obtain ⟨a5, c5, rfl⟩ := own_shape hown5
  have hp5 := HP4.out.keep hB5
  have hq5 := HQ4.out.keep hB5
  have HB5 := Lib.hid (HB4.out.trans (hB5.mono HB4.out.size))
  have HS5 := Lib.hid (own_sl hown5 (u8s_one _))
  have HS4' := Lib.hid (HS4.out.ofBelow hB5)
  clear hB5 cq HP4 HQ4 HB4 hown5 HS4
  have cp := hp5.cs
  have cq := hq5.cs
  clear hp5 hq5
  have hl1 := Prod.form_short p HPR.out
  have hl2 := Prod.form_short q HQR.out
  have hm1 : 2 ≤ p.form.length := by rw [Prod.form_len]; omega
  have hm2 : 2 ≤ q.form.length := by rw [Prod.form_len]; omega
  have HC1 := Lib.hid (fun W hW => conv_sl HS4'.out W hW)
  have HC2 := Lib.hid (fun W hW => conv_sl HS5.out W hW)
  have HPF := Lib.hid (fun (n : Nat) hn h1 h2 hm => Prod.form_prefix HPR.out HQR.out (n := n) hn h1 h2 hm)
  have HBF := Lib.hid (And.intro (bytes_of_form p HPR.out) (bytes_of_form q HQR.out))
  have heq := fun W => prod_eql p q W
  simp only [Prod.v] at heq
  have hpq := HPQ0.out
  have he : prodEqB p q = false := decide_eq_false hpq
  rw [he] at heq
  have hc1 : ∀ n, (convert 27 9 (.slice a4 p.form.length c4)).run Try.prog (w5.drewN n) = .ok (.string (strOfNums p.form)) (w5.drewN n) := fun n => HC1.out _ (fun _ _ _ h => h)
  have hc2 : ∀ n, (convert 27 9 (.slice a5 q.form.length c5)).run Try.prog (w5.drewN n) = .ok (.string (strOfNums q.form)) (w5.drewN n) := fun n => HC2.out _ (fun _ _ _ h => h)
  have hne : strOfNums p.form ≠ strOfNums q.form := fun h => hpq (Prod.form_inj HPR.out HQR.out (strOf_inj HBF.out.1 HBF.out.2 h))
  have hlt := HLT0.out
  have hne2 : strOfNums (p.form.take q.form.length) ≠ strOfNums (q.form.take q.form.length) := fun h => hpq (HPF.out q.form.length (by omega) (by omega) (by omega) (by omega) (strOf_inj (fun x hx => HBF.out.1 x (List.mem_of_mem_take hx)) (fun x hx => HBF.out.2 x (List.mem_of_mem_take hx)) h))
  obtain ⟨a6, hs1, hsl6⟩ := cut_to ((q.form.length : Nat) : Int) HS4'.out (by omega) (show q.form.length ≤ p.form.length by omega) rfl
  obtain ⟨a7, hs2, hsl7⟩ := cut_to ((q.form.length : Nat) : Int) HS5.out (by omega) (show q.form.length ≤ q.form.length by omega) rfl
  have ht1 : (p.form.take q.form.length).length = q.form.length := by first | (simp; done) | (simp; omega)
  have ht2 : (q.form.take q.form.length).length = q.form.length := by first | (simp; done) | (simp; omega)
  rw [u8s_take] at hsl6 hsl7
  have hc3 : ∀ k, (convert 27 9 (.slice a6 q.form.length c4)).run Try.prog (w5.drewN k) = .ok (.string (strOfNums (p.form.take q.form.length))) (w5.drewN k) := fun k => conv_sl (bs := p.form.take q.form.length) (by rw [ht1]; exact hsl6) _ (fun _ _ _ h => h)
  have hc4 : ∀ k, (convert 27 9 (.slice a7 q.form.length c5)).run Try.prog (w5.drewN k) = .ok (.string (strOfNums (q.form.take q.form.length))) (w5.drewN k) := fun k => conv_sl (bs := q.form.take q.form.length) (by rw [ht2]; exact hsl7) _ (fun _ _ _ h => h)
  clear hsl6 hsl7 ht1 ht2
  generalize hx1 : strOfNums (p.form.take q.form.length) = s3 at *
  generalize hx2 : strOfNums (q.form.take q.form.length) = s4 at *
  generalize hx3 : strOfNums p.form = s1 at *
  generalize hx4 : strOfNums q.form = s2 at *
  clear hx1 hx2 hx3 hx4
  generalize p.form.length = lp at *
  generalize q.form.length = lq at *
  have hb1 := str_ne hne
  have hb2 := str_ne hne2
  have hb3 : (s3.toList != s4.toList) = true := by rw [bne, hb2]; rfl
  have hd : decide ((lp : Int) ≤ 59) = true := by simp; omega
  have HPQ := Lib.hid hpq; clear hpq
  clear hne hne2 HS4' HS5 HC1 HC2 HPF HBF
  go_wp2_with fail
  go_quiet (fail)
  go_wp2_with fail
  go_ret
  exact ⟨rfl, below_drewN HB5.out _⟩

end Go.Proofs.Ytlbfeoobeleobaa
