/- awake answers true. -/
import Derived.Test.YtlbfeoobeleobaaLawA
import Derived.Test.YtlbfeoobeleobaaOut
import Derived.Deep.RegionHeld3
namespace Go.Proofs.Ytlbfeoobeleobaa
open Go.RowKit
set_option linter.unusedVariables false
set_option linter.unusedSimpArgs false

def tIn : Prod := ⟨1, 2, 9, 7, 1, 500, 0, 0, true, 4, 1, 1, 0, false⟩
def tOut : Prod := ⟨1, 2, 9, 7, 1, 300, 0, 0, false, 0, 0, 2, 0, false⟩
theorem purse_in : inR purseP 4 1 = (tIn, 0) := by decide
theorem purse_out : outR tIn 200 = (tOut, 0) := by decide
theorem tIn_right : tIn.right = true := by decide
theorem bytes_of_form (p : Prod) (h : p.right = true) : BytesOk p.form := by
  have hi : ∀ (i : Nat) (ns : List Int), i + ns.length ≤ 14 → (∀ n ∈ ns, (numB n).length ≤ 4) → BytesOk (innerOf i ns) := by
    intro i ns
    induction ns generalizing i with
    | nil => intro _ _ x hx; simp [innerOf] at hx
    | cons n ns ih =>
      intro h1 h2
      simp only [List.length_cons] at h1
      have h3 := ih (i + 1) (by omega) (fun m hm => h2 m (by simp [hm]))
      have h4 := h2 n (by simp)
      simp only [innerOf]; split
      · exact h3
      · intro x hx
        simp only [List.mem_append, List.mem_cons, List.not_mem_nil, or_false] at hx
        rcases hx with ((rfl | rfl) | hx) | hx
        · omega
        · omega
        · exact numB_byte n x hx
        · exact h3 x hx
  have h5 := hi 0 p.nums (by rw [Prod.nums_len]; omega) (Prod.numB_len p h)
  have h6 := Prod.inner_len p h
  intro x hx
  simp only [Prod.form, List.mem_append, List.mem_cons, List.not_mem_nil, or_false] at hx
  rcases hx with (rfl | rfl) | hx
  · omega
  · omega
  · exact h5 x hx

theorem aw_purse (pb g bt bu : Nat) (W : World) (h : W.cell? ⟨pb, 0, none⟩ = some (.int .i64 1) ∧ W.cell? ⟨pb, 1, none⟩ = some (.int .i64 2) ∧ W.cell? ⟨pb, 2, none⟩ = some (.int .i64 9) ∧ W.cell? ⟨pb, 3, none⟩ = some (.int .i64 7) ∧ W.cell? ⟨pb, 4, none⟩ = some (.int .i64 1) ∧ W.cell? ⟨pb, 5, none⟩ = some (.int .i64 500) ∧ W.cell? ⟨pb, 6, none⟩ = some (.int .i64 0) ∧ W.cell? ⟨pb, 7, none⟩ = some (.int .i64 0) ∧ W.cell? ⟨pb, 8, none⟩ = some (.bool false) ∧ W.cell? ⟨pb, 9, none⟩ = some (.int .i64 0) ∧ W.cell? ⟨pb, 10, none⟩ = some (.int .i64 0) ∧ W.cell? ⟨pb, 11, none⟩ = some (.int .i64 0) ∧ W.cell? ⟨pb, 12, none⟩ = some (.int .i64 0) ∧ W.cell? ⟨pb, 13, none⟩ = some (.bool false) ∧ W.cell? ⟨g, 0, none⟩ = some (.int .u8 224) ∧ W.cell? ⟨bt, 8, none⟩ = some (.bool true) ∧ W.cell? ⟨bu, 5, none⟩ = some (.int .i64 300) ∧ W.cell? ⟨bu, 11, none⟩ = some (.int .i64 2)) :
    Calls Try.prog 25 #[] W fun e w' => e = .returned purseP.v ∧ (w'.cell? ⟨pb, 0, none⟩ = some (.int .i64 1) ∧ w'.cell? ⟨pb, 1, none⟩ = some (.int .i64 2) ∧ w'.cell? ⟨pb, 2, none⟩ = some (.int .i64 9) ∧ w'.cell? ⟨pb, 3, none⟩ = some (.int .i64 7) ∧ w'.cell? ⟨pb, 4, none⟩ = some (.int .i64 1) ∧ w'.cell? ⟨pb, 5, none⟩ = some (.int .i64 500) ∧ w'.cell? ⟨pb, 6, none⟩ = some (.int .i64 0) ∧ w'.cell? ⟨pb, 7, none⟩ = some (.int .i64 0) ∧ w'.cell? ⟨pb, 8, none⟩ = some (.bool false) ∧ w'.cell? ⟨pb, 9, none⟩ = some (.int .i64 0) ∧ w'.cell? ⟨pb, 10, none⟩ = some (.int .i64 0) ∧ w'.cell? ⟨pb, 11, none⟩ = some (.int .i64 0) ∧ w'.cell? ⟨pb, 12, none⟩ = some (.int .i64 0) ∧ w'.cell? ⟨pb, 13, none⟩ = some (.bool false) ∧ w'.cell? ⟨g, 0, none⟩ = some (.int .u8 224) ∧ w'.cell? ⟨bt, 8, none⟩ = some (.bool true) ∧ w'.cell? ⟨bu, 5, none⟩ = some (.int .i64 300) ∧ w'.cell? ⟨bu, 11, none⟩ = some (.int .i64 2)) ∧ Below W.heap.size W w' := by
  refine (purse_any W).mono ?_
  rintro e w' ⟨rfl, hB⟩
  refine ⟨rfl, ?_, hB⟩
  have hk : ∀ b o u, W.cell? ⟨b, o, none⟩ = some u → w'.cell? ⟨b, o, none⟩ = some u := fun b o u hu => (hB.cell (p := ⟨b, o, none⟩) (World.block_lt_of_cell? _ _ hu)).trans hu
  obtain ⟨h0, h1, h2, h3, h4, h5, h6, h7, h8, h9, h10, h11, h12, h13, h14, h15, h16, h17⟩ := h
  exact ⟨hk _ _ _ h0, hk _ _ _ h1, hk _ _ _ h2, hk _ _ _ h3, hk _ _ _ h4, hk _ _ _ h5, hk _ _ _ h6, hk _ _ _ h7, hk _ _ _ h8, hk _ _ _ h9, hk _ _ _ h10, hk _ _ _ h11, hk _ _ _ h12, hk _ _ _ h13, hk _ _ _ h14, hk _ _ _ h15, hk _ _ _ h16, hk _ _ _ h17⟩

set_option maxHeartbeats 4000000 in
set_option maxRecDepth 100000 in
theorem awake_true (w : World) : Calls Try.prog 10 #[] w (RetB true w) := by
  have hfl : purseP.form.length = 21 := by rw [purse_form]; rfl
  have HFL := Lib.hid hfl; clear hfl
  go_enter Try.func10, Try.ntmps10
  go_wp2_with fail
  refine (purse_any _).mono ?_
  rintro e w1 ⟨rfl, hB1⟩
  have HB1 := Lib.hid hB1; clear hB1
  go_wp2_with fail
  refine (form_right purseP _ purse_right).mono ?_
  rintro e w2 ⟨v2, rfl, hown2, hB2⟩
  have hlen : (u8s purseP.form).length = 21 := by rw [u8s, List.length_map]; exact HFL.out
  have hsl := own_sl hown2 (u8s_one _)
  rw [HFL.out] at hown2
  obtain ⟨a2, c2, rfl⟩ := own_shape hown2
  obtain ⟨g, rfl, hg1, hg2, hgc⟩ := own_some hown2 (by omega)
  have hc0 : w2.cell? ⟨g, 0, none⟩ = some (.int .u8 224) := own_at hown2 (by rw [purse_form]; rfl)
  have HSL := Lib.hid hsl
  have HB2 := Lib.hid (HB1.out.trans (hB2.mono HB1.out.size))
  clear hown2 hsl hB2
  go_wp2_with fail
  have hpa := parse_any (.slice (some ⟨g, 0, none⟩) 21 c2) purseP.form w2 HSL.out (bytes_of_form _ purse_right) (by rw [HFL.out]; omega)
  rw [purse_parse] at hpa
  refine hpa.mono ?_
  clear hpa
  rintro e w3 ⟨rfl, hB3⟩
  simp only [purseP, Prod.v]
  have hd0 := (hB3.cell (p := ⟨g, 0, none⟩) hg2).trans hc0
  have HB3 := Lib.hid (HB2.out.trans (hB3.mono HB2.out.size))
  have hg3 : g < w3.heap.size := by have := hB3.size; omega
  clear hB3 hc0 HSL hg1 hg2
  go_upto_region 3 with fail
  have hz3 : PB w3.heap.size purseP (w3.alloc (.cells purseP.cells.toArray 24)) := heap_alloc_new w3 _
  have hb3 : Below w3.heap.size w3 (w3.alloc (.cells purseP.cells.toArray 24)) := (by repeat' (first | exact Below.refl _ _ | refine Below.alloc ?_ (by first | omega | (simp; done) | (simp; omega)) _ | refine Below.drew ?_ | refine below_drewN ?_ _ | refine Below.setCell ?_ (by first | omega | (simp; done) | (simp; omega)) _))
  have hd1 := (hb3.cell (p := ⟨g, 0, none⟩) hg3).trans hd0
  have HB4 := Lib.hid (HB3.out.trans (hb3.mono HB3.out.size))
  change Code.wp _ _ _ _ (w3.alloc (.cells purseP.cells.toArray 24))
  have hsz4 : w3.heap.size < (w3.alloc (.cells purseP.cells.toArray 24)).heap.size := by simp
  generalize w3.alloc (.cells purseP.cells.toArray 24) = w4 at *
  clear hb3 hd0 HB3
  go_wp2_with fail
  refine (purse_any _).mono ?_
  rintro e w5 ⟨rfl, hB5⟩
  have hz5 : PB w3.heap.size purseP w5 := (hB5.block _ hsz4).trans hz3
  have hd5 := (hB5.cell (p := ⟨g, 0, none⟩) (by simp only; omega)).trans hd1
  have HB5 := Lib.hid (HB4.out.trans (hB5.mono HB4.out.size))
  clear hB5 hz3 hd1 HB4
  have HZ5 := Lib.hid hz5; clear hz5
  simp only [purseP, Prod.v]
  go_wp2_with fail
  have hin := in_thing purseP 4 1 w5 purse_right
  rw [purse_in] at hin
  refine hin.mono ?_
  clear hin
  rintro e w6 ⟨rfl, hB6⟩
  simp only [tIn, Prod.v]
  have hw35 : w3.heap.size < w5.heap.size := (Array.getElem?_eq_some_iff.1 HZ5.out).1
  have hz6 : PB w3.heap.size purseP w6 := (hB6.block _ hw35).trans HZ5.out
  have hd6 := (hB6.cell (p := ⟨g, 0, none⟩) (by simp only; omega)).trans hd5
  have HB6 := Lib.hid (HB5.out.trans (hB6.mono HB5.out.size))
  have hw36 : w3.heap.size < w6.heap.size := by have := hB6.size; omega
  clear hB6 hd5 HB5 HZ5
  go_upto_region 4 with fail
  have ht6 : PT w6.heap.size tIn (w6.alloc (.cells tIn.cells.toArray 34)) := heap_alloc_new w6 _
  have hb6 : Below w6.heap.size w6 (w6.alloc (.cells tIn.cells.toArray 34)) := (by repeat' (first | exact Below.refl _ _ | refine Below.alloc ?_ (by first | omega | (simp; done) | (simp; omega)) _ | refine Below.drew ?_ | refine below_drewN ?_ _ | refine Below.setCell ?_ (by first | omega | (simp; done) | (simp; omega)) _))
  have hz7 : PB w3.heap.size purseP (w6.alloc (.cells tIn.cells.toArray 34)) := (hb6.block _ hw36).trans hz6
  have hd7 := (hb6.cell (p := ⟨g, 0, none⟩) (by simp only; omega)).trans hd6
  have HB7 := Lib.hid (HB6.out.trans (hb6.mono HB6.out.size))
  have hsz7 : w6.heap.size < (w6.alloc (.cells tIn.cells.toArray 34)).heap.size := by simp
  change Code.wp _ _ _ _ (w6.alloc (.cells tIn.cells.toArray 34))
  generalize w6.alloc (.cells tIn.cells.toArray 34) = w7 at *
  clear hb6 hz6 hd6 HB6
  have cs7 := ht6.cs
  simp only [tIn] at cs7
  have HT6 := Lib.hid ht6; clear ht6
  have HZ7 := Lib.hid hz7; clear hz7
  go_wp2_with fail
  clear cs7
  have hout := out_thing tIn 200 w7 tIn_right (by omega)
  rw [purse_out] at hout
  refine hout.mono ?_
  clear hout
  rintro e w8 ⟨rfl, hB8⟩
  simp only [tOut, Prod.v]
  have ht8 : PT w6.heap.size tIn w8 := (hB8.block _ hsz7).trans HT6.out
  have hz8 : PB w3.heap.size purseP w8 := (hB8.block _ (by omega)).trans HZ7.out
  have hd8 := (hB8.cell (p := ⟨g, 0, none⟩) (by simp only; omega)).trans hd7
  have HB8 := Lib.hid (HB7.out.trans (hB8.mono HB7.out.size))
  have hsz8 : w6.heap.size < w8.heap.size := by have := hB8.size; omega
  clear hB8 hd7 HB7 HT6 HZ7
  go_upto_region 5 with fail
  have hu9 : PT w8.heap.size tOut (w8.alloc (.cells tOut.cells.toArray 34)) := heap_alloc_new w8 _
  have hb9 : Below w8.heap.size w8 (w8.alloc (.cells tOut.cells.toArray 34)) := (by repeat' (first | exact Below.refl _ _ | refine Below.alloc ?_ (by first | omega | (simp; done) | (simp; omega)) _ | refine Below.drew ?_ | refine below_drewN ?_ _ | refine Below.setCell ?_ (by first | omega | (simp; done) | (simp; omega)) _))
  have ht9 : PT w6.heap.size tIn (w8.alloc (.cells tOut.cells.toArray 34)) := (hb9.block _ hsz8).trans ht8
  have hz9 : PB w3.heap.size purseP (w8.alloc (.cells tOut.cells.toArray 34)) := (hb9.block _ (by omega)).trans hz8
  have hd9 := (hb9.cell (p := ⟨g, 0, none⟩) (by simp only; omega)).trans hd8
  have HB9 := Lib.hid (HB8.out.trans (hb9.mono HB8.out.size))
  change Code.wp _ _ _ _ (w8.alloc (.cells tOut.cells.toArray 34))
  generalize w8.alloc (.cells tOut.cells.toArray 34) = w9 at *
  generalize w3.heap.size = pb at *
  generalize w6.heap.size = bt at *
  generalize w8.heap.size = bu at *
  have HS0 : w9.cell? ⟨pb, 0, none⟩ = some (.int .i64 1) ∧ w9.cell? ⟨pb, 1, none⟩ = some (.int .i64 2) ∧ w9.cell? ⟨pb, 2, none⟩ = some (.int .i64 9) ∧ w9.cell? ⟨pb, 3, none⟩ = some (.int .i64 7) ∧ w9.cell? ⟨pb, 4, none⟩ = some (.int .i64 1) ∧ w9.cell? ⟨pb, 5, none⟩ = some (.int .i64 500) ∧ w9.cell? ⟨pb, 6, none⟩ = some (.int .i64 0) ∧ w9.cell? ⟨pb, 7, none⟩ = some (.int .i64 0) ∧ w9.cell? ⟨pb, 8, none⟩ = some (.bool false) ∧ w9.cell? ⟨pb, 9, none⟩ = some (.int .i64 0) ∧ w9.cell? ⟨pb, 10, none⟩ = some (.int .i64 0) ∧ w9.cell? ⟨pb, 11, none⟩ = some (.int .i64 0) ∧ w9.cell? ⟨pb, 12, none⟩ = some (.int .i64 0) ∧ w9.cell? ⟨pb, 13, none⟩ = some (.bool false) ∧ w9.cell? ⟨g, 0, none⟩ = some (.int .u8 224) ∧ w9.cell? ⟨bt, 8, none⟩ = some (.bool true) ∧ w9.cell? ⟨bu, 5, none⟩ = some (.int .i64 300) ∧ w9.cell? ⟨bu, 11, none⟩ = some (.int .i64 2) := by
    have c := hz9.cs
    simp only [purseP] at c
    obtain ⟨h0, h1, h2, h3, h4, h5, h6, h7, h8, h9, h10, h11, h12, h13⟩ := c
    exact ⟨h0, h1, h2, h3, h4, h5, h6, h7, h8, h9, h10, h11, h12, h13, hd9, ht9.at_ 8, hu9.at_ 5, hu9.at_ 11⟩
  have heq := fun w => prod_eql purseP purseP w
  simp only [purseP, Prod.v, show prodEqB ⟨1, 2, 9, 7, 1, 500, 0, 0, false, 0, 0, 0, 0, false⟩ ⟨1, 2, 9, 7, 1, 500, 0, 0, false, 0, 0, 0, 0, false⟩ = true by decide] at heq
  have hpu := fun W h => Lib.hid (aw_purse pb g bt bu W h)
  have HPU := Lib.hid hpu; clear hpu
  clear hu9 hb9 ht9 hz9 hd9 hd8 hz8 ht8 HB8
  go_region_held3 (fun W => W.cell? ⟨pb, 0, none⟩ = some (.int .i64 1) ∧ W.cell? ⟨pb, 1, none⟩ = some (.int .i64 2) ∧ W.cell? ⟨pb, 2, none⟩ = some (.int .i64 9) ∧ W.cell? ⟨pb, 3, none⟩ = some (.int .i64 7) ∧ W.cell? ⟨pb, 4, none⟩ = some (.int .i64 1) ∧ W.cell? ⟨pb, 5, none⟩ = some (.int .i64 500) ∧ W.cell? ⟨pb, 6, none⟩ = some (.int .i64 0) ∧ W.cell? ⟨pb, 7, none⟩ = some (.int .i64 0) ∧ W.cell? ⟨pb, 8, none⟩ = some (.bool false) ∧ W.cell? ⟨pb, 9, none⟩ = some (.int .i64 0) ∧ W.cell? ⟨pb, 10, none⟩ = some (.int .i64 0) ∧ W.cell? ⟨pb, 11, none⟩ = some (.int .i64 0) ∧ W.cell? ⟨pb, 12, none⟩ = some (.int .i64 0) ∧ W.cell? ⟨pb, 13, none⟩ = some (.bool false) ∧ W.cell? ⟨g, 0, none⟩ = some (.int .u8 224) ∧ W.cell? ⟨bt, 8, none⟩ = some (.bool true) ∧ W.cell? ⟨bu, 5, none⟩ = some (.int .i64 300) ∧ W.cell? ⟨bu, 11, none⟩ = some (.int .i64 2)) ((first | (with_reducible exact HS0) | (with_reducible exact HS1) | exact HS0)) ((go_at_call 25; go_must (refine ((HPU.out _ (by first | exact HS0 | assumption)).out).mono ?_); rintro e w10 ⟨rfl, HS1, hB10⟩; have HB10 := Lib.hid hB10; clear hB10; simp only [purseP, Prod.v]))
  all_goals
    go_wp2_with fail
    go_ret
    exact ⟨rfl, HB9.out.trans ((show Below w9.heap.size w9 w10 from ⟨HB10.out.os, HB10.out.tape, HB10.out.output, HB10.out.size, HB10.out.block⟩).mono HB9.out.size)⟩
end Go.Proofs.Ytlbfeoobeleobaa
