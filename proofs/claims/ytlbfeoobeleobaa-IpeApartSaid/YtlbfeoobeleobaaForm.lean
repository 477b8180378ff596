/- ipe.Form, and Form of the reference. -/
import Derived.Test.YtlbfeoobeleobaaFormP
namespace Go.Proofs.Ytlbfeoobeleobaa
open Go.RowKit
set_option linter.unusedVariables false
set_option linter.unusedSimpArgs false

theorem rep_append {d : Nat} {xs : List EC} {w w' : World} {v v' : Value} (h : ∀ x ∈ xs, RepX d (fun b => v.ownBlock ≠ some b) w x) (hg : w.grownBy w' v.ownBlock) (hs : w.heap.size ≤ w'.heap.size) (hv : v'.ownBlock = v.ownBlock ∨ v'.ownBlock = some w.heap.size) :
    ∀ x ∈ xs, RepX d (fun b => v'.ownBlock ≠ some b) w' x := by
  intro x hx
  have h1 : RepX d (fun b => v.ownBlock ≠ some b ∧ b < w.heap.size) w x := (h x hx).weaken fun b hb hF => ⟨hF, hb⟩
  have h2 := h1.keep (w' := w') hs fun b hF hl => hg.block b hl fun e => hF.1 e.symm
  refine h2.weaken fun b _ hF => ?_
  rcases hv with h | h
  · rw [h]; exact hF.1
  · rw [h]; intro e; have := hF.2; have := Option.some.inj e; omega
theorem ec_cells_one {d : Nat} {F : Nat → Prop} {w : World} {xs : List EC} (h : ∀ x ∈ xs, RepX d F w x) : ∀ u ∈ xs.flatMap EC.cells, u.oneCell' = true := by
  intro u hu
  obtain ⟨x, hx, hu⟩ := List.mem_flatMap.1 hu
  obtain ⟨tag, bytes, kids, ab, cb, ak, ck, rfl, -⟩ := (h x hx).cut
  simp only [EC.cells, List.mem_cons, List.not_mem_nil, or_false] at hu
  rcases hu with rfl | rfl | rfl <;> rfl
theorem SlF.nil (F : Nat → Prop) (sz : Nat) (w : World) : SlF F sz w (.slice none 0 0) 0 [] := ⟨Sl.nil sz w, fun h => by omega⟩
theorem slF_true {F : Nat → Prop} {sz n : Nat} {w : World} {v : Value} {cs : List Value} (h : SlF F sz w v n cs) : SlF (fun _ => True) sz w v n cs := ⟨h.1, fun _ _ _ => trivial⟩

set_option maxHeartbeats 4000000 in
set_option maxRecDepth 100000 in
theorem form_bad (p : Prod) (w : World) (hr : p.right = false) : Calls Try.prog 12 #[p.v] w (BytesE w [] 2) := by
  have HN := fun w => Lib.hid (numbers_any p w)
  have HB0 := Lib.hid (show Below w.heap.size w (w.alloc (.cells (Array.mk p.cells) 24)) from (Below.refl _ _).alloc (Nat.le_refl _) _)
  simp only [Prod.cells] at HB0
  obtain ⟨a, b, c, d, e, f, g, h, o, i, j, k, l, m⟩ := p
  unfold Prod.v at *
  simp only at HB0
  go_enter Try.func12, Try.ntmps12
  go_wp2_with fail
  refine ((HN _).out).mono ?_
  clear HN
  rintro ed w2 ⟨v2, rfl, hown, hB2⟩
  rw [hr]
  have HBW := Lib.hid (HB0.out.trans (hB2.mono (by simp)))
  clear hown hB2 hr
  go_wp2_with fail
  go_ret2
  exact ⟨_, rfl, own_none _ _ _ _, HBW.out⟩

set_option maxHeartbeats 4000000 in
set_option maxRecDepth 100000 in
theorem form_right (p : Prod) (w : World) (hr : p.right = true) : Calls Try.prog 12 #[p.v] w (BytesE w p.form 0) := by
  have HN := fun w => Lib.hid (numbers_any p w)
  have HSM := Lib.hid (Prod.nums_small p hr)
  have HNL := Lib.hid (Prod.numB_len p hr)
  have HT := Lib.hid (Prod.tree_lay p hr)
  have HB0 := Lib.hid (show Below w.heap.size w (w.alloc (.cells (Array.mk p.cells) 24)) from (Below.refl _ _).alloc (Nat.le_refl _) _)
  simp only [Prod.cells] at HB0
  obtain ⟨a, b, c, d, e, f, g, h, o, i, j, k, l, m⟩ := p
  unfold Prod.v at *
  simp only at HB0
  go_enter Try.func12, Try.ntmps12
  go_wp2_with fail
  refine ((HN _).out).mono ?_
  clear HN
  rintro ed w2 ⟨v2, rfl, hown, hB2⟩
  rw [hr]
  have HBW := Lib.hid (HB0.out.trans (hB2.mono (by simp)))
  generalize hP : (⟨a, b, c, d, e, f, g, h, o, i, j, k, l, m⟩ : Prod) = p at *
  clear hB2 hr HB0 hP
  obtain ⟨g2, c2, rfl, hc2, hm2, -, hg2, hcell⟩ := own_open hown (by omega)
  have HC := Lib.hid hcell; clear hcell
  clear hown
  have hww : w.heap.size ≤ w2.heap.size := HBW.out.size
  go_wp2_with fail
  go_loopw [6, 18] (fun v i wr => ∃ (k : Nat) (xs : List EC), k ≤ 14 ∧ i = .int .i64 k ∧ xs.length ≤ k ∧ Hid (xs.map EC.t = elemsOf 0 (p.nums.take k)) ∧ Hid (wr.ownsRow w2.heap.size 67 3 v xs.length (xs.flatMap EC.cells)) ∧ Hid (∀ x ∈ xs, RepX 0 (fun b => v.ownBlock ≠ some b) wr x) ∧ Below w2.heap.size w2 wr) (fun _ i _ => 14 - (intOf i).toNat)
  case atStart => exact ⟨0, [], by omega, rfl, by simp, Lib.hid rfl, Lib.hid (own_none _ _ _ _), Lib.hid (by simp), Below.refl _ _⟩
  case round =>
    obtain ⟨k, xs, hk, rfl, hxl, hxs, hown, hrep, hB⟩ := hrel
    by_cases hlt : k < 14
    · have hkl : k < p.nums.length := by rw [Prod.nums_len]; exact hlt
      have e0 := HC.out k (.int .i64 p.nums[k]) (by rw [i64s, List.getElem?_map, List.getElem?_eq_getElem hkl]; rfl)
      replace e0 := (hB.cell (p := ⟨g2, k, none⟩) hg2).trans e0
      have hsm := HSM.out _ (List.getElem_mem hkl)
      have hnl := HNL.out _ (List.getElem_mem hkl)
      have hel : elemsOf 0 (p.nums.take (k + 1)) = elemsOf 0 (p.nums.take k) ++ if p.nums[k] = 0 then [] else [T.mk ((k : Int) + 1) (numB p.nums[k]) []] := by
        rw [List.take_succ_eq_append_getElem hkl, elemsOf_append, List.length_take, Nat.min_eq_left (by omega), Nat.zero_add]
        congr 1
      have HEL := Lib.hid hel; clear hel
      have hBs := hB.size
      have HB := Lib.hid hB; clear hB
      generalize p.nums[k] = nk at *
      by_cases hz : nk = 0
      · subst hz
        go_wp2_with fail
        go_roundw
        case rel => exact ⟨k + 1, xs, by omega, by go_num, by omega, Lib.hid (by rw [HEL.out, if_pos rfl, List.append_nil]; exact hxs.out), hown, hrep, HB.out⟩
        case measure => simp [intOf]; omega
      · have hz2 : (nk != 0) = true := by simp [hz]
        have HZ := Lib.hid hz; clear hz
        go_wp2_with fail
        refine (tlv_num nk _ (by omega) (by omega)).mono ?_
        rintro ed w3 ⟨v3, rfl, hown3, hB3⟩
        obtain ⟨a3, c3, rfl⟩ := own_shape hown3
        have hs3 := hB3.size
        have HOW := Lib.hid (own_ofBelow hown.out hB3)
        have HRP := Lib.hid (show ∀ x ∈ xs ++ [⟨(k : Int) + 1, .slice a3 (numB nk).length c3, .slice none 0 0, numB nk, []⟩], RepX 0 (fun b => u6.ownBlock ≠ some b) w3 x from fun x hx => by
          rcases List.mem_append.1 hx with hx | hx
          · exact (hrep.out x hx).ofBelow hB3
          · rw [List.mem_singleton.1 hx]
            refine ⟨show (numB nk).length ≤ 255 by omega, ⟨own_sl hown3 (u8s_one _), fun _ b hb e => ?_⟩, rfl, Sl.nil _ _⟩
            have h1 := (hown3.lt b hb).1
            have h2 := (hown.out.lt b e).2
            omega)
        have HB3 := Lib.hid (HB.out.trans (hB3.mono HB.out.size))
        clear hB3 hown hrep hown3
        go_wp2_with (at_builtin; go_must (refine wpList_append_sl (m := 1) (n := xs.length) el_Elem _ rfl rfl rfl rfl (own_alloc HOW.out _) (sl_lit (n := 1) _ #[.int .i64 ((k : Int) + 1), .slice a3 (numB nk).length c3, .slice none 0 0] 67 (by rfl) rfl (by simp [maxLen]) (by intro u hu; simp at hu; rcases hu with rfl | rfl | rfl <;> rfl)) (by omega) (by simp only [maxLen]; omega) (by first | omega | (simp; done) | (simp; omega)) ?_); intro v4 w4 hown4 hg4 _ hv4; have HO4 := Lib.hid hown4; have HG4 := Lib.hid hg4; have HV4 := Lib.hid hv4; clear hown4 hg4 hv4)
        go_roundw
        case rel =>
          refine ⟨k + 1, xs ++ [⟨(k : Int) + 1, .slice a3 (numB nk).length c3, .slice none 0 0, numB nk, []⟩], by omega, by go_num, by simp; omega, Lib.hid ?_, Lib.hid ?_, Lib.hid ?_, Below.grown (show Below w2.heap.size w2 _ from (by repeat' (first | exact Below.refl _ _ | exact HB3.out | refine Below.alloc ?_ (by first | omega | (simp; done) | (simp; omega)) _ | refine Below.drew ?_ | refine below_drewN ?_ _ | refine Below.setCell ?_ (by first | omega | (simp; done) | (simp; omega)) _))) HG4.out (by simp; omega) (fun q hq => (HOW.out.lt q hq).1)⟩
          · rw [HEL.out, if_neg HZ.out, List.map_append, hxs.out]; rfl
          · rw [List.length_append, List.length_singleton, List.flatMap_append]; exact HO4.out
          · exact rep_append (w := w3.alloc _) (v := u6) (fun x hx => (HRP.out x hx).ofBelow ((Below.refl _ _).alloc (Nat.le_refl _) _)) HG4.out HG4.out.size HV4.out
        case measure => simp [intOf]; omega
    · obtain rfl : k = 14 := by omega
      have hxs2 := hxs.out
      rw [List.take_of_length_le (by rw [Prod.nums_len]; omega)] at hxs2
      obtain ⟨a6, c6, rfl⟩ := own_shape hown.out
      have HX := Lib.hid hxs2; clear hxs2
      have HS := Lib.hid (own_sl hown.out (ec_cells_one hrep.out))
      have HR := hrep
      have HB := Lib.hid hB; clear hB
      clear hown hrep
      go_wp2_with fail
      have hB2 : Below wr.heap.size wr (wr.alloc (.cells #[.int .i64 224, .slice none 0 0, .slice a6 xs.length c6] 67)) := (Below.refl _ _).alloc (Nat.le_refl _) _
      have hrep2 : RepL 2 (fun _ => True) (wr.alloc (.cells #[.int .i64 224, .slice none 0 0, .slice a6 xs.length c6] 67)) (.slice (some ⟨wr.heap.size, 0, none⟩) 1 1) p.tree := by
        refine RepL.mk (xs := [⟨224, .slice none 0 0, .slice a6 xs.length c6, [], elemsOf 0 p.nums⟩]) (by simp) ⟨sl_lit (n := 1) wr #[.int .i64 224, .slice none 0 0, .slice a6 xs.length c6] 67 rfl rfl (by simp [maxLen]) (by intro u hu; simp at hu; rcases hu with rfl | rfl | rfl <;> rfl), fun _ _ _ => trivial⟩ ?_
        intro x hx
        rw [List.mem_singleton.1 hx]
        refine ⟨by simp, SlF.nil _ _ _, ?_⟩
        simp only
        rw [← HX.out]
        exact RepL.mk (by omega) ⟨HS.out.ofBelow hB2, fun _ _ _ => trivial⟩ (fun x hx => ((HR.out x hx).ofBelow hB2).weaken (fun _ _ _ => trivial))
      refine (tlv_put 2 (fun _ => True) _ p.tree p.form _ hrep2 (Prod.tree_deep p) (Prod.tree_right p) HT.out (by omega)).mono ?_
      rintro ed w5 ⟨vo, rfl, hown5, hB5⟩
      have HB5 := Lib.hid (HBW.out.trans ((HB.out.trans (hB2.mono HB.out.size)).trans (hB5.mono (by have := HB.out.size; simp; omega)) |>.mono hww))
      have HO5 := Lib.hid (own_base hown5 (base' := w.heap.size) (by have := HB.out.size; simp; omega))
      clear hB2 hB5 hown5 hrep2
      go_wp2_with fail
      go_ret2
      exact ⟨_, rfl, HO5.out, HB5.out⟩

theorem innerOf_append (i : Nat) (a b : List Int) : innerOf i (a ++ b) = innerOf i a ++ innerOf (i + a.length) b := by
  induction a generalizing i with
  | nil => rfl
  | cons n a ih =>
    simp only [List.cons_append, innerOf, List.length_cons]
    rw [ih, show i + 1 + a.length = i + (a.length + 1) by omega]
    split
    · rfl
    · simp

set_option maxHeartbeats 4000000 in
set_option maxRecDepth 100000 in
theorem ref_form (p : Prod) (w : World) (hr : p.right = true) : Calls Try.prog 26 #[p.v] w (NewSl 5 1 p.form.length (u8s p.form) w) := by
  have HN := fun w => Lib.hid (ref_numbers p w)
  have HSM := Lib.hid (Prod.nums_small p hr)
  have HNL := Lib.hid (Prod.numB_len p hr)
  have HIL := Lib.hid (Prod.inner_len p hr)
  have HB0 := Lib.hid (show Below w.heap.size w (w.alloc (.cells (Array.mk p.cells) 24)) from (Below.refl _ _).alloc (Nat.le_refl _) _)
  simp only [Prod.cells] at HB0
  obtain ⟨a, b, c, d, e, f, g, h, o, i, j, k, l, m⟩ := p
  unfold Prod.v at *
  simp only at HB0
  go_enter Try.func26, Try.ntmps26
  go_wp2_with fail
  refine ((HN _).out).mono ?_
  clear HN
  rintro ed w2 ⟨v2, rfl, hown, hB2⟩
  have HBW := Lib.hid (HB0.out.trans (hB2.mono (by simp)))
  generalize hP : (⟨a, b, c, d, e, f, g, h, o, i, j, k, l, m⟩ : Prod) = p at *
  clear hB2 hr HB0 hP
  obtain ⟨g2, c2, rfl, hc2, hm2, -, hg2, hcell⟩ := own_open hown (by omega)
  have HC := Lib.hid hcell; clear hcell
  clear hown
  have hww : w.heap.size ≤ w2.heap.size := HBW.out.size
  go_wp2_with fail
  go_loopw [3, 5] (fun v i wr => ∃ (k : Nat) (cs : List Int), k ≤ 14 ∧ i = .int .i64 k ∧ cs.length ≤ 6 * k ∧ Hid (cs = innerOf 0 (p.nums.take k)) ∧ Hid (wr.ownsRow w2.heap.size 5 1 v cs.length (u8s cs)) ∧ Below w2.heap.size w2 wr) (fun _ i _ => 14 - (intOf i).toNat)
  case atStart => exact ⟨0, [], by omega, rfl, by simp, Lib.hid rfl, Lib.hid (own_none _ _ _ _), Below.refl _ _⟩
  case round =>
    obtain ⟨k, cs, hk, rfl, hcl, hcs, hown, hB⟩ := hrel
    by_cases hlt : k < 14
    · have hkl : k < p.nums.length := by rw [Prod.nums_len]; exact hlt
      have e0 := HC.out k (.int .i64 p.nums[k]) (by rw [i64s, List.getElem?_map, List.getElem?_eq_getElem hkl]; rfl)
      replace e0 := (hB.cell (p := ⟨g2, k, none⟩) hg2).trans e0
      have hsm := HSM.out _ (List.getElem_mem hkl)
      have hnl := HNL.out _ (List.getElem_mem hkl)
      have hel : innerOf 0 (p.nums.take (k + 1)) = innerOf 0 (p.nums.take k) ++ if p.nums[k] = 0 then [] else [(k : Int) + 1, ((numB p.nums[k]).length : Int)] ++ numB p.nums[k] := by
        rw [List.take_succ_eq_append_getElem hkl, innerOf_append, List.length_take, Nat.min_eq_left (by omega), Nat.zero_add]
        congr 1
        simp only [innerOf]; split <;> simp
      have HEL := Lib.hid hel; clear hel
      have hBs := hB.size
      generalize p.nums[k] = nk at *
      by_cases hz : nk = 0
      · subst hz
        have HB := Lib.hid hB; clear hB
        go_wp2_with fail
        go_roundw
        case rel => exact ⟨k + 1, cs, by omega, by go_num, by omega, Lib.hid (by rw [HEL.out, if_pos rfl, List.append_nil]; exact hcs.out), hown, HB.out⟩
        case measure => simp [intOf]; omega
      · have hz2 : (nk == 0) = false := by simp [hz]
        have HZ := Lib.hid hz; clear hz
        have HB := Lib.hid hB; clear hB
        go_wp2_with fail
        refine (ref_num nk _ (by omega) (by omega)).mono ?_
        rintro ed w3 ⟨v3, rfl, hown3, hB3⟩
        obtain ⟨a3, c3, rfl⟩ := own_shape hown3
        have hs3 := hB3.size
        have HOW := Lib.hid (own_ofBelow hown.out hB3)
        have HO3 := Lib.hid hown3
        have HLT := Lib.hid hown.out.lt
        have HB3 := Lib.hid (HB.out.trans (hB3.mono HB.out.size))
        clear hB3 hown hown3
        go_wp2_with (first | (at_builtin; refine wpList_append_sl (s := .tmp 25) (m := 2) (n := cs.length) el_byte _ rfl rfl rfl rfl (own_alloc HOW.out _) (sl_lit (n := 2) _ #[.int .u8 ((k : Int) + 1), .int .u8 ((numB nk).length : Int)] 5 (by rfl) rfl (by simp [maxLen]) (by intro u hu; simp at hu; rcases hu with rfl | rfl <;> rfl)) (by omega) (by simp only [maxLen]; omega) (by first | omega | (simp; done) | (simp; omega)) ?_; intro v4 w4 hown4 hg4 _ _; have HO4 := Lib.hid hown4; have HG4 := Lib.hid hg4; clear hown4 hg4; have HB4 := Lib.hid (Below.grown (show Below w2.heap.size w2 _ from (by repeat' (first | exact Below.refl _ _ | exact HB3.out | refine Below.alloc ?_ (by first | omega | (simp; done) | (simp; omega)) _ | refine Below.drew ?_ | refine below_drewN ?_ _ | refine Below.setCell ?_ (by first | omega | (simp; done) | (simp; omega)) _))) HG4.out (by simp; omega) (fun q hq => (HOW.out.lt q hq).1))) | (at_builtin; go_must (refine wpList_append_sl (s := .tmp 34) (m := (numB nk).length) (n := cs.length + 2) el_byte _ rfl rfl rfl rfl HO4.out (own_sl (own_keep (own_alloc HO3.out _) (fun b hb hl => HG4.out.block b hl (fun e => by have h1 := (HO3.out.lt b hb).1; have h2 := (HLT.out b e.symm).2; omega))) (u8s_one _)) (by omega) (by simp only [maxLen]; omega) (by exact HB4.out.size) ?_); intro v5 w5 hown5 hg5 _ _; have HO5 := Lib.hid hown5; have HG5 := Lib.hid hg5; clear hown5 hg5))
        go_roundw
        case rel =>
          have hlen : (cs ++ [(k : Int) + 1, ((numB nk).length : Int)] ++ numB nk).length = cs.length + 2 + (numB nk).length := by simp; omega
          have hcc : u8s (cs ++ [(k : Int) + 1, ((numB nk).length : Int)] ++ numB nk) = u8s cs ++ [.int .u8 ((k : Int) + 1), .int .u8 ((numB nk).length : Int)] ++ u8s (numB nk) := by simp [u8s]
          refine ⟨k + 1, cs ++ [(k : Int) + 1, ((numB nk).length : Int)] ++ numB nk, by omega, by go_num, by rw [hlen]; omega, Lib.hid (by rw [HEL.out, if_neg HZ.out, hcs.out]; simp), Lib.hid ?_, Below.grown HB4.out HG5.out HB4.out.size (fun q hq => (HO4.out.lt q hq).1)⟩
          rw [hlen, hcc]; exact HO5.out
        case measure => simp [intOf]; omega
    · obtain rfl : k = 14 := by omega
      have hcs2 := hcs.out
      rw [List.take_of_length_le (by rw [Prod.nums_len]; omega)] at hcs2
      have hbs := hB.size
      have HB := Lib.hid hB; clear hB
      obtain ⟨a6, c6, rfl⟩ := own_shape hown.out
      have hform : p.form = [224, (cs.length : Int)] ++ cs := by rw [Prod.form, Prod.inner, ← hcs2]
      have HF := Lib.hid hform; clear hform
      clear hcs hcs2
      go_wp2_with (at_builtin; go_must (refine wpList_append_sl (base := wr.heap.size) (m := cs.length) (n := 2) (xs := [.int .u8 224, .int .u8 (cs.length : Int)]) el_byte _ rfl rfl rfl rfl (own_list wr wr.heap.size wr.heap.size (n := 2) [.int .u8 224, .int .u8 (cs.length : Int)] rfl rfl (by simp [maxLen]) (Nat.le_refl _)) (own_sl (own_alloc hown.out _) (u8s_one _)) (by omega) (by simp only [maxLen]; omega) (by simp) ?_); intro v5 w5 hown5 hg5 _ _; have HO5 := Lib.hid hown5; have HG5 := Lib.hid hg5; clear hown5 hg5)
      go_ret
      refine ⟨_, rfl, ?_, HBW.out.trans ((HB.out.trans (Below.grown (B := wr.heap.size) (a := wr) ((Below.refl _ _).alloc (Nat.le_refl _) _) HG5.out (by simp) (fun q hq => by obtain rfl := Option.some.inj hq; exact Nat.le_refl _) |>.mono HB.out.size)).mono hww)⟩
      have hl : p.form.length = 2 + cs.length := by rw [HF.out]; simp; omega
      have hc : u8s p.form = [.int .u8 224, .int .u8 (cs.length : Int)] ++ u8s cs := by rw [HF.out]; rfl
      rw [hl, hc]
      exact own_base HO5.out (by omega)
end Go.Proofs.Ytlbfeoobeleobaa
