/- Right of the reference and of ipe. -/
import Derived.Test.YtlbfeoobeleobaaNums
namespace Go.Proofs.Ytlbfeoobeleobaa
open Go.RowKit
set_option linter.unusedVariables false
set_option linter.unusedSimpArgs false

/-- an own row of one-cell elements that is not empty, told open -/
theorem own_open {w : World} {base : Nat} {e n : Nat} {v : Value} {xs : List Value} (h : w.ownsRow base e 1 v n xs) (hn : 0 < n) :
    ∃ g c, v = .slice (some ⟨g, 0, none⟩) n c ∧ n ≤ c ∧ c ≤ maxLen ∧ base ≤ g ∧ g < w.heap.size ∧ ∀ i x, xs[i]? = some x → w.cell? ⟨g, i, none⟩ = some x := by
  obtain ⟨hl, hr⟩ := h
  rcases hr with ⟨rfl, rfl⟩ | ⟨g, c, cur, rfl, hb, hg, hnc, hcm, hcs, htake⟩
  · omega
  · refine ⟨g, c, rfl, hnc, hcm, hb, (Array.getElem?_eq_some_iff.1 hg).1, fun i x hx => ?_⟩
    have := World.ownsRow.cells ⟨hl, .inr ⟨g, c, cur, rfl, hb, hg, hnc, hcm, hcs, htake⟩⟩ (g := g) rfl i x hx
    rwa [Addr.add_lit, Nat.zero_add] at this

theorem leasts_at (k : Nat) (h : k < 14) : leasts.getD k 0 = if k < 5 then 1 else 0 := by
  have : k = 0 ∨ k = 1 ∨ k = 2 ∨ k = 3 ∨ k = 4 ∨ k = 5 ∨ k = 6 ∨ k = 7 ∨ k = 8 ∨ k = 9 ∨ k = 10 ∨ k = 11 ∨ k = 12 ∨ k = 13 := by omega
  rcases this with rfl | rfl | rfl | rfl | rfl | rfl | rfl | rfl | rfl | rfl | rfl | rfl | rfl | rfl <;> rfl
theorem okTo_mono (ns : List Int) {j k : Nat} (h : j ≤ k) (hj : okTo ns j = false) : okTo ns k = false := by
  induction k with
  | zero => obtain rfl : j = 0 := by omega
            exact hj
  | succ k ih =>
    by_cases hjk : j = k + 1
    · subst hjk; exact hj
    · rw [okTo_succ, ih (by omega)]; rfl

set_option maxHeartbeats 4000000 in
set_option maxRecDepth 100000 in
theorem ref_right (p : Prod) (w : World) : Calls Try.prog 11 #[p.v] w (RetB p.right w) := by
  have HN := fun w => Lib.hid (ref_numbers p w)
  have hB : Below w.heap.size w (w.alloc (.cells (Array.mk p.cells) 24)) := (by repeat' (first | exact Below.refl _ _ | refine Below.alloc ?_ (by first | omega | (simp; done) | (simp; omega)) _ | refine Below.drew ?_ | refine below_drewN ?_ _ | refine Below.setCell ?_ (by first | omega | (simp; done) | (simp; omega)) _))
  have hsz : (w.alloc (.cells (Array.mk p.cells) 24)).heap.size = w.heap.size + 1 := by simp
  obtain ⟨a, b, c, d, e, f, g, h, o, i, j, k, l, m⟩ := p
  simp only [Prod.cells] at hB hsz
  unfold Prod.v at *
  go_enter Try.func11, Try.ntmps11
  go_wp2_with fail
  generalize w.alloc (.cells #[.int .i64 a, .int .i64 b, .int .i64 c, .int .i64 d, .int .i64 e, .int .i64 f, .int .i64 g, .int .i64 h, .bool o, .int .i64 i, .int .i64 j, .int .i64 k, .int .i64 l, .bool m] 24) = w1 at *
  refine ((HN _).out).mono ?_
  clear HN
  generalize (⟨a, b, c, d, e, f, g, h, o, i, j, k, l, m⟩ : Prod) = p at *
  rintro ed w2 ⟨v2, rfl, hown, hB2⟩
  obtain ⟨g2, c2, rfl, hc2, hm2, -, hg2, hcell⟩ := own_open hown (by omega)
  have HC := Lib.hid hcell; clear hcell
  have HB0 := Lib.hid hB; clear hB
  have HB2 := Lib.hid hB2; clear hB2
  have HBW := Lib.hid (HB0.out.trans (HB2.out.mono HB0.out.size))
  clear hown HB0 HB2 hsz
  go_wp2_with fail
  have hms : Row (w2.alloc (.cells (mosts.map (Value.int .i64)).toArray 3)) w2.heap.size 0 (mosts.map (Value.int .i64)) := by simpa using row_new w2 (mosts.map (Value.int .i64)).toArray 3
  have HM := Lib.hid (show ∀ i x, (mosts.map (Value.int .i64))[i]? = some x → (w2.alloc (.cells (mosts.map (Value.int .i64)).toArray 3)).cell? ⟨w2.heap.size, i, none⟩ = some x from fun i x hx => by have := hms i x hx; rwa [Nat.zero_add] at this)
  have HC3 := Lib.hid (show ∀ i x, (i64s p.nums)[i]? = some x → (w2.alloc (.cells (mosts.map (Value.int .i64)).toArray 3)).cell? ⟨g2, i, none⟩ = some x from fun i x hx => (World.cell?_of_block (a := ⟨g2, i, none⟩) (Below.heap_alloc w2 _ g2 hg2)).trans (HC.out i x hx))
  have HB3 := Lib.hid (show Below w.heap.size w (w2.alloc (.cells (mosts.map (Value.int .i64)).toArray 3)) from HBW.out.alloc HBW.out.size _)
  have hg3 : g2 < (w2.alloc (.cells (mosts.map (Value.int .i64)).toArray 3)).heap.size := by simp; omega
  have hm3 : w2.heap.size < (w2.alloc (.cells (mosts.map (Value.int .i64)).toArray 3)).heap.size := by simp
  change Code.wp _ _ _ _ (w2.alloc (.cells (mosts.map (Value.int .i64)).toArray 3))
  generalize w2.alloc (.cells (mosts.map (Value.int .i64)).toArray 3) = w3 at *
  clear HC HBW hms
  go_loopw [5] (fun i wr => ∃ k : Nat, k ≤ 14 ∧ i = .int .i64 k ∧ Hid (okTo p.nums k = true) ∧ Below w3.heap.size w3 wr) (fun i _ => 14 - (intOf i).toNat)
  case atStart => exact ⟨0, by omega, rfl, Lib.hid rfl, Below.refl _ _⟩
  case round =>
    obtain ⟨k, hk, rfl, hyes, hBr⟩ := hrel
    by_cases hlt : k < 14
    · have e0 := HC3.out k (.int .i64 (p.nums.getD k 0)) (by rw [i64s, List.getElem?_map, List.getElem?_eq_getElem (by rw [Prod.nums_len]; exact hlt), List.getD_eq_getElem?_getD, List.getElem?_eq_getElem (by rw [Prod.nums_len]; exact hlt)]; rfl)
      have e1 := HM.out k (.int .i64 (mosts.getD k 0)) (by rw [List.getElem?_map, List.getElem?_eq_getElem (by exact hlt), List.getD_eq_getElem?_getD, List.getElem?_eq_getElem (by exact hlt)]; rfl)
      replace e0 := (hBr.cell (p := ⟨g2, k, none⟩) hg3).trans e0
      replace e1 := (hBr.cell (p := ⟨w2.heap.size, k, none⟩) hm3).trans e1
      have hS := okTo_succ p.nums k
      rw [hyes.out, Bool.true_and] at hS
      have hA : okAt p.nums k = (decide (leasts.getD k 0 ≤ p.nums.getD k 0) && decide (p.nums.getD k 0 ≤ mosts.getD k 0)) := rfl
      rw [leasts_at k hlt] at hA
      have hmo : 0 ≤ mosts.getD k 0 := by
        have : k = 0 ∨ k = 1 ∨ k = 2 ∨ k = 3 ∨ k = 4 ∨ k = 5 ∨ k = 6 ∨ k = 7 ∨ k = 8 ∨ k = 9 ∨ k = 10 ∨ k = 11 ∨ k = 12 ∨ k = 13 := by omega
        rcases this with rfl | rfl | rfl | rfl | rfl | rfl | rfl | rfl | rfl | rfl | rfl | rfl | rfl | rfl <;> decide
      have HS := Lib.hid hS; clear hS
      have HA := Lib.hid hA; clear hA
      have HBR := Lib.hid hBr; clear hBr
      generalize p.nums.getD k 0 = nk at *
      generalize mosts.getD k 0 = mk at *
      go_wp2_with fail
      rcases (show (nk < 0 ∧ okTo p.nums (k + 1) = false) ∨ (0 ≤ nk ∧ mk < nk ∧ okTo p.nums (k + 1) = false) ∨ (0 ≤ nk ∧ nk ≤ mk ∧ k < 5 ∧ nk = 0 ∧ okTo p.nums (k + 1) = false) ∨ (0 ≤ nk ∧ nk ≤ mk ∧ k < 5 ∧ nk ≠ 0 ∧ okTo p.nums (k + 1) = true) ∨ (0 ≤ nk ∧ nk ≤ mk ∧ ¬ k < 5 ∧ okTo p.nums (k + 1) = true) by
        rw [HS.out, HA.out]
        by_cases q0 : nk < 0
        · exact .inl ⟨q0, by rw [decide_eq_false (by split <;> omega)]; rfl⟩
        by_cases q1 : mk < nk
        · exact .inr (.inl ⟨by omega, q1, by rw [Bool.and_comm, decide_eq_false (by omega)]; rfl⟩)
        by_cases q2 : k < 5
        · by_cases q3 : nk = 0
          · exact .inr (.inr (.inl ⟨by omega, by omega, q2, q3, by rw [if_pos q2, decide_eq_false (by omega)]; rfl⟩))
          · exact .inr (.inr (.inr (.inl ⟨by omega, by omega, q2, q3, by rw [if_pos q2, decide_eq_true (by omega), decide_eq_true (by omega)]; rfl⟩)))
        · exact .inr (.inr (.inr (.inr ⟨by omega, by omega, q2, by rw [if_neg q2, decide_eq_true (by omega), decide_eq_true (by omega)]; rfl⟩)))) with ⟨q0, hf⟩ | ⟨q0, q1, hf⟩ | ⟨q0, q1, q2, q3, hf⟩ | ⟨q0, q1, q2, q3, hf⟩ | ⟨q0, q1, q2, hf⟩
      all_goals
        have HOK := Lib.hid hf; clear hf
        clear HS HA
      · have d0 : decide (nk < 0) = true := by simp; omega
        clear q0
        go_quiet (fail)
        go_wp2_with fail
        go_ret
        exact ⟨ret_bool (okTo_mono _ hlt HOK.out).symm, HB3.out.trans ((below_drewN HBR.out _).mono HB3.out.size)⟩
      · have d0 : decide (nk < 0) = false := by simp; omega
        have d1 : decide (mk < nk) = true := by simp; omega
        clear q0 q1
        go_quiet (fail)
        go_wp2_with fail
        go_ret
        exact ⟨ret_bool (okTo_mono _ hlt HOK.out).symm, HB3.out.trans ((below_drewN HBR.out _).mono HB3.out.size)⟩
      · have d0 : decide (nk < 0) = false := by simp; omega
        have d1 : decide (mk < nk) = false := by simp; omega
        have d2 : decide ((k : Int) < 5) = true := by simp; omega
        have d3 : (nk == 0) = true := by simp; omega
        clear q0 q1 q2 q3
        go_quiet (fail)
        go_wp2_with fail
        go_ret
        exact ⟨ret_bool (okTo_mono _ hlt HOK.out).symm, HB3.out.trans ((below_drewN HBR.out _).mono HB3.out.size)⟩
      · have d0 : decide (nk < 0) = false := by simp; omega
        have d1 : decide (mk < nk) = false := by simp; omega
        have d2 : decide ((k : Int) < 5) = true := by simp; omega
        have d3 : (nk == 0) = false := by simp; omega
        clear q0 q1 q2 q3
        go_quiet (fail)
        go_wp2_with fail
        go_roundw
        case rel => exact ⟨k + 1, by omega, by go_num, HOK, below_drewN HBR.out _⟩
        case measure => simp [intOf]; omega
      · have d0 : decide (nk < 0) = false := by simp; omega
        have d1 : decide (mk < nk) = false := by simp; omega
        have d2 : decide ((k : Int) < 5) = false := by simp; omega
        clear q0 q1 q2
        go_quiet (fail)
        go_wp2_with fail
        go_roundw
        case rel => exact ⟨k + 1, by omega, by go_num, HOK, below_drewN HBR.out _⟩
        case measure => simp [intOf]; omega
    · obtain rfl : k = 14 := by omega
      go_wp2_with fail
      go_ret
      exact ⟨ret_bool (show p.right = true from hyes.out).symm, HB3.out.trans (hBr.mono HB3.out.size)⟩

set_option maxHeartbeats 1000000 in
theorem rightCl_any (p : Prod) (w : World) : Calls Try.prog 37 #[p.v] w (RetB (!p.right) w) := by
  have HN := fun w => Lib.hid (numbers_any p w)
  obtain ⟨a, b, c, d, e, f, g, h, o, i, j, k, l, m⟩ := p
  unfold Prod.v at *
  go_enter Try.func37, Try.ntmps37
  go_wp2_with fail
  refine ((HN _).out).mono ?_
  rintro ed w2 ⟨v2, rfl, hown, hB2⟩
  have HB2 := Lib.hid hB2; clear hB2
  clear hown HN
  go_wp2_with fail
  go_ret
  exact ⟨rfl, (show Below w.heap.size w (w.alloc _) from (by repeat' (first | exact Below.refl _ _ | refine Below.alloc ?_ (by first | omega | (simp; done) | (simp; omega)) _ | refine Below.drew ?_ | refine below_drewN ?_ _ | refine Below.setCell ?_ (by first | omega | (simp; done) | (simp; omega)) _))).trans (HB2.out.mono (by simp))⟩

set_option maxHeartbeats 1000000 in
theorem right_any (v : Value) (ps : List Prod) (w : World) (hsl : SlG 14 Prod.g w v ps) (hn : ps.length ≤ 140737488355328) : Calls Try.prog 19 #[v] w (RetB (ps.all Prod.right) w) := by
  have HC := Lib.hid (containsFunc_Product Prod.g v 37 #[] ps (fun p => !p.right) w hsl hn (fun args w' => by go_simp) (fun x _ w' _ => rightCl_any x w'))
  clear hsl
  go_enter Try.func19, Try.ntmps19
  go_wp2_with fail
  refine (HC.out).mono ?_
  rintro ed w2 ⟨rfl, hB2⟩
  go_wp2_with fail
  go_ret
  exact ⟨ret_bool (by rw [Bool.eq_iff_iff]; simp), hB2⟩
end Go.Proofs.Ytlbfeoobeleobaa
