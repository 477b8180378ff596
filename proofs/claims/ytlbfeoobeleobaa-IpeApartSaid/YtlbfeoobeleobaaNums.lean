/- ipe.numbers: a product's numbers, and whether they may be. -/
import Derived.Test.YtlbfeoobeleobaaProd
import Derived.Deep.RegionHeld3
import Derived.Deep.DeepCutAuto
namespace Go.Proofs.Ytlbfeoobeleobaa
open Go.RowKit
set_option linter.unusedVariables false
set_option linter.unusedSimpArgs false

def NumsCut (w : World) (p : Prod) (pb : Nat) (s4 s5 s6 : Value) (wx : World) : Prop :=
  ∃ b4 b5 b6 : Nat, s4 = .pointer (some ⟨b4, 0, none⟩) ∧ s5 = .pointer (some ⟨b5, 0, none⟩) ∧ s6 = .pointer (some ⟨b6, 0, none⟩) ∧
    wx.cell? ⟨b4, 0, none⟩ = some (.int .i64 p.kind) ∧ wx.cell? ⟨b5, 0, none⟩ = some (.int .i64 (bitI p.opn)) ∧ wx.cell? ⟨b6, 0, none⟩ = some (.int .i64 (bitI p.blocked)) ∧ Below w.heap.size w wx ∧ Row wx pb 0 p.cells

def NumsPost (p : Prod) (w : World) (e : Ending) (w' : World) : Prop := ∃ v, e = .returned (.tuple #[v, .bool p.right]) ∧ w'.ownsRow w.heap.size 3 1 v 14 (i64s p.nums) ∧ Below w.heap.size w w'
theorem nums_keep {w w1 : World} {cs : List Value} (hB : Below w.heap.size w w1) (hP : Row w1 w.heap.size 0 cs) (hN : w.heap.size < w1.heap.size) (X Y Z : Obj) :
    Below w.heap.size w (((w1.alloc X).alloc Y).alloc Z).drew ∧ Row (((w1.alloc X).alloc Y).alloc Z).drew w.heap.size 0 cs := by
  have h1 : Below w1.heap.size w1 (((w1.alloc X).alloc Y).alloc Z).drew := (by repeat' (first | exact Below.refl _ _ | refine Below.alloc ?_ (by first | omega | (simp; done) | (simp; omega)) _ | refine Below.drew ?_ | refine below_drewN ?_ _ | refine Below.setCell ?_ (by first | omega | (simp; done) | (simp; omega)) _))
  exact ⟨hB.trans (h1.mono hB.size), hP.keep (h1.block _ hN)⟩

theorem sl_lit (w : World) {sz n H : Nat} (cs : Array Value) (t : TypeId) (hH : w.heap.size = H) (hl : cs.size = n * sz) (hn : n ≤ maxLen) (h1 : ∀ u ∈ cs.toList, u.oneCell' = true) : Sl sz (w.alloc (.cells cs t)) (.slice (some ⟨H, 0, none⟩) n n) n cs.toList := by
  subst hH; exact sl_new w cs t hl hn h1

set_option maxHeartbeats 4000000 in
set_option maxRecDepth 100000 in
theorem numbers_any (p : Prod) (w : World) : Calls Try.prog 29 #[p.v] w (NumsPost p w) := by
  have hp := row_new w (Array.mk p.cells) 24
  have c0 := hp 0 _ rfl
  have c8 := hp 8 _ rfl
  have c13 := hp 13 _ rfl
  have HP := Lib.hid hp; clear hp
  have hB : Below w.heap.size w (w.alloc (.cells (Array.mk p.cells) 24)) := (by repeat' (first | exact Below.refl _ _ | refine Below.alloc ?_ (by first | omega | (simp; done) | (simp; omega)) _ | refine Below.drew ?_ | refine below_drewN ?_ _ | refine Below.setCell ?_ (by first | omega | (simp; done) | (simp; omega)) _))
  have hz : (w.alloc (.cells (Array.mk p.cells) 24)).heap.size = w.heap.size + 1 := by simp
  obtain ⟨a, b, c, d, e, f, g, h, o, i, j, k, l, m⟩ := p
  simp only [Prod.cells] at c0 c8 c13 hB hz HP
  unfold Prod.v
  go_enter Try.func29, Try.ntmps29
  go_upto_region 1 with fail
  generalize w.alloc (.cells #[.int .i64 a, .int .i64 b, .int .i64 c, .int .i64 d, .int .i64 e, .int .i64 f, .int .i64 g, .int .i64 h, .bool o, .int .i64 i, .int .i64 j, .int .i64 k, .int .i64 l, .bool m] 24) = w1 at *
  have n0 : w1.heap.size ≠ w.heap.size := by omega
  have n1 : w1.heap.size + 1 ≠ w.heap.size := by omega
  have n2 : w1.heap.size + 1 + 1 ≠ w.heap.size := by omega
  have HN := Lib.hid (show w.heap.size < w1.heap.size by omega)
  have HZ := Lib.hid hz; clear hz
  have HB := Lib.hid hB; clear hB
  go_cut [4, 5, 6] (fun s4 s5 s6 wx => NumsCut w ⟨a, b, c, d, e, f, g, h, o, i, j, k, l, m⟩ w.heap.size s4 s5 s6 wx)
  case first =>
    go_region_held3 (fun w' => w'.cell? ⟨w.heap.size, 0, none⟩ = some (.int .i64 a) ∧ w'.cell? ⟨w.heap.size, 8, none⟩ = some (.bool o) ∧ w'.cell? ⟨w.heap.size, 13, none⟩ = some (.bool m)) ((simp [World.cell?_drew, World.cell?_alloc_old, World.cell?_setCell_other, n0, n1, n2, n0.symm, n1.symm, n2.symm, c0, c8, c13]; done)) ((go_at_call 54; refine (bit_any _ _).mono ?_; rintro e w' ⟨rfl, rfl⟩))
    all_goals go_wp2_with fail
    all_goals go_meet
    all_goals exact ⟨_, _, _, rfl, rfl, rfl, by go_simp, by go_simp, by go_simp, (nums_keep HB.out HP.out HN.out _ _ _).1, (nums_keep HB.out HP.out HN.out _ _ _).2⟩
  case rest =>
    clear c0 c8 c13 n0 n1 n2 HP HZ HN HB
    obtain ⟨b4, b5, b6, rfl, rfl, rfl, d4, d5, d6, hB, hR⟩ := hcut
    generalize hP : (⟨a, b, c, d, e, f, g, h, o, i, j, k, l, m⟩ : Prod) = p at *
    have hR' : ∀ j u, p.cells[j]? = some u → wc.cell? ⟨w.heap.size, j, none⟩ = some u := fun j u hu => by have := hR j u hu; rwa [Nat.zero_add] at this
    have HF : ∀ k, k < 14 → ∃ ad o2, (fieldCells w.heap.size b4 b5 b6)[k * 3]? = some (.pointer (some ⟨ad, o2, none⟩)) ∧ wc.cell? ⟨ad, o2, none⟩ = some (.int .i64 (p.nums.getD k 0)) ∧ (fieldCells w.heap.size b4 b5 b6)[k * 3 + 1]? = some (.int .i64 (leasts.getD k 0)) ∧ (fieldCells w.heap.size b4 b5 b6)[k * 3 + 2]? = some (.int .i64 (mosts.getD k 0)) := by
      subst hP
      intro k hk
      have : k = 0 ∨ k = 1 ∨ k = 2 ∨ k = 3 ∨ k = 4 ∨ k = 5 ∨ k = 6 ∨ k = 7 ∨ k = 8 ∨ k = 9 ∨ k = 10 ∨ k = 11 ∨ k = 12 ∨ k = 13 := by omega
      rcases this with rfl | rfl | rfl | rfl | rfl | rfl | rfl | rfl | rfl | rfl | rfl | rfl | rfl | rfl <;> exact ⟨_, _, rfl, by first | exact d4 | exact d5 | exact d6 | exact hR' _ _ rfl, rfl, rfl⟩
    clear d4 d5 d6 hR hR'
    have HF2 := Lib.hid HF; clear HF
    have HPP := Lib.hid hP; clear hP
    have HB := Lib.hid hB; clear hB
    go_wp2_with fail
    refine (fields_any _ _ _ _ _).mono ?_
    rintro ed w' ⟨rfl, rfl⟩
    have hrow := row_new wc.drew (fieldCells w.heap.size b4 b5 b6).toArray 87
    have hB2 := Lib.hid (show Below wc.heap.size wc (wc.drew.alloc (.cells (fieldCells w.heap.size b4 b5 b6).toArray 87)) from (by repeat' (first | exact Below.refl _ _ | refine Below.alloc ?_ (by first | omega | (simp; done) | (simp; omega)) _ | refine Below.drew ?_ | refine below_drewN ?_ _ | refine Below.setCell ?_ (by first | omega | (simp; done) | (simp; omega)) _)))
    have hz2 : wc.drew.heap.size = wc.heap.size := rfl
    rw [hz2] at hrow
    have hrow' : ∀ j u, (fieldCells w.heap.size b4 b5 b6)[j]? = some u → (wc.drew.alloc (.cells (fieldCells w.heap.size b4 b5 b6).toArray 87)).cell? ⟨wc.heap.size, j, none⟩ = some u := fun j u hu => by have := hrow j u hu; rwa [Nat.zero_add] at this
    clear hrow hz2
    have HF3 := Lib.hid (show ∀ k, k < 14 → ∃ ad o2, (wc.drew.alloc (.cells (fieldCells w.heap.size b4 b5 b6).toArray 87)).cell? ⟨wc.heap.size, k * 3, none⟩ = some (.pointer (some ⟨ad, o2, none⟩)) ∧ (wc.drew.alloc (.cells (fieldCells w.heap.size b4 b5 b6).toArray 87)).cell? ⟨ad, o2, none⟩ = some (.int .i64 (p.nums.getD k 0)) ∧ (wc.drew.alloc (.cells (fieldCells w.heap.size b4 b5 b6).toArray 87)).cell? ⟨wc.heap.size, k * 3 + 1, none⟩ = some (.int .i64 (leasts.getD k 0)) ∧ (wc.drew.alloc (.cells (fieldCells w.heap.size b4 b5 b6).toArray 87)).cell? ⟨wc.heap.size, k * 3 + 2, none⟩ = some (.int .i64 (mosts.getD k 0)) from fun k hk => by
      obtain ⟨ad, o2, h1, h2, h3, h4⟩ := HF2.out k hk
      exact ⟨ad, o2, hrow' _ _ h1, (hB2.out.cell (p := ⟨ad, o2, none⟩) (World.block_lt_of_cell? _ _ h2)).trans h2, hrow' _ _ h3, hrow' _ _ h4⟩)
    clear hrow' HF2
    generalize wc.drew.alloc (.cells (fieldCells w.heap.size b4 b5 b6).toArray 87) = w2 at *
    have HBW := Lib.hid (HB.out.trans (hB2.out.mono HB.out.size))
    have hww : w.heap.size ≤ w2.heap.size := HBW.out.size
    go_wp2_with fail
    go_loopw [7, 8, 21] (fun v o i wr => ∃ k : Nat, k ≤ 14 ∧ i = .int .i64 k ∧ o = .bool (okTo p.nums k) ∧ Below w2.heap.size w2 wr ∧ Hid (wr.ownsRow w2.heap.size 3 1 v k ((i64s p.nums).take k))) (fun _ _ i _ => 14 - (intOf i).toNat)
    case atStart => exact ⟨0, by omega, rfl, rfl, Below.refl _ _, Lib.hid (own_none _ _ _ _)⟩
    case round =>
      obtain ⟨k, hk, rfl, rfl, hBr, hown⟩ := hrel
      have HBR := Lib.hid hBr
      have hwr : w2.heap.size ≤ wr.heap.size := hBr.size
      by_cases hlt : k < 14
      · obtain ⟨ad, o2, e0, e1, e2, e3⟩ := HF3.out k hlt
        replace e0 := (hBr.cell (p := ⟨_, _, none⟩) (World.block_lt_of_cell? _ _ e0)).trans e0
        replace e2 := (hBr.cell (p := ⟨_, _, none⟩) (World.block_lt_of_cell? _ _ e2)).trans e2
        replace e3 := (hBr.cell (p := ⟨_, _, none⟩) (World.block_lt_of_cell? _ _ e3)).trans e3
        have had := World.block_lt_of_cell? _ _ e1
        simp only at had
        replace e1 := (hBr.cell (p := ⟨ad, o2, none⟩) had).trans e1
        have hS := okTo_succ p.nums k
        have hA : okAt p.nums k = (decide (leasts.getD k 0 ≤ p.nums.getD k 0) && decide (p.nums.getD k 0 ≤ mosts.getD k 0)) := rfl
        have hT : (i64s p.nums).take (k + 1) = (i64s p.nums).take k ++ [.int .i64 (p.nums.getD k 0)] := by
          have hl : k < (i64s p.nums).length := by rw [i64s, List.length_map, Prod.nums_len]; exact hlt
          rw [List.take_succ_eq_append_getElem hl]
          congr 2
          simp only [i64s, List.getElem_map, List.getD_eq_getElem?_getD]
          rw [List.getElem?_eq_getElem (by rw [Prod.nums_len]; exact hlt)]; rfl
        have HS := Lib.hid hS; clear hS
        have HA := Lib.hid hA; clear hA
        have HT := Lib.hid hT; clear hT
        clear hBr
        generalize p.nums.getD k 0 = nk at *
        generalize leasts.getD k 0 = lk at *
        generalize mosts.getD k 0 = mk at *
        have had3 : ad < wr.heap.size := by omega
        go_wp2_with fail
        generalize hb0 : okTo p.nums k = b0 at *
        have fin : ∀ b1 : Bool, okTo p.nums (k + 1) = b1 → True := fun _ _ => trivial
        rcases (show (b0 = false ∧ okTo p.nums (k + 1) = false) ∨ (b0 = true ∧ nk < lk ∧ okTo p.nums (k + 1) = false) ∨ (b0 = true ∧ lk ≤ nk ∧ mk < nk ∧ okTo p.nums (k + 1) = false) ∨ (b0 = true ∧ lk ≤ nk ∧ nk ≤ mk ∧ okTo p.nums (k + 1) = true) by
          rw [HS.out, HA.out]
          cases b0 with
          | false => exact .inl ⟨rfl, rfl⟩
          | true =>
            by_cases h1 : lk ≤ nk
            · by_cases h2 : nk ≤ mk
              · exact .inr (.inr (.inr ⟨rfl, h1, h2, by simp [h1, h2]⟩))
              · exact .inr (.inr (.inl ⟨rfl, h1, by omega, by simp [h2]⟩))
            · exact .inr (.inl ⟨rfl, by omega, by simp [h1]⟩)) with ⟨rfl, hf⟩ | ⟨rfl, h1, hf⟩ | ⟨rfl, h1, h2, hf⟩ | ⟨rfl, h1, h2, hf⟩
        all_goals
          clear hb0
          have HOK := Lib.hid hf; clear hf
          clear HS HA fin
        · go_quiet (fail)
          go_wp2_with (at_builtin; go_must (refine wpList_append_sl (m := 1) el_int _ rfl rfl rfl rfl (own_alloc (own_drewN (own_alloc hown.out _) _) _) (sl_lit (n := 1) _ #[.int .i64 nk] 3 (by simp) rfl (by simp [maxLen]) (by intro u hu; simp at hu; subst hu; rfl)) (by omega) (by simp only [maxLen]; omega) (by first | omega | (simp; done) | (simp; omega)) ?_); intro v' w4 hown4 hg4 _ _; have HO4 := Lib.hid hown4; have HG4 := Lib.hid hg4; clear hown4 hg4)
          go_roundw
          case rel => exact ⟨k + 1, by omega, by go_num, by rw [HOK.out], Below.grown (show Below w2.heap.size w2 _ from (by repeat' (first | exact Below.refl _ _ | exact HBR.out | refine Below.alloc ?_ (by first | omega | (simp; done) | (simp; omega)) _ | refine Below.drew ?_ | refine below_drewN ?_ _ | refine Below.setCell ?_ (by first | omega | (simp; done) | (simp; omega)) _))) HG4.out (by simp; omega) (fun q hq => by have := (hown.out.lt q hq).1; omega), by rw [HT.out]; exact HO4⟩
          case measure => simp [intOf]; omega
        · have d1 : decide (lk ≤ nk) = false := by simp; omega
          clear h1
          go_quiet (fail)
          go_wp2_with (at_builtin; go_must (refine wpList_append_sl (m := 1) el_int _ rfl rfl rfl rfl (own_alloc (own_drewN (own_alloc hown.out _) _) _) (sl_lit (n := 1) _ #[.int .i64 nk] 3 (by simp) rfl (by simp [maxLen]) (by intro u hu; simp at hu; subst hu; rfl)) (by omega) (by simp only [maxLen]; omega) (by first | omega | (simp; done) | (simp; omega)) ?_); intro v' w4 hown4 hg4 _ _; have HO4 := Lib.hid hown4; have HG4 := Lib.hid hg4; clear hown4 hg4)
          go_roundw
          case rel => exact ⟨k + 1, by omega, by go_num, by rw [HOK.out], Below.grown (show Below w2.heap.size w2 _ from (by repeat' (first | exact Below.refl _ _ | exact HBR.out | refine Below.alloc ?_ (by first | omega | (simp; done) | (simp; omega)) _ | refine Below.drew ?_ | refine below_drewN ?_ _ | refine Below.setCell ?_ (by first | omega | (simp; done) | (simp; omega)) _))) HG4.out (by simp; omega) (fun q hq => by have := (hown.out.lt q hq).1; omega), by rw [HT.out]; exact HO4⟩
          case measure => simp [intOf]; omega
        · have d1 : decide (lk ≤ nk) = true := by simp; omega
          have d2 : decide (nk ≤ mk) = false := by simp; omega
          clear h1 h2
          go_quiet (fail)
          go_wp2_with (at_builtin; go_must (refine wpList_append_sl (m := 1) el_int _ rfl rfl rfl rfl (own_alloc (own_drewN (own_alloc hown.out _) _) _) (sl_lit (n := 1) _ #[.int .i64 nk] 3 (by simp) rfl (by simp [maxLen]) (by intro u hu; simp at hu; subst hu; rfl)) (by omega) (by simp only [maxLen]; omega) (by first | omega | (simp; done) | (simp; omega)) ?_); intro v' w4 hown4 hg4 _ _; have HO4 := Lib.hid hown4; have HG4 := Lib.hid hg4; clear hown4 hg4)
          go_roundw
          case rel => exact ⟨k + 1, by omega, by go_num, by rw [HOK.out], Below.grown (show Below w2.heap.size w2 _ from (by repeat' (first | exact Below.refl _ _ | exact HBR.out | refine Below.alloc ?_ (by first | omega | (simp; done) | (simp; omega)) _ | refine Below.drew ?_ | refine below_drewN ?_ _ | refine Below.setCell ?_ (by first | omega | (simp; done) | (simp; omega)) _))) HG4.out (by simp; omega) (fun q hq => by have := (hown.out.lt q hq).1; omega), by rw [HT.out]; exact HO4⟩
          case measure => simp [intOf]; omega
        · have d1 : decide (lk ≤ nk) = true := by simp; omega
          have d2 : decide (nk ≤ mk) = true := by simp; omega
          clear h1 h2
          go_quiet (fail)
          go_wp2_with (at_builtin; go_must (refine wpList_append_sl (m := 1) el_int _ rfl rfl rfl rfl (own_alloc (own_drewN (own_alloc hown.out _) _) _) (sl_lit (n := 1) _ #[.int .i64 nk] 3 (by simp) rfl (by simp [maxLen]) (by intro u hu; simp at hu; subst hu; rfl)) (by omega) (by simp only [maxLen]; omega) (by first | omega | (simp; done) | (simp; omega)) ?_); intro v' w4 hown4 hg4 _ _; have HO4 := Lib.hid hown4; have HG4 := Lib.hid hg4; clear hown4 hg4)
          go_roundw
          case rel => exact ⟨k + 1, by omega, by go_num, by rw [HOK.out], Below.grown (show Below w2.heap.size w2 _ from (by repeat' (first | exact Below.refl _ _ | exact HBR.out | refine Below.alloc ?_ (by first | omega | (simp; done) | (simp; omega)) _ | refine Below.drew ?_ | refine below_drewN ?_ _ | refine Below.setCell ?_ (by first | omega | (simp; done) | (simp; omega)) _))) HG4.out (by simp; omega) (fun q hq => by have := (hown.out.lt q hq).1; omega), by rw [HT.out]; exact HO4⟩
          case measure => simp [intOf]; omega
      · obtain rfl : k = 14 := by omega
        have hT : (i64s p.nums).take 14 = i64s p.nums := by rw [List.take_of_length_le]; rw [i64s, List.length_map, Prod.nums_len]; exact Nat.le_refl _
        rw [hT] at hown
        have hfin : okTo p.nums 14 = p.right := rfl
        rw [hfin]
        clear hT hfin
        have HBR2 := Lib.hid hBr; clear hBr
        go_wp2_with fail
        go_ret2
        exact ⟨_, rfl, own_base hown.out hww, HBW.out.trans (HBR2.out.mono hww)⟩
end Go.Proofs.Ytlbfeoobeleobaa
