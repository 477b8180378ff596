/- The hotlist: Apply, Has, Items, Version; In of the reference. -/
import Derived.Test.YtpjkehfmdmmfeaaApply
import Derived.StillTailTactics
namespace Go.Proofs.Ytpjkehfmdmmfeaa
open Go.RowKit
set_option linter.unusedVariables false
set_option linter.unusedSimpArgs false

theorem ApplyPost.from {w w1 : World} {h : Nat} {ver : Int} {items : List Item} {e to : Int} {next : List Item} {ed : Ending} {w' : World} (H : ApplyPost w1 h ver items e to next ed w') (hB : Below w.heap.size w w1) : ApplyPost w h ver items e to next ed w' :=
  ⟨H.1, (Chg.ofBelow hB).then H.2.1 (fun i _ hi => hi), H.2.2⟩

set_option maxHeartbeats 1000000 in
set_option maxRecDepth 100000 in
theorem hot_apply (h : Nat) (ver to : Int) (items add off : List Item) (va vo : Value) (w : World)
    (hL : LAt w h ver items) (hadd : Sl 5 w va add.length (itemCells add)) (hoff : Sl 5 w vo off.length (itemCells off))
    (hlen : items.length ≤ 64) (hsum : (add.length + off.length) * 40 ≤ 140737488355328) (hal : add.length * 40 ≤ 140737488351232) (hv0 : 0 ≤ ver) (hv1 : ver ≤ 1000000) :
    Calls Try.prog 7 #[.pointer (some ⟨h, 0, none⟩), .agg #[.int .i64 to, va, vo]] w (ApplyPost w h ver items (applyE hotRightB ver items to add off) to (nextItems items add off)) := by
  obtain ⟨aa, ca, rfl⟩ := hadd.shape
  obtain ⟨ao, co, rfl⟩ := hoff.shape
  have HL := Lib.hid hL; clear hL
  have HA := Lib.hid hadd; clear hadd
  have HO := Lib.hid hoff; clear hoff
  have HS := Lib.hid hsum; clear hsum
  have HAL := Lib.hid hal; clear hal
  have HB := Lib.hid ((Below.refl w.heap.size w).alloc (Nat.le_refl _) (Obj.cells #[.int .i64 to, .slice aa add.length ca, .slice ao off.length co] 24))
  have b0 : (w.alloc (Obj.cells #[.int .i64 to, .slice aa add.length ca, .slice ao off.length co] 24)).cell? ⟨w.heap.size, 0, none⟩ = some (.int .i64 to) := by go_simp
  have b1 : (w.alloc (Obj.cells #[.int .i64 to, .slice aa add.length ca, .slice ao off.length co] 24)).cell? ⟨w.heap.size, 1, none⟩ = some (.slice aa add.length ca) := by go_simp
  have b2 : (w.alloc (Obj.cells #[.int .i64 to, .slice aa add.length ca, .slice ao off.length co] 24)).cell? ⟨w.heap.size, 2, none⟩ = some (.slice ao off.length co) := by go_simp
  go_enter Try.func7, Try.ntmps7
  go_wp2_with fail
  generalize w.alloc (Obj.cells #[.int .i64 to, .slice aa add.length ca, .slice ao off.length co] 24) = w1 at *
  go_still_tail 4, (by kernel_rfl)
  change wpList _ _ _ _ _ w1.drew
  go_wp2_with fail
  refine (apply_any h 23 #[] ver to items add off _ _ hotRightB _ (HL.out.ofBelow HB.out.drew) (HA.out.ofBelow HB.out.drew) (HO.out.ofBelow HB.out.drew) hlen HS.out HAL.out hv0 hv1 (fun args w' => by go_simp) (fun x _ w' _ => hotRight_any x w')).mono ?_
  intro e w' hpost
  have HP := Lib.hid (hpost.from HB.out.drew)
  obtain ⟨rfl, -, -⟩ := hpost
  go_wp2_with fail
  go_ret
  exact HP.out

set_option maxHeartbeats 400000 in
theorem hot_version (h : Nat) (ver : Int) (items : List Item) (w : World) (hL : LAt w h ver items) : Calls Try.prog 11 #[.pointer (some ⟨h, 0, none⟩)] w (RetI ver w) := by
  obtain ⟨v, h0, h1, h2, h3⟩ := hL.ex
  clear hL h2 h3
  go_enter Try.func11, Try.ntmps11
  go_wp2_with fail
  go_ret
  exact ⟨rfl, Below.refl _ _⟩

set_option maxHeartbeats 400000 in
theorem hot_items (h : Nat) (ver : Int) (items : List Item) (w : World) (hL : LAt w h ver items) (hb : items.length * 40 ≤ 140737488355328) : Calls Try.prog 8 #[.pointer (some ⟨h, 0, none⟩)] w (NewSl 35 5 items.length (itemCells items) w) := by
  obtain ⟨v, h0, h1, h2, h3⟩ := hL.ex
  have H2 := Lib.hid h2
  have HBB := Lib.hid hb
  clear hL h2 h3 hb
  go_enter Try.func8, Try.ntmps8
  go_wp2_with fail
  refine (clone_Item _ _ _ _ H2.out HBB.out).mono ?_
  rintro e w' ⟨v', rfl, hown, hB⟩
  have HO := Lib.hid hown; clear hown
  go_wp2_with fail
  go_ret
  exact ⟨_, rfl, HO.out, hB⟩

def hasB (card owner id : Int) (x : Item) : Bool := (x.owner == 0) && (x.card == card) || aboutB x card owner id

set_option maxHeartbeats 1000000 in
theorem hasCl_any (x : Item) (card owner id : Int) (b1 b2 b3 : Nat) (w : World) (h1 : w.cell? ⟨b1, 0, none⟩ = some (.int .i64 card)) (h2 : w.cell? ⟨b2, 0, none⟩ = some (.int .i64 owner)) (h3 : w.cell? ⟨b3, 0, none⟩ = some (.int .i64 id)) :
    Calls Try.prog 27 #[x.v, .pointer (some ⟨b1, 0, none⟩), .pointer (some ⟨b2, 0, none⟩), .pointer (some ⟨b3, 0, none⟩)] w (RetB (hasB card owner id x) w) := by
  have HN := fun w => Lib.hid (about_any x card owner id w)
  have l1 := World.block_lt_of_cell? _ _ h1
  have l2 := World.block_lt_of_cell? _ _ h2
  have l3 := World.block_lt_of_cell? _ _ h3
  simp only at l1 l2 l3
  obtain ⟨c, o, i, n, m⟩ := x
  unfold Item.v at *
  have n1 : b1 ≠ w.heap.size := by omega
  have n2 : b2 ≠ w.heap.size := by omega
  have n3 : b3 ≠ w.heap.size := by omega
  by_cases ho : o = 0
  · subst ho
    by_cases hc : c = card
    · have d1 : (c == card) = true := by rw [beq_iff_eq]; exact hc
      go_enter Try.func27, Try.ntmps27
      go_wp2_with fail
      go_ret
      refine ⟨ret_bool ?_, (Below.refl _ _).alloc (Nat.le_refl _) _⟩
      simp [hasB, hc]
    · have d1 : (c == card) = false := by rw [beq_eq_false_iff_ne]; exact hc
      have HC := Lib.hid hc; clear hc
      go_enter Try.func27, Try.ntmps27
      go_wp2_with fail
      refine ((HN _).out).mono ?_
      rintro e w' ⟨rfl, hB⟩
      have HB' := Lib.hid (((Below.refl w.heap.size w).alloc (Nat.le_refl _) _).trans (hB.mono (by simp)))
      clear hB
      go_wp2_with fail
      go_ret
      refine ⟨ret_bool ?_, HB'.out⟩
      simp [hasB, HC.out]
  · have d0 : (o == 0) = false := by rw [beq_eq_false_iff_ne]; exact ho
    have HO := Lib.hid ho; clear ho
    go_enter Try.func27, Try.ntmps27
    go_wp2_with fail
    refine ((HN _).out).mono ?_
    rintro e w' ⟨rfl, hB⟩
    have HB' := Lib.hid (((Below.refl w.heap.size w).alloc (Nat.le_refl _) _).trans (hB.mono (by simp)))
    clear hB
    go_wp2_with fail
    go_ret
    refine ⟨ret_bool ?_, HB'.out⟩
    simp [hasB, HO.out]

set_option maxHeartbeats 1000000 in
theorem hot_has (h : Nat) (ver : Int) (items : List Item) (card owner id : Int) (w : World) (hL : LAt w h ver items) (hl : items.length ≤ 140737488355328) :
    Calls Try.prog 10 #[.pointer (some ⟨h, 0, none⟩), .int .i64 card, .int .i64 owner, .int .i64 id] w (RetB (items.any (hasB card owner id)) w) := by
  have hlt := hL.lt
  obtain ⟨v, h0, h1, h2, h3⟩ := hL.ex
  have H2 := Lib.hid h2
  clear hL h0 h2 h3
  have n1 : h ≠ w.heap.size := by omega
  have n2 : h ≠ w.heap.size + 1 := by omega
  have n3 : h ≠ w.heap.size + 1 + 1 := by omega
  obtain ⟨a, c, rfl⟩ := H2.out.shape
  go_enter Try.func10, Try.ntmps10
  have hB3 : Below w.heap.size w (((w.alloc (.cells #[.int .i64 card] 3)).alloc (.cells #[.int .i64 owner] 3)).alloc (.cells #[.int .i64 id] 3)) := (((Below.refl w.heap.size w).alloc (Nat.le_refl _) _).alloc (by simp) _).alloc (by simp; omega) _
  have q1 := (hB3.cell (p := ⟨h, 1, none⟩) hlt).trans h1
  clear h1 hB3
  go_wp2_with fail
  refine (containsFunc_Item Item.g _ 27 _ items (hasB card owner id) _ ((((H2.out.items).ofBelow ((Below.refl _ _).alloc (Nat.le_refl _) _)).ofBelow ((Below.refl _ _).alloc (Nat.le_refl _) _)).ofBelow ((Below.refl _ _).alloc (Nat.le_refl _) _)) hl (fun args w' => by go_simp) (fun x _ w' hB => ?_)).mono ?_
  · obtain ⟨hcc, hff⟩ := bcell hB
    refine hasCl_any x card owner id _ _ _ w' ?_ ?_ ?_
    · rw [hcc _ _ (by simp; omega)]; go_simp
    · rw [hcc _ _ (by simp)]; go_simp
    · rw [hcc _ _ (by simp)]; go_simp
  rintro e w' ⟨rfl, hB⟩
  have HB := Lib.hid (((((Below.refl w.heap.size w).alloc (Nat.le_refl _) _).alloc (by simp) _).alloc (by simp; omega) _).trans (hB.mono (by simp; omega)))
  go_wp2_with fail
  go_ret
  exact ⟨rfl, HB.out⟩

set_option maxHeartbeats 1000000 in
theorem ref_in (v : Value) (y : Item) (xs : List Item) (w : World) (hsl : SlG 5 Item.g w v xs) (hn : xs.length ≤ 140737488355328) :
    Calls Try.prog 9 #[v, y.v] w (RetB (xs.any (itemEqB y)) w) := by
  obtain ⟨a, c, rfl, hlc, hc⟩ := hsl
  unfold Item.v
  rcases hc with rfl | ⟨b, o, rfl, hb, hc⟩
  · go_enter Try.func9, Try.ntmps9
    go_wp2_with fail
    go_loopw [5] (fun i wr => i = .int .i64 0 ∧ Below w.heap.size w wr) (fun _ _ => 0)
    case atStart => exact ⟨rfl, (Below.refl _ _).alloc (Nat.le_refl _) _⟩
    case round =>
      obtain ⟨rfl, hB⟩ := hrel
      go_wp2_with fail
      go_ret
      exact ⟨rfl, hB⟩
  · go_enter Try.func9, Try.ntmps9
    go_wp2_with fail
    go_loopw [5] (fun i wr => ∃ k : Nat, k ≤ xs.length ∧ i = .int .i64 k ∧ Below w.heap.size w wr ∧ Row wr w.heap.size 0 y.cells ∧ Hid (∀ x ∈ xs.take k, itemEqB y x = false)) (fun i _ => xs.length - (intOf i).toNat)
    case atStart => exact ⟨0, by omega, rfl, (Below.refl _ _).alloc (Nat.le_refl _) _, row_new _ _ _, by simp [Hid]⟩
    case round =>
      obtain ⟨k, hk, rfl, hB, hy, hno⟩ := hrel
      obtain ⟨y0, y1, y2, y3, y4⟩ := item_cells_at hy
      have HY := Lib.hid hy; clear hy
      by_cases hlt : k < xs.length
      · obtain ⟨c0, c1, c2, c3, c4⟩ := item_cells_at ((SlG.item_row hc hlt).keep (hB.block b hb))
        have HC := Lib.hid hc; clear hc
        have HN := Lib.hid hn
        have heq := item_eql xs[k] y
        rw [show itemEqB xs[k] y = itemEqB y xs[k] by simp [itemEqB, eq_comm]] at heq
        simp only [Item.v] at heq
        go_wp2_with fail
        go_quiet (fail)
        clear heq
        cases hpk : itemEqB y xs[k] with
        | false =>
          have HX := Lib.hid hpk; clear hpk
          go_wp2_with fail
          go_roundw
          case rel => exact ⟨k + 1, by omega, by go_num, below_drewN hB _, HY.out, fun x hx => by
            rw [List.take_succ_eq_append_getElem hlt] at hx
            rcases List.mem_append.1 hx with h | h
            · exact hno.out x h
            · rw [List.mem_singleton.1 h]; exact HX.out⟩
          case measure => simp [intOf]; omega
        | true =>
          have HX := Lib.hid hpk; clear hpk
          go_wp2_with fail
          go_ret
          exact ⟨ret_bool (List.any_eq_true.2 ⟨xs[k], List.getElem_mem hlt, HX.out⟩).symm, below_drewN hB _⟩
      · obtain rfl : k = xs.length := by omega
        go_wp2_with fail
        go_ret
        exact ⟨ret_bool (List.any_eq_false.2 (fun x hx => by have := hno.out x (by rw [List.take_length]; exact hx); simp [this])).symm, hB⟩
end Go.Proofs.Ytpjkehfmdmmfeaa
