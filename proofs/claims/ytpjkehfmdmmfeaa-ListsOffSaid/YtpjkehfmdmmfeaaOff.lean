/- ListsOff answers true. -/
import Derived.Test.YtpjkehfmdmmfeaaOffPure
import Derived.Test.YtpjkehfmdmmfeaaAwk
import Derived.Deep.RegionHeld3
namespace Go.Proofs.Ytpjkehfmdmmfeaa
open Go.RowKit
set_option linter.unusedVariables false
set_option linter.unusedSimpArgs false

theorem tmod_index (a : Int) (L : Nat) (hL : 0 < L) (hL2 : L ≤ 1000000000) : ∃ j : Nat, j < L ∧ (wrap64 (a.tmod L + L)).tmod L = j := by
  have h1 : -(L : Int) < a.tmod L := by
    rcases Int.le_total 0 a with h | h
    · have := Int.tmod_nonneg (L : Int) h; omega
    · have h3 := Int.tmod_lt_of_pos (-a) (b := (L : Int)) (by omega)
      rw [Int.neg_tmod] at h3; omega
  have h2 : a.tmod L < L := Int.tmod_lt_of_pos a (by omega)
  have hw : wrap64 (a.tmod L + L) = a.tmod L + L := by unfold wrap64; omega
  rw [hw, Int.tmod_eq_emod_of_nonneg (by omega)]
  have h3 : 0 ≤ (a.tmod L + L) % L := Int.emod_nonneg _ (by omega)
  have h4 : (a.tmod L + L) % L < L := Int.emod_lt_of_pos _ (by omega)
  exact ⟨((a.tmod L + L) % L).toNat, by omega, by omega⟩

theorem ret_true_of {b : Bool} (h : b = true) : Ending.returned (.bool b) = .returned (.bool true) := by rw [h]

/-- what holds while the statement runs: the list, and that nothing that was there before has changed -/
structure RI (w : World) (h : Nat) (W : World) (ver : Int) (items : List Item) : Prop where
  l : LAt W h ver items
  b : Below w.heap.size w W
  hw : w.heap.size ≤ h
theorem RI.ofBelow {w : World} {h : Nat} {W W' : World} {ver : Int} {items : List Item} (H : RI w h W ver items) (hB : Below W.heap.size W W') : RI w h W' ver items := ⟨H.l.ofBelow hB, H.b.trans (hB.mono H.b.size), H.hw⟩

theorem s5_below {W W' : World} {xb : Nat} {x : Item} (hB : Below W.heap.size W W') (hS : W.cell? ⟨xb, 0, none⟩ = some (.int .i64 x.card) ∧ W.cell? ⟨xb, 1, none⟩ = some (.int .i64 x.owner) ∧ W.cell? ⟨xb, 2, none⟩ = some (.int .i64 x.id) ∧ W.cell? ⟨xb, 3, none⟩ = some (.int .i64 x.number) ∧ W.cell? ⟨xb, 4, none⟩ = some (.int .i64 x.amount)) : W'.cell? ⟨xb, 0, none⟩ = some (.int .i64 x.card) ∧ W'.cell? ⟨xb, 1, none⟩ = some (.int .i64 x.owner) ∧ W'.cell? ⟨xb, 2, none⟩ = some (.int .i64 x.id) ∧ W'.cell? ⟨xb, 3, none⟩ = some (.int .i64 x.number) ∧ W'.cell? ⟨xb, 4, none⟩ = some (.int .i64 x.amount) := by
  obtain ⟨s0, s1, s2, s3, s4⟩ := hS
  have hl := World.block_lt_of_cell? _ _ s0
  exact ⟨(hB.cell (p := ⟨xb, 0, none⟩) hl).trans s0, (hB.cell (p := ⟨xb, 1, none⟩) hl).trans s1, (hB.cell (p := ⟨xb, 2, none⟩) hl).trans s2, (hB.cell (p := ⟨xb, 3, none⟩) hl).trans s3, (hB.cell (p := ⟨xb, 4, none⟩) hl).trans s4⟩
theorem s5_chg {W W' : World} {xb h : Nat} {x : Item} (hC : Chg (fun b => b = h) W W') (hne : xb ≠ h) (hS : W.cell? ⟨xb, 0, none⟩ = some (.int .i64 x.card) ∧ W.cell? ⟨xb, 1, none⟩ = some (.int .i64 x.owner) ∧ W.cell? ⟨xb, 2, none⟩ = some (.int .i64 x.id) ∧ W.cell? ⟨xb, 3, none⟩ = some (.int .i64 x.number) ∧ W.cell? ⟨xb, 4, none⟩ = some (.int .i64 x.amount)) : W'.cell? ⟨xb, 0, none⟩ = some (.int .i64 x.card) ∧ W'.cell? ⟨xb, 1, none⟩ = some (.int .i64 x.owner) ∧ W'.cell? ⟨xb, 2, none⟩ = some (.int .i64 x.id) ∧ W'.cell? ⟨xb, 3, none⟩ = some (.int .i64 x.number) ∧ W'.cell? ⟨xb, 4, none⟩ = some (.int .i64 x.amount) := by
  obtain ⟨s0, s1, s2, s3, s4⟩ := hS
  have hb := hC.block xb (World.block_lt_of_cell? _ _ s0) hne
  exact ⟨(World.cell?_of_block (a := ⟨xb, 0, none⟩) hb).trans s0, (World.cell?_of_block (a := ⟨xb, 1, none⟩) hb).trans s1, (World.cell?_of_block (a := ⟨xb, 2, none⟩) hb).trans s2, (World.cell?_of_block (a := ⟨xb, 3, none⟩) hb).trans s3, (World.cell?_of_block (a := ⟨xb, 4, none⟩) hb).trans s4⟩

theorem off_apply (w W : World) (h xb : Nat) (x : Item) (ver to : Int) (items add off : List Item) (va vo : Value) (hR : RI w h W ver items) (hS : W.cell? ⟨xb, 0, none⟩ = some (.int .i64 x.card) ∧ W.cell? ⟨xb, 1, none⟩ = some (.int .i64 x.owner) ∧ W.cell? ⟨xb, 2, none⟩ = some (.int .i64 x.id) ∧ W.cell? ⟨xb, 3, none⟩ = some (.int .i64 x.number) ∧ W.cell? ⟨xb, 4, none⟩ = some (.int .i64 x.amount)) (hne : xb ≠ h)
    (hadd : Sl 5 W va add.length (itemCells add)) (hoff : Sl 5 W vo off.length (itemCells off)) (hlen : items.length ≤ 64) (hsum : (add.length + off.length) ≤ 1000) (hv0 : 0 ≤ ver) (hv1 : ver ≤ 1000000)
    (he : applyE hotRightB ver items to add off = 0) :
    Calls Try.prog 7 #[.pointer (some ⟨h, 0, none⟩), .agg #[.int .i64 to, va, vo]] W fun e w' => e = .returned (.int .i64 0) ∧ RI w h w' to (nextItems items add off) ∧ (w'.cell? ⟨xb, 0, none⟩ = some (.int .i64 x.card) ∧ w'.cell? ⟨xb, 1, none⟩ = some (.int .i64 x.owner) ∧ w'.cell? ⟨xb, 2, none⟩ = some (.int .i64 x.id) ∧ w'.cell? ⟨xb, 3, none⟩ = some (.int .i64 x.number) ∧ w'.cell? ⟨xb, 4, none⟩ = some (.int .i64 x.amount)) := by
  refine (hot_apply h ver to items add off va vo W hR.l hadd hoff hlen (by omega) (by omega) hv0 hv1).mono ?_
  rintro e w' ⟨rfl, hC, hL⟩
  rw [he] at hL ⊢
  rw [if_pos rfl, if_pos rfl] at hL
  exact ⟨rfl, ⟨hL, hR.b.trans (hC.toBelow hR.b.size (fun i hi e => by have := hR.hw; omega)), hR.hw⟩, s5_chg hC hne hS⟩

theorem off_items (w W : World) (h xb : Nat) (x : Item) (ver : Int) (items : List Item) (hR : RI w h W ver items) (hS : W.cell? ⟨xb, 0, none⟩ = some (.int .i64 x.card) ∧ W.cell? ⟨xb, 1, none⟩ = some (.int .i64 x.owner) ∧ W.cell? ⟨xb, 2, none⟩ = some (.int .i64 x.id) ∧ W.cell? ⟨xb, 3, none⟩ = some (.int .i64 x.number) ∧ W.cell? ⟨xb, 4, none⟩ = some (.int .i64 x.amount)) (hlen : items.length ≤ 64) :
    Calls Try.prog 8 #[.pointer (some ⟨h, 0, none⟩)] W fun e w' => ∃ a c, e = .returned (.slice a items.length c) ∧ Sl 5 w' (.slice a items.length c) items.length (itemCells items) ∧ RI w h w' ver items ∧ (w'.cell? ⟨xb, 0, none⟩ = some (.int .i64 x.card) ∧ w'.cell? ⟨xb, 1, none⟩ = some (.int .i64 x.owner) ∧ w'.cell? ⟨xb, 2, none⟩ = some (.int .i64 x.id) ∧ w'.cell? ⟨xb, 3, none⟩ = some (.int .i64 x.number) ∧ w'.cell? ⟨xb, 4, none⟩ = some (.int .i64 x.amount)) := by
  refine (hot_items h ver items W hR.l (by omega)).mono ?_
  rintro e w' ⟨v', rfl, hown, hB⟩
  obtain ⟨a, c, rfl⟩ := own_shape hown
  exact ⟨a, c, rfl, own_sl hown (flat_one Item.cells_one items), hR.ofBelow hB, s5_below hB hS⟩

theorem off_in (w W : World) (h xb : Nat) (x : Item) (ver : Int) (items : List Item) (v : Value) (hR : RI w h W ver items) (hS : W.cell? ⟨xb, 0, none⟩ = some (.int .i64 x.card) ∧ W.cell? ⟨xb, 1, none⟩ = some (.int .i64 x.owner) ∧ W.cell? ⟨xb, 2, none⟩ = some (.int .i64 x.id) ∧ W.cell? ⟨xb, 3, none⟩ = some (.int .i64 x.number) ∧ W.cell? ⟨xb, 4, none⟩ = some (.int .i64 x.amount)) (hlen : items.length ≤ 64) (hsl : Sl 5 W v items.length (itemCells items)) (hno : x ∉ items) :
    Calls Try.prog 9 #[v, .agg #[.int .i64 x.card, .int .i64 x.owner, .int .i64 x.id, .int .i64 x.number, .int .i64 x.amount]] W fun e w' => e = .returned (.bool false) ∧ RI w h w' ver items ∧ (w'.cell? ⟨xb, 0, none⟩ = some (.int .i64 x.card) ∧ w'.cell? ⟨xb, 1, none⟩ = some (.int .i64 x.owner) ∧ w'.cell? ⟨xb, 2, none⟩ = some (.int .i64 x.id) ∧ w'.cell? ⟨xb, 3, none⟩ = some (.int .i64 x.number) ∧ w'.cell? ⟨xb, 4, none⟩ = some (.int .i64 x.amount)) := by
  refine (ref_in v x items W hsl.items (by omega)).mono ?_
  rintro e w' ⟨rfl, hB⟩
  rw [(any_ne items x).2 hno]
  exact ⟨rfl, hR.ofBelow hB, s5_below hB hS⟩

theorem s10_below {W W' : World} {xb lb lo : Nat} {x : Item} (hB : Below W.heap.size W W') (hS : W.cell? ⟨xb, 0, none⟩ = some (.int .i64 x.card) ∧ W.cell? ⟨xb, 1, none⟩ = some (.int .i64 x.owner) ∧ W.cell? ⟨xb, 2, none⟩ = some (.int .i64 x.id) ∧ W.cell? ⟨xb, 3, none⟩ = some (.int .i64 x.number) ∧ W.cell? ⟨xb, 4, none⟩ = some (.int .i64 x.amount) ∧ W.cell? ⟨lb, lo, none⟩ = some (.int .i64 x.card) ∧ W.cell? ⟨lb, lo + 1, none⟩ = some (.int .i64 x.owner) ∧ W.cell? ⟨lb, lo + 2, none⟩ = some (.int .i64 x.id) ∧ W.cell? ⟨lb, lo + 3, none⟩ = some (.int .i64 x.number) ∧ W.cell? ⟨lb, lo + 4, none⟩ = some (.int .i64 x.amount)) : W'.cell? ⟨xb, 0, none⟩ = some (.int .i64 x.card) ∧ W'.cell? ⟨xb, 1, none⟩ = some (.int .i64 x.owner) ∧ W'.cell? ⟨xb, 2, none⟩ = some (.int .i64 x.id) ∧ W'.cell? ⟨xb, 3, none⟩ = some (.int .i64 x.number) ∧ W'.cell? ⟨xb, 4, none⟩ = some (.int .i64 x.amount) ∧ W'.cell? ⟨lb, lo, none⟩ = some (.int .i64 x.card) ∧ W'.cell? ⟨lb, lo + 1, none⟩ = some (.int .i64 x.owner) ∧ W'.cell? ⟨lb, lo + 2, none⟩ = some (.int .i64 x.id) ∧ W'.cell? ⟨lb, lo + 3, none⟩ = some (.int .i64 x.number) ∧ W'.cell? ⟨lb, lo + 4, none⟩ = some (.int .i64 x.amount) := by
  obtain ⟨s0, s1, s2, s3, s4, t0, t1, t2, t3, t4⟩ := hS
  have hl := World.block_lt_of_cell? _ _ s0
  have hm := World.block_lt_of_cell? _ _ t0
  exact ⟨(hB.cell (p := ⟨xb, 0, none⟩) hl).trans s0, (hB.cell (p := ⟨xb, 1, none⟩) hl).trans s1, (hB.cell (p := ⟨xb, 2, none⟩) hl).trans s2, (hB.cell (p := ⟨xb, 3, none⟩) hl).trans s3, (hB.cell (p := ⟨xb, 4, none⟩) hl).trans s4,
    (hB.cell (p := ⟨lb, lo, none⟩) hm).trans t0, (hB.cell (p := ⟨lb, lo + 1, none⟩) hm).trans t1, (hB.cell (p := ⟨lb, lo + 2, none⟩) hm).trans t2, (hB.cell (p := ⟨lb, lo + 3, none⟩) hm).trans t3, (hB.cell (p := ⟨lb, lo + 4, none⟩) hm).trans t4⟩

theorem off_has (w W : World) (h xb lb lo : Nat) (x : Item) (ver : Int) (items : List Item) (hR : RI w h W ver items) (hS : W.cell? ⟨xb, 0, none⟩ = some (.int .i64 x.card) ∧ W.cell? ⟨xb, 1, none⟩ = some (.int .i64 x.owner) ∧ W.cell? ⟨xb, 2, none⟩ = some (.int .i64 x.id) ∧ W.cell? ⟨xb, 3, none⟩ = some (.int .i64 x.number) ∧ W.cell? ⟨xb, 4, none⟩ = some (.int .i64 x.amount) ∧ W.cell? ⟨lb, lo, none⟩ = some (.int .i64 x.card) ∧ W.cell? ⟨lb, lo + 1, none⟩ = some (.int .i64 x.owner) ∧ W.cell? ⟨lb, lo + 2, none⟩ = some (.int .i64 x.id) ∧ W.cell? ⟨lb, lo + 3, none⟩ = some (.int .i64 x.number) ∧ W.cell? ⟨lb, lo + 4, none⟩ = some (.int .i64 x.amount)) (hlen : items.length ≤ 64) (hh : items.any (hasB x.card x.owner x.id) = true) :
    Calls Try.prog 10 #[.pointer (some ⟨h, 0, none⟩), .int .i64 x.card, .int .i64 x.owner, .int .i64 x.id] W fun e w' => e = .returned (.bool true) ∧ RI w h w' ver items ∧ (w'.cell? ⟨xb, 0, none⟩ = some (.int .i64 x.card) ∧ w'.cell? ⟨xb, 1, none⟩ = some (.int .i64 x.owner) ∧ w'.cell? ⟨xb, 2, none⟩ = some (.int .i64 x.id) ∧ w'.cell? ⟨xb, 3, none⟩ = some (.int .i64 x.number) ∧ w'.cell? ⟨xb, 4, none⟩ = some (.int .i64 x.amount) ∧ w'.cell? ⟨lb, lo, none⟩ = some (.int .i64 x.card) ∧ w'.cell? ⟨lb, lo + 1, none⟩ = some (.int .i64 x.owner) ∧ w'.cell? ⟨lb, lo + 2, none⟩ = some (.int .i64 x.id) ∧ w'.cell? ⟨lb, lo + 3, none⟩ = some (.int .i64 x.number) ∧ w'.cell? ⟨lb, lo + 4, none⟩ = some (.int .i64 x.amount)) := by
  refine (hot_has h ver items x.card x.owner x.id W hR.l (by omega)).mono ?_
  rintro e w' ⟨rfl, hB⟩
  rw [hh]
  exact ⟨rfl, hR.ofBelow hB, s10_below hB hS⟩
theorem off_version (w W : World) (h xb lb lo : Nat) (x : Item) (ver : Int) (items : List Item) (hR : RI w h W ver items) (hS : W.cell? ⟨xb, 0, none⟩ = some (.int .i64 x.card) ∧ W.cell? ⟨xb, 1, none⟩ = some (.int .i64 x.owner) ∧ W.cell? ⟨xb, 2, none⟩ = some (.int .i64 x.id) ∧ W.cell? ⟨xb, 3, none⟩ = some (.int .i64 x.number) ∧ W.cell? ⟨xb, 4, none⟩ = some (.int .i64 x.amount) ∧ W.cell? ⟨lb, lo, none⟩ = some (.int .i64 x.card) ∧ W.cell? ⟨lb, lo + 1, none⟩ = some (.int .i64 x.owner) ∧ W.cell? ⟨lb, lo + 2, none⟩ = some (.int .i64 x.id) ∧ W.cell? ⟨lb, lo + 3, none⟩ = some (.int .i64 x.number) ∧ W.cell? ⟨lb, lo + 4, none⟩ = some (.int .i64 x.amount)) :
    Calls Try.prog 11 #[.pointer (some ⟨h, 0, none⟩)] W fun e w' => e = .returned (.int .i64 ver) ∧ RI w h w' ver items ∧ (w'.cell? ⟨xb, 0, none⟩ = some (.int .i64 x.card) ∧ w'.cell? ⟨xb, 1, none⟩ = some (.int .i64 x.owner) ∧ w'.cell? ⟨xb, 2, none⟩ = some (.int .i64 x.id) ∧ w'.cell? ⟨xb, 3, none⟩ = some (.int .i64 x.number) ∧ w'.cell? ⟨xb, 4, none⟩ = some (.int .i64 x.amount) ∧ w'.cell? ⟨lb, lo, none⟩ = some (.int .i64 x.card) ∧ w'.cell? ⟨lb, lo + 1, none⟩ = some (.int .i64 x.owner) ∧ w'.cell? ⟨lb, lo + 2, none⟩ = some (.int .i64 x.id) ∧ w'.cell? ⟨lb, lo + 3, none⟩ = some (.int .i64 x.number) ∧ w'.cell? ⟨lb, lo + 4, none⟩ = some (.int .i64 x.amount)) := by
  refine (hot_version h ver items W hR.l).mono ?_
  rintro e w' ⟨rfl, hB⟩
  exact ⟨rfl, hR.ofBelow hB, s10_below hB hS⟩

set_option maxHeartbeats 4000000 in
set_option maxRecDepth 100000 in
theorem listsOff_true (to at_ : Int) (add : List Item) (va vo : Value) (w : World) (hadd : Sl 5 w va add.length (itemCells add)) (hal : add.length * 40 ≤ 140737488351232) (hvo : ∃ a n c, vo = .slice a n c)
    (hat : -9223372036854775808 ≤ at_ ∧ at_ ≤ 9223372036854775807) :
    Calls Try.prog 3 #[.agg #[.int .i64 to, va, vo], .int .i64 at_] w (RetB true w) := by
  obtain ⟨aa, ca, rfl⟩ := hadd.shape
  obtain ⟨ao, no, co, rfl⟩ := hvo
  have HA := Lib.hid hadd; clear hadd
  have HAL := Lib.hid hal; clear hal
  have hB0 : Below w.heap.size w (w.alloc (.cells #[.int .i64 to, .slice aa add.length ca, .slice ao no co] 24)) := (Below.refl _ _).alloc (Nat.le_refl _) _
  have b1 : (w.alloc (.cells #[.int .i64 to, .slice aa add.length ca, .slice ao no co] 24)).cell? ⟨w.heap.size, 1, none⟩ = some (.slice aa add.length ca) := by go_simp
  go_enter Try.func3, Try.ntmps3
  go_wp2_with fail
  have hs0 : (w.alloc (.cells #[.int .i64 to, .slice aa add.length ca, .slice ao no co] 24)).heap.size = w.heap.size + 1 := by simp
  generalize w.alloc (.cells #[.int .i64 to, .slice aa add.length ca, .slice ao no co] 24) = w0 at *
  have HS0 := Lib.hid hs0; clear hs0
  refine (awake_true w0).mono ?_
  rintro e w1 ⟨rfl, hB1⟩
  have q1 := (hB1.cell (p := ⟨w.heap.size, 1, none⟩) (by have := HS0.out; simp only; omega)).trans b1
  have HB1 := Lib.hid (hB0.trans (hB1.mono (by have := HS0.out; omega)))
  have hs1 : w.heap.size + 1 ≤ w1.heap.size := by have := hB1.size; have := HS0.out; omega
  have hs1' : w.heap.size < w1.heap.size := by omega
  have hs1n : w.heap.size ≠ w1.heap.size := by omega
  have hs1m : w.heap.size ≠ w1.heap.size + 1 := by omega
  clear hB0 hB1 b1
  have HSL1 := Lib.hid (HA.out.ofBelow HB1.out)
  have hal2 : add.length ≤ 140737488355328 := by have := HAL.out; omega
  have q2 : ((w1.alloc (.cells #[.int .i64 0, .slice none 0 0] 30)).alloc (.cells #[] 35)).cell? ⟨w.heap.size, 1, none⟩ = some (.slice aa add.length ca) :=
    (Below.heap_alloc _ _ _ (by simp; omega) |> fun h => World.cell?_of_block (a := ⟨w.heap.size, 1, none⟩) h).trans ((Below.heap_alloc _ _ _ (by omega) |> fun h => World.cell?_of_block (a := ⟨w.heap.size, 1, none⟩) h).trans q1)
  have hz1 : (w1.alloc (.cells #[.int .i64 0, .slice none 0 0] 30)).heap.size = w1.heap.size + 1 := by simp
  have own0 := own_new (w := w1.alloc (.cells #[.int .i64 0, .slice none 0 0] 30)) (base := w1.heap.size + 1) 35 5 (by rw [hz1]; exact Nat.le_refl _)
  rw [hz1] at own0
  have HOWN0 := Lib.hid own0; clear own0 hz1
  go_wp2_with (at_builtin; refine wpList_append_sl el_Item _ rfl rfl rfl rfl (HOWN0.out) ((HSL1.out.alloc _).alloc _) (by have := HAL.out; omega) (by simp only [maxLen]; omega) (by first | omega | (simp; done) | (simp; omega)) ?_; intro v2 w2 hown2 hg2 _ _; obtain ⟨a2, c2, rfl⟩ := own_shape hown2; have HO2 := Lib.hid hown2; have HG2 := Lib.hid hg2; clear hown2 hg2)
  have hgr2 : ((w1.alloc (.cells #[.int .i64 0, .slice none 0 0] 30)).alloc (.cells #[] 35)).grownBy w2 (some (w1.heap.size + 1)) := HG2.out
  have hk2 : ∀ k, k < w1.heap.size + 1 → w2.heap[k]? = (w1.alloc (.cells #[.int .i64 0, .slice none 0 0] 30)).heap[k]? := fun k hk =>
    (hgr2.block k (by simp; omega) (fun e => by have := Option.some.inj e; omega)).trans (Below.heap_alloc _ _ k (by simp; omega))
  have hL2 : LAt w2 w1.heap.size 0 [] := (LAt.made w1).chg (F := fun _ => False) ⟨hgr2.os, hgr2.tape, hgr2.output, by have := hgr2.size; simp at this ⊢; omega, fun k hk _ => hk2 k (by simpa using hk)⟩ (fun h => h) (fun _ _ _ _ h => h)
  have hB2 : Below w.heap.size w w2 := ((HB1.out.alloc (by omega) _).alloc (by simp; omega) _).grown hgr2 (by simp; omega) (fun k hk => by have := Option.some.inj hk; omega)
  have hs2 : w1.heap.size + 2 ≤ w2.heap.size := by have := hgr2.size; simp at this; omega
  have HSL2 := Lib.hid (own_sl HO2.out (by simpa using flat_one Item.cells_one add))
  clear HO2 HG2 hgr2 hk2 q2 q1 HOWN0
  have HL2 := Lib.hid hL2; clear hL2
  have HB2 := Lib.hid hB2; clear hB2
  have hsl2 : Sl 5 w2 (.slice a2 (0 + add.length) c2) add.length (itemCells add) := by have := HSL2.out; simpa using this
  rw [Nat.zero_add] at hsl2
  have HSL3 := Lib.hid hsl2; clear hsl2 HSL2
  refine (hot_apply w1.heap.size 0 1 [] add [] _ _ w2 HL2.out HSL3.out (Sl.nil _ _) (by simp) (by have := HAL.out; simp only [List.length_nil, Nat.add_zero]; omega) HAL.out (by omega) (by omega)).mono ?_
  rintro e w3 ⟨rfl, hC3, hL3⟩
  have HB3 := Lib.hid (HB2.out.trans (hC3.toBelow (by omega) (fun i hi e => by omega)))
  have hs3 : w1.heap.size + 2 ≤ w3.heap.size := by have := hC3.size; omega
  by_cases he : applyE hotRightB 0 [] 1 add [] = 0
  case neg =>
    have hne : (applyE hotRightB 0 [] 1 add [] != 0) = true := by rw [bne_iff_ne]; exact he
    generalize applyE hotRightB 0 [] 1 add [] = ee at *
    clear hL3 hC3
    have HNE := Lib.hid he; clear he
    go_wp2_with fail
    go_ret
    exact ⟨rfl, HB3.out⟩
  case pos =>
    obtain ⟨hlen, hright⟩ := first_zero add he
    rw [he] at hL3 ⊢
    rw [if_pos rfl, if_pos rfl, next_first] at hL3
    have HR := Lib.hid hright
    have hnd := first_nodup add
    have hmemadd := first_mem add
    generalize first add = nx at *
    have HND := Lib.hid hnd
    have HMA := Lib.hid hmemadd
    have HL3 := Lib.hid hL3
    clear he hnd hmemadd hright hL3 hC3
    go_wp2_with fail
    refine (hot_items w1.heap.size 1 nx w3 HL3.out (by omega)).mono ?_
    rintro e w4 ⟨v4, rfl, hown4, hB4⟩
    obtain ⟨a4, c4, rfl⟩ := own_shape hown4
    have HB4 := Lib.hid (HB3.out.trans (hB4.mono (by omega)))
    have hs4 : w1.heap.size + 2 ≤ w4.heap.size := by have := hB4.size; omega
    have HL4 := Lib.hid (HL3.out.ofBelow hB4)
    clear hown4 hB4
    by_cases h0 : nx.length = 0
    · have d0 : (((nx.length : Nat) : Int) == 0) = true := by rw [beq_iff_eq]; omega
      have H0 := Lib.hid h0; clear h0
      go_wp2_with fail
      go_ret
      exact ⟨rfl, HB4.out⟩
    · have d0 : (((nx.length : Nat) : Int) == 0) = false := by rw [beq_eq_false_iff_ne]; omega
      have H0 : 0 < nx.length := by omega
      go_wp2_with fail
      refine (hot_items w1.heap.size 1 nx w4 HL4.out (by omega)).mono ?_
      rintro e w5 ⟨v5, rfl, hown5, hB5⟩
      obtain ⟨a5, c5, rfl⟩ := own_shape hown5
      have HB5 := Lib.hid (HB4.out.trans (hB5.mono (by omega)))
      have hs5 : w1.heap.size + 2 ≤ w5.heap.size := by have := hB5.size; omega
      have HL5 := Lib.hid (HL4.out.ofBelow hB5)
      have HO5 := Lib.hid (own_sl hown5 (flat_one Item.cells_one nx))
      have HOW5 := Lib.hid hown5
      clear hown5 hB5
      obtain ⟨j, hj, hjj⟩ := tmod_index at_ nx.length H0 (by omega)
      obtain ⟨ag, cg, hv5, hcg, hrw⟩ := HO5.out.items
      obtain ⟨rfl, -, rfl⟩ := Value.slice.inj hv5
      obtain ⟨g, o, rfl, hg, hrow⟩ : ∃ g o, a5 = some ⟨g, o, none⟩ ∧ g < w5.heap.size ∧ ∀ i (h : i < nx.length), ∀ j, j < 5 → w5.cell? ⟨g, o + i * 5 + j, none⟩ = some (Item.g nx[i] j) := by
        rcases hrw with h | h
        · rw [h] at H0; simp at H0
        · exact h
      obtain ⟨x0, x1, x2, x3, x4⟩ := item_cells_at (SlG.item_row hrow hj)
      have hmem := List.getElem_mem hj
      have hw5l : w.heap.size < w5.heap.size := by omega
      clear hrw hrow hv5 hat
      generalize nx[j] = x at *
      have HX := Lib.hid (HR.out x (HMA.out x hmem))
      have HMEM := Lib.hid hmem
      clear hmem
      go_wp2_with fail
      have HRI6 : RI w w1.heap.size (w5.alloc (.cells #[.int .i64 x.card, .int .i64 x.owner, .int .i64 x.id, .int .i64 x.number, .int .i64 x.amount] 35)) 1 nx :=
        ⟨HL5.out.ofBelow ((Below.refl _ _).alloc (Nat.le_refl _) _), HB5.out.alloc (by omega) _, by omega⟩
      have HSX : ((w5.alloc (.cells #[.int .i64 x.card, .int .i64 x.owner, .int .i64 x.id, .int .i64 x.number, .int .i64 x.amount] 35)).cell? ⟨w5.heap.size, 0, none⟩ = some (.int .i64 x.card) ∧ (w5.alloc (.cells #[.int .i64 x.card, .int .i64 x.owner, .int .i64 x.id, .int .i64 x.number, .int .i64 x.amount] 35)).cell? ⟨w5.heap.size, 1, none⟩ = some (.int .i64 x.owner) ∧ (w5.alloc (.cells #[.int .i64 x.card, .int .i64 x.owner, .int .i64 x.id, .int .i64 x.number, .int .i64 x.amount] 35)).cell? ⟨w5.heap.size, 2, none⟩ = some (.int .i64 x.id) ∧ (w5.alloc (.cells #[.int .i64 x.card, .int .i64 x.owner, .int .i64 x.id, .int .i64 x.number, .int .i64 x.amount] 35)).cell? ⟨w5.heap.size, 3, none⟩ = some (.int .i64 x.number) ∧ (w5.alloc (.cells #[.int .i64 x.card, .int .i64 x.owner, .int .i64 x.id, .int .i64 x.number, .int .i64 x.amount] 35)).cell? ⟨w5.heap.size, 4, none⟩ = some (.int .i64 x.amount)) := ⟨by go_simp, by go_simp, by go_simp, by go_simp, by go_simp⟩
      have hs6 : (w5.alloc (.cells #[.int .i64 x.card, .int .i64 x.owner, .int .i64 x.id, .int .i64 x.number, .int .i64 x.amount] 35)).heap.size = w5.heap.size + 1 := by simp
      have HSL5 := Lib.hid (HO5.out.alloc (.cells #[.int .i64 x.card, .int .i64 x.owner, .int .i64 x.id, .int .i64 x.number, .int .i64 x.amount] 35))
      generalize w5.alloc (.cells #[.int .i64 x.card, .int .i64 x.owner, .int .i64 x.id, .int .i64 x.number, .int .i64 x.amount] 35) = w6 at *
      have HS6 := Lib.hid hs6
      have HR6 := Lib.hid HRI6
      have hxb : w5.heap.size ≠ w1.heap.size := by omega
      have hk := keepOff_one_len nx x HND.out HMEM.out
      have hno := keepOff_one_not nx x
      have h2e := second_zero nx x hlen HX.out
      have h3e := third_zero nx x hlen HND.out HMEM.out HX.out
      have hkl : (keepOff nx [x]).length ≤ 64 := by omega
      have HK := Lib.hid hk
      have HNO := Lib.hid hno
      have H2E := Lib.hid h2e
      have H3E := Lib.hid h3e
      have HL6 := Lib.hid hlen
      have hq1 : ((nx.length : Nat) : Int) - 1 = ((keepOff nx [x]).length : Nat) := by omega
      have hq2 : IntKind.i64.wrap (((nx.length : Nat) : Int) - 1) = ((keepOff nx [x]).length : Nat) := by rw [IntKind.wrap_i64]; omega
      have hnext : nextItems nx [] [x] = keepOff nx [x] := rfl
      have HNEXT := Lib.hid hnext
      clear hs6 HRI6 hk hno h2e h3e hlen hnext hq1 x0 x1 x2 x3 x4 hjj d0
      have hn3' := next_third nx x
      have HN3 := Lib.hid hn3'
      clear hn3'
      generalize keepOff nx [x] = nx2 at *
      have HS0 : (w6.drew.cell? ⟨w5.heap.size, 0, none⟩ = some (.int .i64 x.card) ∧ w6.drew.cell? ⟨w5.heap.size, 1, none⟩ = some (.int .i64 x.owner) ∧ w6.drew.cell? ⟨w5.heap.size, 2, none⟩ = some (.int .i64 x.id) ∧ w6.drew.cell? ⟨w5.heap.size, 3, none⟩ = some (.int .i64 x.number) ∧ w6.drew.cell? ⟨w5.heap.size, 4, none⟩ = some (.int .i64 x.amount)) := HSX
      go_region_held3 (fun w' => w'.cell? ⟨w5.heap.size, 0, none⟩ = some (.int .i64 x.card) ∧ w'.cell? ⟨w5.heap.size, 1, none⟩ = some (.int .i64 x.owner) ∧ w'.cell? ⟨w5.heap.size, 2, none⟩ = some (.int .i64 x.id) ∧ w'.cell? ⟨w5.heap.size, 3, none⟩ = some (.int .i64 x.number) ∧ w'.cell? ⟨w5.heap.size, 4, none⟩ = some (.int .i64 x.amount))
        (first | (with_reducible exact HS0) | (with_reducible exact hS') | (exact s5_below ((Below.refl _ _).alloc (Nat.le_refl _) _) HS0))
        (first
          | (go_at_call 7; refine (off_apply w _ w1.heap.size w5.heap.size x 1 2 nx [] [x] _ _ (HR6.out.ofBelow ?_) ?_ hxb (Sl.nil _ _) ?_ HL6.out (by simp) (by omega) (by omega) H2E.out).mono ?_; (exact ((Below.refl _ _).drew.alloc (Nat.le_refl _) _)); (first | (with_reducible exact HS0) | (exact s5_below ((Below.refl _ _).alloc (Nat.le_refl _) _) HS0)); (exact sl_new (n := 1) _ #[.int .i64 x.card, .int .i64 x.owner, .int .i64 x.id, .int .i64 x.number, .int .i64 x.amount] 35 rfl (by simp [maxLen]) (Item.cells_one x)); rintro e w' ⟨rfl, hRI, hS'⟩; rw [HNEXT.out] at hRI; have HRI := Lib.hid hRI; clear hRI)
          | (go_at_call 8; refine (off_items w _ w1.heap.size w5.heap.size x 2 nx2 HRI.out hS' hkl).mono ?_; rintro e w' ⟨a', c', rfl, hsl, hRI, hS'⟩; have HRI := Lib.hid hRI; have HSL := Lib.hid hsl; clear hRI hsl)
          | (go_at_call 9; refine (off_in w _ w1.heap.size w5.heap.size x 2 nx2 _ HRI.out hS' hkl HSL.out HNO.out).mono ?_; rintro e w' ⟨rfl, hRI, hS'⟩; have HRI := Lib.hid hRI; clear hRI))
      obtain ⟨w8, rfl⟩ : ∃ w8 : World, w8 = w' := ⟨_, rfl⟩
      obtain ⟨s0, s1, s2, s3, s4⟩ := hS'
      have hz8 : w5.heap.size < w8.heap.size := World.block_lt_of_cell? _ _ s0
      have hz9 : w5.heap.size ≠ w8.heap.size := by omega
      have HS8 := Lib.hid (And.intro s0 (And.intro s1 (And.intro s2 (And.intro s3 s4))))
      clear HS0 hq2
      go_wp2_with fail
      have hBt : Below w8.heap.size w8 ((w8.alloc (.cells #[.int .i64 x.card, .int .i64 x.owner, .int .i64 x.id, .int .i64 x.number, .int .i64 x.amount] 35)).alloc (.cells #[.int .i64 x.card, .int .i64 x.owner, .int .i64 x.id, .int .i64 x.number, .int .i64 x.amount] 35)) :=
        ((Below.refl _ _).alloc (Nat.le_refl _) _).alloc (by simp) _
      have hsa := sl_new (n := 1) (sz := 5) w8 #[.int .i64 x.card, .int .i64 x.owner, .int .i64 x.id, .int .i64 x.number, .int .i64 x.amount] 35 rfl (by simp [maxLen]) (Item.cells_one x)
      have hsb := sl_new (n := 1) (sz := 5) (w8.alloc (.cells #[.int .i64 x.card, .int .i64 x.owner, .int .i64 x.id, .int .i64 x.number, .int .i64 x.amount] 35)) #[.int .i64 x.card, .int .i64 x.owner, .int .i64 x.id, .int .i64 x.number, .int .i64 x.amount] 35 rfl (by simp [maxLen]) (Item.cells_one x)
      simp only [World.size_alloc] at hsb
      refine (off_apply w _ w1.heap.size w5.heap.size x 2 3 nx2 [x] [x] _ _ (HRI.out.ofBelow hBt) (s5_below hBt HS8.out) hxb (hsa.alloc _) hsb hkl (by simp) (by omega) (by omega) H3E.out).mono ?_
      rintro e w9 ⟨rfl, hRI9, hS9⟩
      have hn3 : nextItems nx2 [x] [x] = nx2 ++ [x] := HN3.out
      rw [hn3] at hRI9
      clear hsa hsb hBt hn3
      have HRI9 := Lib.hid hRI9; clear hRI9
      have hl3 : (nx2 ++ [x]).length ≤ 64 := by rw [List.length_append, List.length_singleton]; have := HK.out; have := HL6.out; omega
      have hl4 : (nx2 ++ [x]).length = nx.length := by rw [List.length_append, List.length_singleton]; exact HK.out
      have HL4' := Lib.hid hl4; clear hl4
      have HS9 := Lib.hid hS9; clear hS9
      go_wp2_with fail
      refine (off_items w _ w1.heap.size w5.heap.size x 3 (nx2 ++ [x]) HRI9.out HS9.out hl3).mono ?_
      rintro e w10 ⟨al, cl, rfl, hsl, hRI10, hS10⟩
      obtain ⟨lb, lo, rfl, t0, t1, t2, t3, t4⟩ : ∃ lb lo, al = some ⟨lb, lo, none⟩ ∧ w10.cell? ⟨lb, lo + nx2.length * 5, none⟩ = some (.int .i64 x.card) ∧ w10.cell? ⟨lb, lo + nx2.length * 5 + 1, none⟩ = some (.int .i64 x.owner) ∧ w10.cell? ⟨lb, lo + nx2.length * 5 + 2, none⟩ = some (.int .i64 x.id) ∧ w10.cell? ⟨lb, lo + nx2.length * 5 + 3, none⟩ = some (.int .i64 x.number) ∧ w10.cell? ⟨lb, lo + nx2.length * 5 + 4, none⟩ = some (.int .i64 x.amount) := by
        obtain ⟨a', c', hv, _, hr⟩ := hsl.items
        obtain ⟨rfl, -, -⟩ := Value.slice.inj hv
        rcases hr with h | ⟨lb, lo, rfl, hb, hc⟩
        · simp at h
        · have hlt : nx2.length < (nx2 ++ [x]).length := by simp
          have hr := SlG.item_row hc hlt
          rw [List.getElem_append_right (Nat.le_refl _)] at hr
          simp only [Nat.sub_self, List.getElem_singleton] at hr
          exact ⟨lb, lo, rfl, item_cells_at hr⟩
      rw [HL4'.out]
      have HRI := Lib.hid hRI10; clear hRI10 hsl
      obtain ⟨u0, u1, u2, u3, u4⟩ := hS10
      have HS0 : (w10.drew.cell? ⟨w5.heap.size, 0, none⟩ = some (.int .i64 x.card) ∧ w10.drew.cell? ⟨w5.heap.size, 1, none⟩ = some (.int .i64 x.owner) ∧ w10.drew.cell? ⟨w5.heap.size, 2, none⟩ = some (.int .i64 x.id) ∧ w10.drew.cell? ⟨w5.heap.size, 3, none⟩ = some (.int .i64 x.number) ∧ w10.drew.cell? ⟨w5.heap.size, 4, none⟩ = some (.int .i64 x.amount) ∧ w10.drew.cell? ⟨lb, lo + nx2.length * 5, none⟩ = some (.int .i64 x.card) ∧ w10.drew.cell? ⟨lb, lo + nx2.length * 5 + 1, none⟩ = some (.int .i64 x.owner) ∧ w10.drew.cell? ⟨lb, lo + nx2.length * 5 + 2, none⟩ = some (.int .i64 x.id) ∧ w10.drew.cell? ⟨lb, lo + nx2.length * 5 + 3, none⟩ = some (.int .i64 x.number) ∧ w10.drew.cell? ⟨lb, lo + nx2.length * 5 + 4, none⟩ = some (.int .i64 x.amount)) := ⟨u0, u1, u2, u3, u4, t0, t1, t2, t3, t4⟩
      have hany := has_self nx2 x
      have HANY := Lib.hid hany
      have hql : ((nx2.length : Nat) : Int) < ((nx.length : Nat) : Int) := by have := HK.out; omega
      have hq0 : (0 : Int) ≤ ((nx2.length : Nat) : Int) := by omega
      have hq2 : IntKind.i64.wrap (((nx.length : Nat) : Int) - 1) = ((nx2.length : Nat) : Int) := by rw [IntKind.wrap_i64]; have := HK.out; omega
      have heq := item_eql x x
      rw [show itemEqB x x = true from (itemEqB_iff x x).2 rfl] at heq
      simp only [Item.v] at heq
      clear hany s0 s1 s2 s3 s4 hz8 hz9 u0 u1 u2 u3 u4 t0 t1 t2 t3 t4
      go_wp2_with fail
      go_region_held3 (fun w' => w'.cell? ⟨w5.heap.size, 0, none⟩ = some (.int .i64 x.card) ∧ w'.cell? ⟨w5.heap.size, 1, none⟩ = some (.int .i64 x.owner) ∧ w'.cell? ⟨w5.heap.size, 2, none⟩ = some (.int .i64 x.id) ∧ w'.cell? ⟨w5.heap.size, 3, none⟩ = some (.int .i64 x.number) ∧ w'.cell? ⟨w5.heap.size, 4, none⟩ = some (.int .i64 x.amount) ∧ w'.cell? ⟨lb, lo + nx2.length * 5, none⟩ = some (.int .i64 x.card) ∧ w'.cell? ⟨lb, lo + nx2.length * 5 + 1, none⟩ = some (.int .i64 x.owner) ∧ w'.cell? ⟨lb, lo + nx2.length * 5 + 2, none⟩ = some (.int .i64 x.id) ∧ w'.cell? ⟨lb, lo + nx2.length * 5 + 3, none⟩ = some (.int .i64 x.number) ∧ w'.cell? ⟨lb, lo + nx2.length * 5 + 4, none⟩ = some (.int .i64 x.amount))
        (first | (with_reducible exact HS0) | (with_reducible exact hS'))
        (first
          | (go_at_call 10; refine (off_has w _ w1.heap.size w5.heap.size lb (lo + nx2.length * 5) x 3 (nx2 ++ [x]) (HRI.out.ofBelow ((Below.refl _ _).drew)) HS0 hl3 HANY.out).mono ?_; rintro e w' ⟨rfl, hRI, hS'⟩; have HRI := Lib.hid hRI; clear hRI)
          | (go_at_call 11; refine (off_version w _ w1.heap.size w5.heap.size lb (lo + nx2.length * 5) x 3 (nx2 ++ [x]) HRI.out hS').mono ?_; rintro e w' ⟨rfl, hRI, hS'⟩; have HRI := Lib.hid hRI; clear hRI))
      go_wp2_with fail
      go_ret
      exact ⟨rfl, HRI.out.b⟩
end Go.Proofs.Ytpjkehfmdmmfeaa
