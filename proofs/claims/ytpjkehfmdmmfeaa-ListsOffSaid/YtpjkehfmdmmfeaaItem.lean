/- Items: what the lists' own small functions answer. -/
import Derived.Test.YtpjkehfmdmmfeaaGen
namespace Go.Proofs.Ytpjkehfmdmmfeaa
open Go.RowKit
set_option linter.unusedVariables false
set_option linter.unusedSimpArgs false

structure Item where
  card : Int
  owner : Int
  id : Int
  number : Int
  amount : Int
deriving DecidableEq

def Item.cells (x : Item) : List Value := [.int .i64 x.card, .int .i64 x.owner, .int .i64 x.id, .int .i64 x.number, .int .i64 x.amount]
def Item.v (x : Item) : Value := .agg #[.int .i64 x.card, .int .i64 x.owner, .int .i64 x.id, .int .i64 x.number, .int .i64 x.amount]
def Item.g (x : Item) : Nat → Value
  | 0 => .int .i64 x.card
  | 1 => .int .i64 x.owner
  | 2 => .int .i64 x.id
  | 3 => .int .i64 x.number
  | _ => .int .i64 x.amount
theorem Item.cells_g (x : Item) : x.cells = (List.range 5).map x.g := rfl
theorem Item.cells_len (x : Item) : x.cells.length = 5 := rfl
theorem Item.cells_one (x : Item) : ∀ u ∈ x.cells, u.oneCell' = true := by intro u hu; simp only [Item.cells, List.mem_cons, List.not_mem_nil, or_false] at hu; rcases hu with rfl | rfl | rfl | rfl | rfl <;> rfl
abbrev itemCells (xs : List Item) : List Value := xs.flatMap Item.cells

theorem item_cells_at {w : World} {b o : Nat} {x : Item} (h : Row w b o x.cells) :
    w.cell? ⟨b, o, none⟩ = some (.int .i64 x.card) ∧ w.cell? ⟨b, o + 1, none⟩ = some (.int .i64 x.owner) ∧ w.cell? ⟨b, o + 2, none⟩ = some (.int .i64 x.id) ∧ w.cell? ⟨b, o + 3, none⟩ = some (.int .i64 x.number) ∧ w.cell? ⟨b, o + 4, none⟩ = some (.int .i64 x.amount) :=
  ⟨h 0 _ rfl, h 1 _ rfl, h 2 _ rfl, h 3 _ rfl, h 4 _ rfl⟩

def itemEqB (x y : Item) : Bool := decide (x = y)

theorem item_equal (x y : Item) (d : Nat) (w : World) : (Op.equalIn (d + 2) 35 x.v y.v).run Try.prog w = .ok (itemEqB x y) w := by
  have h : itemEqB x y = (x.card == y.card && (x.owner == y.owner && (x.id == y.id && (x.number == y.number && (x.amount == y.amount && true))))) := by
    obtain ⟨x0, x1, x2, x3, x4⟩ := x; obtain ⟨y0, y1, y2, y3, y4⟩ := y
    rw [Bool.eq_iff_iff]; simp only [itemEqB, decide_eq_true_eq, Bool.and_eq_true, beq_iff_eq, Item.mk.injEq, and_true]
  rw [h]
  refine eq_struct Try.underlying35 (by kernel_rfl) ?_
  refine eq_field (by rfl) (by go_simp; rfl) (by go_simp; rfl) (by go_simp) ?_
  refine eq_field (by rfl) (by go_simp; rfl) (by go_simp; rfl) (by go_simp) ?_
  refine eq_field (by rfl) (by go_simp; rfl) (by go_simp; rfl) (by go_simp) ?_
  refine eq_field (by rfl) (by go_simp; rfl) (by go_simp; rfl) (by go_simp) ?_
  refine eq_field (by rfl) (by go_simp; rfl) (by go_simp; rfl) (by go_simp) ?_
  exact eq_fields_nil
theorem item_eql (x y : Item) (w : World) : (binOp .eql 35 x.v y.v).run Try.prog w = .ok (.bool (itemEqB x y)) w := run_eql_of (item_equal x y 9998 w)
theorem item_neq (x y : Item) (w : World) : (binOp .neq 35 x.v y.v).run Try.prog w = .ok (.bool (!itemEqB x y)) w := run_neq_of (item_equal x y 9998 w)

set_option maxHeartbeats 1000000 in
theorem index_Item (v : Value) (y : Item) (xs : List Item) (w : World) (hsl : SlG 5 Item.g w v xs) (hn : xs.length ≤ 140737488355328) :
    Calls Try.prog 56 #[v, y.v] w (RetI (idxOf (itemEqB y) xs) w) := by
  obtain ⟨a, c, rfl, hlc, hc⟩ := hsl
  rcases hc with rfl | ⟨b, o, rfl, hb, hc⟩
  · go_enter Try.func56, Try.ntmps56
    unfold Item.v
    go_wp2_with fail
    go_loopw [8] (fun i wr => i = .int .i64 0 ∧ Below w.heap.size w wr) (fun _ _ => 0)
    case atStart => exact ⟨rfl, (Below.refl _ _).alloc (Nat.le_refl _) _⟩
    case round =>
      obtain ⟨rfl, hB⟩ := hrel
      go_wp2_with fail
      go_ret
      exact ⟨rfl, hB⟩
  · go_enter Try.func56, Try.ntmps56
    unfold Item.v
    go_wp2_with fail
    go_loopw [8] (fun i wr => ∃ k : Nat, k ≤ xs.length ∧ i = .int .i64 k ∧ Below w.heap.size w wr ∧ Row wr w.heap.size 0 y.cells ∧ Hid (∀ x ∈ xs.take k, itemEqB y x = false)) (fun i _ => xs.length - (intOf i).toNat)
    case atStart => exact ⟨0, by omega, rfl, (Below.refl _ _).alloc (Nat.le_refl _) _, row_new _ _ _, by simp [Hid]⟩
    case round =>
      obtain ⟨k, hk, rfl, hB, hy, hno⟩ := hrel
      obtain ⟨y0, y1, y2, y3, y4⟩ := item_cells_at hy
      have HY := Lib.hid hy; clear hy
      by_cases hlt : k < xs.length
      · obtain ⟨c0, c1, c2, c3, c4⟩ := item_cells_at (w := wr) (b := b) (o := o + k * 5) (x := xs[k]) (fun j u hu => by
          have hj : j < 5 := (List.getElem?_eq_some_iff.1 hu).1
          have := hc k hlt j hj
          rw [← hB.cell (p := ⟨b, o + k * 5 + j, none⟩) hb] at this
          rw [Item.cells_g] at hu
          simp [List.getElem?_map, List.getElem?_range hj] at hu
          rw [← hu]; exact this)
        have HC := Lib.hid hc; clear hc
        have HN := Lib.hid hn
        have heq := item_eql y xs[k]
        simp only [Item.v] at heq
        go_wp2_with fail
        go_quiet (fail)
        clear heq
        cases hpk : itemEqB y xs[k] with
        | false =>
          have HX := Lib.hid hpk; clear hpk
          go_wp2_with fail
          go_roundw
          case rel => exact ⟨k + 1, by omega, by go_num, below_drewN hB _, HY.out, fun x hx => by
            rw [List.take_succ_eq_append_getElem hlt] at hx
            rcases List.mem_append.1 hx with h | h
            · exact hno.out x h
            · rw [List.mem_singleton.1 h]; exact HX.out⟩
          case measure => simp [intOf]; omega
        | true =>
          have HX := Lib.hid hpk; clear hpk
          go_wp2_with fail
          go_ret
          exact ⟨by rw [idxOf_some hlt HX.out hno.out]; rfl, below_drewN hB _⟩
      · obtain rfl : k = xs.length := by omega
        go_wp2_with fail
        go_ret
        exact ⟨by rw [idxOf_none (by have := hno.out; rwa [List.take_length] at this)]; rfl, hB⟩

set_option maxHeartbeats 400000 in
theorem contains_Item (v : Value) (y : Item) (xs : List Item) (w : World) (hsl : SlG 5 Item.g w v xs) (hn : xs.length ≤ 140737488355328) :
    Calls Try.prog 47 #[v, y.v] w (RetB (xs.any (itemEqB y)) w) := by
  have HI := fun (w1 : World) (hB : Below w.heap.size w w1) => Lib.hid (index_Item v y xs w1 (hsl.ofBelow hB) hn)
  clear hsl hn
  have HI2 := Lib.hid HI; clear HI
  go_enter Try.func47, Try.ntmps47
  unfold Item.v
  go_wp2_with fail
  refine ((HI2.out _ ((Below.refl _ _).alloc (Nat.le_refl _) _)).out).mono ?_
  rintro e w' ⟨rfl, hB⟩
  have hB' := ((Below.refl w.heap.size w).alloc (Nat.le_refl _) (Obj.cells #[.int .i64 y.card, .int .i64 y.owner, .int .i64 y.id, .int .i64 y.number, .int .i64 y.amount] 35)).trans (hB.mono (by simp))
  clear hB
  cases hx : xs.any (itemEqB y) with
  | true =>
    have h0 : 0 ≤ idxOf (itemEqB y) xs := (idxOf_nonneg _ xs).2 hx
    have HX := Lib.hid hx; clear hx
    go_wp2_with fail
    go_ret
    exact ⟨by rw [HX.out]; first | rfl | (simp [h0]; done) | (simp; omega), hB'⟩
  | false =>
    have h0 : idxOf (itemEqB y) xs < 0 := by
      rcases Int.lt_or_le (idxOf (itemEqB y) xs) 0 with h | h
      · exact h
      · rw [(idxOf_nonneg _ xs).1 h] at hx; cases hx
    have HX := Lib.hid hx; clear hx
    go_wp2_with fail
    go_ret
    exact ⟨by rw [HX.out]; first | rfl | (simp [h0]; done) | (simp; omega), hB'⟩

/-! ### named, about, and the closures of the two lists -/
def namedB (x : Item) : Bool := decide (0 ≤ x.card) && decide (x.card ≤ 65535) && (decide (0 ≤ x.owner) && decide (x.owner ≤ 4)) && (decide (0 ≤ x.id) && decide (x.id ≤ 65535)) && decide (x.owner = 0 ↔ x.id = 0) && (!(x.owner == 0) || !(x.card == 0))
def aboutB (x : Item) (card owner id : Int) : Bool := !(x.owner == 0) && (x.owner == owner) && (x.id == id) && ((x.card == 0) || (x.card == card))

set_option maxHeartbeats 1000000 in
theorem named_any (x : Item) (w : World) : Calls Try.prog 24 #[x.v] w (RetB (namedB x) w) := by
  obtain ⟨c, o, i, n, m⟩ := x
  go_enter Try.func24, Try.ntmps24
  unfold Item.v
  go_wp2
  all_goals
    go_ret
    refine ⟨ret_bool (bool_of_iff ?_), (Below.refl _ _).alloc (Nat.le_refl _) _⟩
    simp only [namedB, int_beq_eq, beq_iff_eq, bne_iff_ne, ne_eq, Bool.and_eq_true, Bool.or_eq_true, Bool.not_eq_true', beq_eq_false_iff_ne, decide_eq_true_eq, Bool.false_eq_true, true_iff, false_iff, iff_true, iff_false, true_and, and_true, false_and, and_false, not_true, not_false_iff, true_or, or_true, false_or, or_false] at *
    first | done | omega | (trace_state; omega)

set_option maxHeartbeats 1000000 in
theorem about_any (x : Item) (card owner id : Int) (w : World) : Calls Try.prog 28 #[x.v, .int .i64 card, .int .i64 owner, .int .i64 id] w (RetB (aboutB x card owner id) w) := by
  obtain ⟨c, o, i, n, m⟩ := x
  go_enter Try.func28, Try.ntmps28
  unfold Item.v
  go_wp2
  all_goals
    go_ret
    refine ⟨ret_bool (bool_of_iff ?_), (Below.refl _ _).alloc (Nat.le_refl _) _⟩
    simp only [aboutB, int_beq_eq, beq_iff_eq, bne_iff_ne, ne_eq, Bool.and_eq_true, Bool.or_eq_true, Bool.not_eq_true', beq_eq_false_iff_ne, decide_eq_true_eq, Bool.false_eq_true, true_iff, false_iff, iff_true, iff_false, true_and, and_true, false_and, and_false, not_true, not_false_iff, true_or, or_true, false_or, or_false] at *
    first | done | omega | (trace_state; omega)

def hotRightB (x : Item) : Bool := namedB x && (x.number == 0) && (x.amount == 0)
def actRightB (x : Item) : Bool := namedB x && !(x.owner == 0) && decide (1 ≤ x.number) && decide (x.number ≤ 65535) && decide (0 ≤ x.amount) && decide (x.amount ≤ 2147483648)

set_option maxHeartbeats 1000000 in
theorem hotRight_any (x : Item) (w : World) : Calls Try.prog 23 #[x.v] w (RetB (hotRightB x) w) := by
  have HN := fun w => Lib.hid (named_any x w)
  obtain ⟨c, o, i, n, m⟩ := x
  unfold Item.v at *
  cases hx : namedB ⟨c, o, i, n, m⟩ with
  | _ =>
    have HX := Lib.hid hx
    rw [hx] at HN
    clear hx
    go_enter Try.func23, Try.ntmps23
    go_wp2_with fail
    refine ((HN _).out).mono ?_
    rintro e w' ⟨rfl, hB⟩
    obtain ⟨hc, hf⟩ := bcell hB
    have HB' := Lib.hid (((Below.refl w.heap.size w).alloc (Nat.le_refl _) _).trans (hB.mono (by simp)))
    clear hB
    go_wp2
    all_goals
      go_ret
      refine ⟨ret_bool (bool_of_iff ?_), HB'.out⟩
      have := HX.out
      simp only [hotRightB, this, int_beq_eq, beq_iff_eq, bne_iff_ne, ne_eq, Bool.and_eq_true, Bool.or_eq_true, Bool.not_eq_true', beq_eq_false_iff_ne, decide_eq_true_eq, Bool.false_eq_true, true_iff, false_iff, iff_true, iff_false, true_and, and_true, false_and, and_false, not_true, not_false_iff, true_or, or_true, false_or, or_false] at *
      first | done | omega | (trace_state; omega)

set_option maxHeartbeats 1000000 in
theorem actRight_any (x : Item) (w : World) : Calls Try.prog 29 #[x.v] w (RetB (actRightB x) w) := by
  have HN := fun w => Lib.hid (named_any x w)
  obtain ⟨c, o, i, n, m⟩ := x
  unfold Item.v at *
  cases hx : namedB ⟨c, o, i, n, m⟩ with
  | _ =>
    have HX := Lib.hid hx
    rw [hx] at HN
    clear hx
    go_enter Try.func29, Try.ntmps29
    go_wp2_with fail
    refine ((HN _).out).mono ?_
    rintro e w' ⟨rfl, hB⟩
    obtain ⟨hc, hf⟩ := bcell hB
    have HB' := Lib.hid (((Below.refl w.heap.size w).alloc (Nat.le_refl _) _).trans (hB.mono (by simp)))
    clear hB
    go_wp2
    all_goals
      go_ret
      refine ⟨ret_bool (bool_of_iff ?_), HB'.out⟩
      have := HX.out
      simp only [actRightB, this, int_beq_eq, beq_iff_eq, bne_iff_ne, ne_eq, Bool.and_eq_true, Bool.or_eq_true, Bool.not_eq_true', beq_eq_false_iff_ne, decide_eq_true_eq, Bool.false_eq_true, true_iff, false_iff, iff_true, iff_false, true_and, and_true, false_and, and_false, not_true, not_false_iff, true_or, or_true, false_or, or_false] at *
      first | done | omega | (trace_state; omega)
end Go.Proofs.Ytpjkehfmdmmfeaa
