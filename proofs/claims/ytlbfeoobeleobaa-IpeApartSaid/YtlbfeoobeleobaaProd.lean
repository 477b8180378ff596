/- Products: their numbers, and which of them may be. -/
import Derived.Test.YtlbfeoobeleobaaTake
namespace Go.Proofs.Ytlbfeoobeleobaa
open Go.RowKit
set_option linter.unusedVariables false
set_option linter.unusedSimpArgs false

structure Prod where
  kind : Int
  owner : Int
  id : Int
  card : Int
  ver : Int
  value : Int
  last : Int
  rides : Int
  opn : Bool
  zone : Int
  day : Int
  txn : Int
  act : Int
  blocked : Bool
deriving DecidableEq

def bitI (b : Bool) : Int := if b then 1 else 0
def Prod.cells (p : Prod) : List Value := [.int .i64 p.kind, .int .i64 p.owner, .int .i64 p.id, .int .i64 p.card, .int .i64 p.ver, .int .i64 p.value, .int .i64 p.last, .int .i64 p.rides, .bool p.opn, .int .i64 p.zone, .int .i64 p.day, .int .i64 p.txn, .int .i64 p.act, .bool p.blocked]
def Prod.v (p : Prod) : Value := .agg #[.int .i64 p.kind, .int .i64 p.owner, .int .i64 p.id, .int .i64 p.card, .int .i64 p.ver, .int .i64 p.value, .int .i64 p.last, .int .i64 p.rides, .bool p.opn, .int .i64 p.zone, .int .i64 p.day, .int .i64 p.txn, .int .i64 p.act, .bool p.blocked]
def Prod.g (p : Prod) : Nat → Value
  | 0 => .int .i64 p.kind
  | 1 => .int .i64 p.owner
  | 2 => .int .i64 p.id
  | 3 => .int .i64 p.card
  | 4 => .int .i64 p.ver
  | 5 => .int .i64 p.value
  | 6 => .int .i64 p.last
  | 7 => .int .i64 p.rides
  | 8 => .bool p.opn
  | 9 => .int .i64 p.zone
  | 10 => .int .i64 p.day
  | 11 => .int .i64 p.txn
  | 12 => .int .i64 p.act
  | _ => .bool p.blocked
theorem Prod.cells_g (p : Prod) : p.cells = (List.range 14).map p.g := rfl
theorem Prod.cells_len (p : Prod) : p.cells.length = 14 := rfl
theorem Prod.cells_one (p : Prod) : ∀ u ∈ p.cells, u.oneCell' = true := by
  intro u hu; simp only [Prod.cells, List.mem_cons, List.not_mem_nil, or_false] at hu
  rcases hu with rfl | rfl | rfl | rfl | rfl | rfl | rfl | rfl | rfl | rfl | rfl | rfl | rfl | rfl <;> rfl

def Prod.nums (p : Prod) : List Int := [p.kind, p.owner, p.id, p.card, p.ver, p.value, p.last, p.rides, bitI p.opn, p.zone, p.day, p.txn, p.act, bitI p.blocked]
theorem Prod.nums_len (p : Prod) : p.nums.length = 14 := rfl
def leasts : List Int := [1, 1, 1, 1, 1, 0, 0, 0, 0, 0, 0, 0, 0, 0]
def mosts : List Int := [4, 4, 65535, 65535, 255, 2147483648, 65535, 255, 1, 255, 65535, 65535, 65535, 1]
def okAt (ns : List Int) (i : Nat) : Bool := decide (leasts.getD i 0 ≤ ns.getD i 0) && decide (ns.getD i 0 ≤ mosts.getD i 0)
def okTo (ns : List Int) (k : Nat) : Bool := (List.range k).all (okAt ns)
theorem okTo_succ (ns : List Int) (k : Nat) : okTo ns (k + 1) = (okTo ns k && okAt ns k) := by simp [okTo, List.range_succ]
theorem okTo_zero (ns : List Int) : okTo ns 0 = true := rfl
def Prod.right (p : Prod) : Bool := okTo p.nums 14
theorem Prod.right_iff (p : Prod) : p.right = true ↔ (1 ≤ p.kind ∧ p.kind ≤ 4) ∧ (1 ≤ p.owner ∧ p.owner ≤ 4) ∧ (1 ≤ p.id ∧ p.id ≤ 65535) ∧ (1 ≤ p.card ∧ p.card ≤ 65535) ∧ (1 ≤ p.ver ∧ p.ver ≤ 255) ∧ (0 ≤ p.value ∧ p.value ≤ 2147483648) ∧ (0 ≤ p.last ∧ p.last ≤ 65535) ∧ (0 ≤ p.rides ∧ p.rides ≤ 255) ∧ (0 ≤ p.zone ∧ p.zone ≤ 255) ∧ (0 ≤ p.day ∧ p.day ≤ 65535) ∧ (0 ≤ p.txn ∧ p.txn ≤ 65535) ∧ (0 ≤ p.act ∧ p.act ≤ 65535) := by
  have h1 : ∀ b : Bool, 0 ≤ bitI b ∧ bitI b ≤ 1 := by intro b; cases b <;> decide
  have := h1 p.opn; have := h1 p.blocked
  simp only [Prod.right, okTo, okAt, leasts, mosts, Prod.nums, List.range, List.range.loop, List.all_cons, List.all_nil, Bool.and_true, Bool.and_eq_true, decide_eq_true_eq, List.getD_cons_zero, List.getD_cons_succ]
  omega

theorem own_lit (w : World) (base : Nat) {e sz n : Nat} (cs : Array Value) (hl : cs.size = n * sz) (hn : n ≤ maxLen) (hb : base ≤ w.heap.size) : (w.alloc (.cells cs e)).ownsRow base e sz (.slice (some ⟨w.heap.size, 0, none⟩) n n) n cs.toList :=
  ⟨by simpa using hl, .inr ⟨w.heap.size, n, cs, rfl, hb, heap_alloc_new w _, Nat.le_refl _, hn, hl, by rw [List.take_of_length_le]; simp; omega⟩⟩

theorem own_list (w : World) (base H : Nat) {e sz n : Nat} (xs : List Value) (hH : w.heap.size = H) (hl : xs.length = n * sz) (hn : n ≤ maxLen) (hb : base ≤ H) : (w.alloc (.cells xs.toArray e)).ownsRow base e sz (.slice (some ⟨H, 0, none⟩) n n) n xs := by
  subst hH
  simpa using own_lit w base (e := e) (sz := sz) (n := n) xs.toArray (by simpa using hl) hn hb

set_option maxHeartbeats 1000000 in
theorem ref_numbers (p : Prod) (w : World) : Calls Try.prog 28 #[p.v] w (NewSl 3 1 14 (i64s p.nums) w) := by
  obtain ⟨a, b, c, d, e, f, g, h, o, i, j, k, l, m⟩ := p
  unfold Prod.v
  cases o <;> cases m <;>
  · go_enter Try.func28, Try.ntmps28
    go_wp2_with fail
    go_ret
    exact ⟨_, rfl, own_list (w.alloc _) w.heap.size (w.heap.size + 1) (i64s (Prod.nums ⟨a, b, c, d, e, f, g, h, _, i, j, k, l, _⟩)) (n := 14) (by simp) rfl (by unfold maxLen; omega) (by simp), (by repeat' (first | exact Below.refl _ _ | refine Below.alloc ?_ (by first | omega | (simp; done) | (simp; omega)) _ | refine Below.drew ?_ | refine below_drewN ?_ _ | refine Below.setCell ?_ (by first | omega | (simp; done) | (simp; omega)) _))⟩

set_option maxHeartbeats 1000000 in
theorem bit_any (b : Bool) (w : World) : Calls Try.prog 54 #[.bool b] w fun e w' => e = .returned (.int .i64 (bitI b)) ∧ w' = w := by
  cases b <;>
  · go_enter Try.func54, Try.ntmps54
    go_wp2_with fail
    go_ret
    exact ⟨rfl, rfl⟩

def fieldCells (pb bk bo bb : Nat) : List Value := [.pointer (some ⟨bk, 0, none⟩), .int .i64 1, .int .i64 4, .pointer (some ⟨pb, 1, none⟩), .int .i64 1, .int .i64 4, .pointer (some ⟨pb, 2, none⟩), .int .i64 1, .int .i64 65535, .pointer (some ⟨pb, 3, none⟩), .int .i64 1, .int .i64 65535, .pointer (some ⟨pb, 4, none⟩), .int .i64 1, .int .i64 255, .pointer (some ⟨pb, 5, none⟩), .int .i64 0, .int .i64 2147483648, .pointer (some ⟨pb, 6, none⟩), .int .i64 0, .int .i64 65535, .pointer (some ⟨pb, 7, none⟩), .int .i64 0, .int .i64 255, .pointer (some ⟨bo, 0, none⟩), .int .i64 0, .int .i64 1, .pointer (some ⟨pb, 9, none⟩), .int .i64 0, .int .i64 255, .pointer (some ⟨pb, 10, none⟩), .int .i64 0, .int .i64 65535, .pointer (some ⟨pb, 11, none⟩), .int .i64 0, .int .i64 65535, .pointer (some ⟨pb, 12, none⟩), .int .i64 0, .int .i64 65535, .pointer (some ⟨bb, 0, none⟩), .int .i64 0, .int .i64 1]

set_option maxHeartbeats 4000000 in
set_option maxRecDepth 100000 in
theorem fields_any (pb bk bo bb : Nat) (w : World) : Calls Try.prog 39 #[.pointer (some ⟨pb, 0, none⟩), .pointer (some ⟨bk, 0, none⟩), .pointer (some ⟨bo, 0, none⟩), .pointer (some ⟨bb, 0, none⟩)] w fun e w' => e = .returned (.slice (some ⟨w.heap.size, 0, none⟩) 14 14) ∧ w' = w.drew.alloc (.cells (fieldCells pb bk bo bb).toArray 87) := by
  go_enter Try.func39, Try.ntmps39
  go_wp2_with fail
  go_still_tail 50, (by kernel_rfl)
  go_wp2_with fail
  go_ret
  exact ⟨rfl, rfl⟩
end Go.Proofs.Ytlbfeoobeleobaa
