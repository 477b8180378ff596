/- A number's bytes: tlv.Num, slices.Reverse, and the reference's Num. -/
import Derived.Test.YtlbfeoobeleobaaTake
import Derived.RegionTactic
namespace Go.Proofs.Ytlbfeoobeleobaa
open Go.RowKit
set_option linter.unusedVariables false
set_option linter.unusedSimpArgs false

/-- the bytes of a number, the least first (so many at most) -/
def leF : Nat → Nat → List Int
  | 0, _ => []
  | f + 1, n => if n = 0 then [] else ((n % 256 : Nat) : Int) :: leF f (n / 256)
def numB (n : Int) : List Int := (leF 8 n.toNat).reverse
theorem leF_zero (f : Nat) : leF f 0 = [] := by cases f <;> rfl
theorem leF_len (f n : Nat) : (leF f n).length ≤ f := by
  induction f generalizing n with
  | zero => simp [leF]
  | succ f ih => unfold leF; split <;> simp; exact ih _
theorem leF_byte (f n : Nat) : ∀ x ∈ leF f n, 0 ≤ x ∧ x < 256 := by
  induction f generalizing n with
  | zero => simp [leF]
  | succ f ih =>
    unfold leF; split
    · simp
    · intro x hx
      rcases List.mem_cons.1 hx with rfl | h
      · omega
      · exact ih _ x h

/-- what a reversed prefix looks like -/
def Rev {α : Type} (l : List α) (k : Nat) (xs : List α) : Prop := xs.length = l.length ∧ ∀ t, t < l.length → xs[t]? = if t < k ∨ l.length - k ≤ t then l[l.length - 1 - t]? else l[t]?
theorem Rev.zero {α : Type} (l : List α) : Rev l 0 l := ⟨rfl, fun t ht => by rw [if_neg (by omega)]⟩
theorem Rev.fin {α : Type} {l : List α} {k : Nat} {xs : List α} (h : Rev l k xs) (hk : l.length ≤ 2 * k + 1) : xs = l.reverse := by
  refine List.ext_getElem? fun t => ?_
  by_cases ht : t < l.length
  · rw [h.2 t ht, List.getElem?_reverse ht]
    split
    · rfl
    · rw [show l.length - 1 - t = t by omega]
  · rw [List.getElem?_eq_none (by rw [h.1]; omega), List.getElem?_eq_none (by simp; omega)]
theorem Rev.step {α : Type} {l : List α} {k : Nat} {xs : List α} (h : Rev l k xs) (hk : 2 * k + 1 < l.length) {a b : α} (ha : xs[k]? = some a) (hb : xs[l.length - 1 - k]? = some b) :
    Rev l (k + 1) ((xs.set k b).set (l.length - 1 - k) a) := by
  refine ⟨by simp [h.1], fun t ht => ?_⟩
  have hxk := h.2 k (by omega)
  have hxj := h.2 (l.length - 1 - k) (by omega)
  rw [if_neg (by omega)] at hxk hxj
  by_cases h1 : t = l.length - 1 - k
  · subst h1
    rw [List.getElem?_set_self (by simp [h.1]; omega), if_pos (by omega), show l.length - 1 - (l.length - 1 - k) = k by omega, ← hxk, ha]
  · rw [List.getElem?_set_ne (by omega)]
    by_cases h2 : t = k
    · subst h2
      rw [List.getElem?_set_self (by rw [h.1]; omega), if_pos (by omega), ← hxj, hb]
    · rw [List.getElem?_set_ne (by omega), h.2 t ht]
      by_cases h3 : t < k ∨ l.length - k ≤ t
      · rw [if_pos h3, if_pos (by omega)]
      · rw [if_neg h3, if_neg (by omega)]

theorem own_set {w : World} {base : Nat} {e n g c : Nat} {xs : List Value} (h : w.ownsRow base e 1 (.slice (some ⟨g, 0, none⟩) n c) n xs) {i : Nat} (hi : i < n) :
    w.frozen? ⟨g, i, none⟩ = false ∧ ∀ u, (w.setCell ⟨g, i, none⟩ u).ownsRow base e 1 (.slice (some ⟨g, 0, none⟩) n c) n (xs.set i u) := by
  obtain ⟨g', c', hv, _, _, _, _, hf, hs⟩ := own_cell h (i := i) (by have := h.1; omega)
  obtain ⟨e1, -, -⟩ := Value.slice.inj hv
  obtain ⟨rfl⟩ : g = g' := by simpa using e1
  exact ⟨hf, hs⟩
theorem own_at {w : World} {base : Nat} {e n g c : Nat} {xs : List Value} (h : w.ownsRow base e 1 (.slice (some ⟨g, 0, none⟩) n c) n xs) {i : Nat} {x : Value} (hx : xs[i]? = some x) : w.cell? ⟨g, i, none⟩ = some x := by
  have := World.ownsRow.cells h (g := g) rfl i x hx
  rwa [Addr.add_lit, Nat.zero_add] at this
theorem own_some {w : World} {base : Nat} {e sz n c : Nat} {a : Option Addr} {xs : List Value} (h : w.ownsRow base e sz (.slice a n c) n xs) (hn : 0 < n) : ∃ g, a = some ⟨g, 0, none⟩ ∧ base ≤ g ∧ g < w.heap.size ∧ n ≤ c := by
  rcases h.2 with ⟨he, rfl⟩ | ⟨g, c', cur, he, hb, hg, hnc, _⟩
  · omega
  · obtain ⟨rfl, -, rfl⟩ := Value.slice.inj he
    exact ⟨g, rfl, hb, (Array.getElem?_eq_some_iff.1 hg).1, hnc⟩

theorem sl_lit (w : World) {sz n H : Nat} (cs : Array Value) (t : TypeId) (hH : w.heap.size = H) (hl : cs.size = n * sz) (hn : n ≤ maxLen) (h1 : ∀ u ∈ cs.toList, u.oneCell' = true) : Sl sz (w.alloc (.cells cs t)) (.slice (some ⟨H, 0, none⟩) n n) n cs.toList := by
  subst hH; exact sl_new w cs t hl hn h1

def RevPost (w : World) (base : Nat) (v : Value) (n : Nat) (l : List Int) (ed : Ending) (w' : World) : Prop :=
  ed = .returned (.tuple #[]) ∧ w'.ownsRow base 5 1 v n (u8s l.reverse) ∧ Chg (fun b => v.ownBlock = some b) w w'

set_option maxHeartbeats 4000000 in
set_option maxRecDepth 100000 in
theorem reverse_byte (base : Nat) (v : Value) (n : Nat) (l : List Int) (w : World) (h : w.ownsRow base 5 1 v n (u8s l)) (hn : n ≤ 1000) :
    Calls Try.prog 55 #[v] w (RevPost w base v n l) := by
  have hl : l.length = n := by have := h.1; rw [u8s, List.length_map] at this; omega
  obtain ⟨a, c, rfl⟩ := own_shape h
  have hL := Lib.hid hl
  by_cases h0 : n = 0
  · subst h0
    obtain rfl : l = [] := List.eq_nil_of_length_eq_zero hl
    have HO := Lib.hid h; clear h
    clear hl hL
    go_enter Try.func55, Try.ntmps55
    go_wp2_with fail
    go_loopw [2, 3] (fun i j wr => i = .int .i64 0 ∧ j = .int .i64 (-1) ∧ wr = w) (fun _ _ _ => 0)
    case atStart => exact ⟨rfl, rfl, rfl⟩
    case round =>
      obtain ⟨rfl, rfl, rfl⟩ := hrel
      go_wp2_with fail
      go_end0
      exact ⟨rfl, HO.out, Chg.refl _ _⟩
  · have hn0 : 0 < n := by omega
    clear h0 hl
    obtain ⟨g, rfl, -, hg, hc⟩ := own_some h hn0
    have HO := Lib.hid h; clear h
    go_enter Try.func55, Try.ntmps55
    go_wp2_with fail
    go_loopw [2, 3] (fun i j wr => ∃ (k j' : Nat) (xs : List Int), i = .int .i64 k ∧ j = .int .i64 j' ∧ k ≤ n ∧ j' < n ∧ Hid (k + j' + 1 = n ∧ Rev l k xs ∧ wr.ownsRow base 5 1 (.slice (some ⟨g, 0, none⟩) n c) n (u8s xs) ∧ Chg (fun b => (Value.slice (some ⟨g, 0, none⟩) n c).ownBlock = some b) w wr)) (fun i _ _ => n - (intOf i).toNat)
    case atStart => exact ⟨0, n - 1, l, rfl, by go_num, by omega, by omega, Lib.hid ⟨by omega, Rev.zero l, HO.out, Chg.refl _ _⟩⟩
    case round =>
      obtain ⟨k, j, xs, rfl, rfl, hk, hj, hH⟩ := hrel
      by_cases hlt : k < j
      · obtain ⟨x, hx⟩ : ∃ x, xs[k]? = some x := ⟨_, List.getElem?_eq_getElem (by rw [hH.out.2.1.1, hL.out]; omega)⟩
        obtain ⟨y, hy⟩ : ∃ y, xs[j]? = some y := ⟨_, List.getElem?_eq_getElem (by rw [hH.out.2.1.1, hL.out]; omega)⟩
        have ck := own_at hH.out.2.2.1 (x := .int .u8 x) (by rw [u8s, List.getElem?_map, hx]; rfl)
        have cj := own_at hH.out.2.2.1 (x := .int .u8 y) (by rw [u8s, List.getElem?_map, hy]; rfl)
        have fk := (own_set hH.out.2.2.1 (i := k) (by omega)).1
        have fj := (own_set hH.out.2.2.1 (i := j) (by omega)).1
        have hlk : (k : Int) < n := by omega
        have hlj : (j : Int) < n := by omega
        have hk0 : (0 : Int) ≤ k := by omega
        have hj0 : (0 : Int) ≤ j := by omega
        have HX := Lib.hid hx; clear hx
        have HY := Lib.hid hy; clear hy
        go_wp2_with fail
        go_region
        go_wp2_with fail
        go_roundw
        case rel =>
          obtain ⟨heq, hrev, hown, hchg⟩ := hH.out
          have hst := hrev.step (a := x) (b := y) (by rw [hL.out]; omega) HX.out (by rw [hL.out, show n - 1 - k = j by omega]; exact HY.out)
          rw [hL.out, show n - 1 - k = j by omega] at hst
          have ho2 := (own_set ((own_set hown (i := k) (by omega)).2 (.int .u8 y)) (i := j) (by omega)).2 (.int .u8 x)
          rw [show ((u8s xs).set k (.int .u8 y)).set j (.int .u8 x) = u8s ((xs.set k y).set j x) by simp [u8s, List.map_set]] at ho2
          exact ⟨k + 1, j - 1, _, by go_num, by congr 1; omega, by omega, by omega, Lib.hid ⟨by omega, hst, ho2, chg_drew ((hchg.setCell (p := ⟨g, k, none⟩) rfl _).setCell (p := ⟨g, j, none⟩) rfl _)⟩⟩
        case measure => simp [intOf]; omega
      · go_wp2_with fail
        go_end0
        obtain ⟨heq, hrev, hown, hchg⟩ := hH.out
        rw [hrev.fin (by rw [hL.out]; omega)] at hown
        exact ⟨rfl, hown, hchg⟩

set_option maxHeartbeats 4000000 in
set_option maxRecDepth 100000 in
theorem tlv_num (n : Int) (w : World) (h0 : 0 ≤ n) (h1 : n ≤ 9223372036854775807) :
    Calls Try.prog 30 #[.int .i64 n] w (NewSl 5 1 (numB n).length (u8s (numB n)) w) := by
  go_enter Try.func30, Try.ntmps30
  go_wp2_with fail
  go_loopw [0, 3] (fun nv bv wr => ∃ (m f : Nat) (cs : List Int), nv = .int .i64 m ∧ m ≤ 9223372036854775807 ∧ Hid (m < 256 ^ f ∧ f ≤ 8 ∧ cs.length + f = 8 ∧ cs ++ leF f m = leF 8 n.toNat) ∧ cs.length ≤ 8 ∧ Hid (wr.ownsRow w.heap.size 5 1 bv cs.length (u8s cs)) ∧ Below w.heap.size w wr) (fun nv _ _ => (intOf nv).toNat)
  case atStart => exact ⟨n.toNat, 8, [], by go_num, by omega, Lib.hid ⟨by omega, by omega, rfl, rfl⟩, by simp, Lib.hid (own_none _ _ _ _), Below.refl _ _⟩
  case round =>
    obtain ⟨m, f, cs, rfl, hm, hH, hcs, hown, hB⟩ := hrel
    by_cases hlt : 0 < m
    · have hsz := hB.size
      have HB := Lib.hid hB; clear hB
      go_wp2_with (at_builtin; go_must (refine wpList_append_sl (m := 1) el_byte _ rfl rfl rfl rfl (own_alloc hown.out _) (sl_lit (n := 1) _ #[.int .u8 ((m % 256 : Nat) : Int)] 5 (by simp) rfl (by simp [maxLen]) (by intro u hu; simp at hu; subst hu; rfl)) (by omega) (by simp only [maxLen]; omega) (by first | omega | (simp; done) | (simp; omega)) ?_); intro v' w4 hown4 hg4 _ _; have HO4 := Lib.hid hown4; have HG4 := Lib.hid hg4; clear hown4 hg4)
      go_roundw
      case rel =>
        obtain ⟨h1, h2, h3, h4⟩ := hH.out
        obtain ⟨f, rfl⟩ : ∃ q, f = q + 1 := by
          cases f with
          | zero => simp at h1; omega
          | succ q => exact ⟨q, rfl⟩
        refine ⟨m / 256, f, cs ++ [((m % 256 : Nat) : Int)], by congr 1, by omega, Lib.hid ⟨?_, by omega, by simp; omega, ?_⟩, by simp; omega, Lib.hid ?_, Below.grown (show Below w.heap.size w _ from (by repeat' (first | exact Below.refl _ _ | exact HB.out | refine Below.alloc ?_ (by first | omega | (simp; done) | (simp; omega)) _ | refine Below.drew ?_ | refine below_drewN ?_ _ | refine Below.setCell ?_ (by first | omega | (simp; done) | (simp; omega)) _))) HG4.out (by simp; omega) (fun q hq => (hown.out.lt q hq).1)⟩
        · rw [Nat.pow_succ] at h1; omega
        · rw [← h4]; simp only [leF]; rw [if_neg (by omega), List.append_assoc]; rfl
        · rw [List.length_append, List.length_singleton, u8s, List.map_append]; exact HO4.out
      case measure => simp [intOf]; omega
    · obtain rfl : m = 0 := by omega
      obtain ⟨h1, h2, h3, h4⟩ := hH.out
      rw [leF_zero, List.append_nil] at h4
      have H4 := Lib.hid h4; clear h4
      have HB := Lib.hid hB; clear hB
      go_wp2_with fail
      refine (reverse_byte w.heap.size _ cs.length cs _ hown.out (by omega)).mono ?_
      rintro ed w' ⟨rfl, hown', hchg⟩
      have HO' := Lib.hid hown'; clear hown'
      have HC := Lib.hid hchg; clear hchg
      go_wp2_with fail
      go_ret
      have hr : cs.reverse = numB n := by rw [numB, H4.out]
      have ho := HO'.out
      rw [hr] at ho
      have hlen : cs.length = (numB n).length := by rw [← hr, List.length_reverse]
      rw [hlen] at ho
      exact ⟨_, rfl, ho, HB.out.trans (HC.out.toBelow HB.out.size (fun i hi e => by have := (hown.out.lt i e).1; omega))⟩

theorem pow256_le (f : Nat) (hf : f ≤ 8) : 256 ^ f ≤ 18446744073709551616 := by
  have := Nat.pow_le_pow_right (n := 256) (by omega) hf
  simpa using this

set_option maxHeartbeats 4000000 in
set_option maxRecDepth 100000 in
theorem ref_num_f (f : Nat) : ∀ (z : Int) (w : World), 0 ≤ z → z.toNat < 256 ^ f → f ≤ 8 → z ≤ 9223372036854775807 →
    Calls Try.prog 53 #[.int .i64 z] w (NewSl 5 1 (leF f z.toNat).length (u8s (leF f z.toNat).reverse) w) := by
  induction f with
  | zero =>
    intro z w h0 h1 h2 hz
    obtain rfl : z = 0 := by simp at h1; omega
    go_enter Try.func53, Try.ntmps53
    go_wp2_with fail
    go_ret
    exact ⟨_, rfl, own_none _ _ _ _, Below.refl _ _⟩
  | succ f ih =>
    intro z w h0 h1 h2 hz
    have IH := Lib.hid ih; clear ih
    by_cases hp : 0 < z
    · have hl : leF (f + 1) z.toNat = ((z.toNat % 256 : Nat) : Int) :: leF f (z / 256).toNat := by
        simp only [leF]; rw [if_neg (by omega), show (z / 256).toNat = z.toNat / 256 by omega]
      have hq : (z / 256).toNat < 256 ^ f := by rw [Nat.pow_succ] at h1; omega
      have hc : ((z.toNat % 256 : Nat) : Int) = z % 256 := by omega
      have hlen := leF_len f (z / 256).toNat
      rw [hl, hc]
      have HL := Lib.hid hl; clear hl
      have HC := Lib.hid hc; clear hc
      have HQ := Lib.hid hq; clear hq
      clear h1
      go_enter Try.func53, Try.ntmps53
      go_wp2_with fail
      refine (IH.out (z / 256) _ (by omega) HQ.out (by omega) (by omega)).mono ?_
      generalize leF f (z / 256).toNat = cs at *
      rintro ed w2 ⟨v2, rfl, hown, hB⟩
      obtain ⟨a2, c2, rfl⟩ := own_shape hown
      have HO := Lib.hid hown; clear hown
      have hsz := hB.size
      have HB := Lib.hid hB; clear hB
      go_wp2_with (at_builtin; go_must (refine wpList_append_sl (m := 1) el_byte _ rfl rfl rfl rfl (own_alloc HO.out _) (sl_lit (n := 1) _ #[.int .u8 (z % 256)] 5 (by simp) rfl (by simp [maxLen]) (by intro u hu; simp at hu; subst hu; rfl)) (by omega) (by simp only [maxLen]; omega) (by first | omega | (simp; done) | (simp; omega)) ?_); intro v' w4 hown4 hg4 _ _; have HO4 := Lib.hid hown4; have HG4 := Lib.hid hg4; clear hown4 hg4)
      go_ret
      refine ⟨_, rfl, ?_, Below.grown (show Below w.heap.size w _ from (by repeat' (first | exact Below.refl _ _ | exact HB.out | refine Below.alloc ?_ (by first | omega | (simp; done) | (simp; omega)) _ | refine Below.drew ?_ | refine below_drewN ?_ _ | refine Below.setCell ?_ (by first | omega | (simp; done) | (simp; omega)) _))) HG4.out (by simp; omega) (fun q hq => (HO.out.lt q hq).1)⟩
      have := HO4.out
      simpa [u8s] using this
    · obtain rfl : z = 0 := by omega
      go_enter Try.func53, Try.ntmps53
      go_wp2_with fail
      go_ret
      rw [leF_zero]
      exact ⟨_, rfl, own_none _ _ _ _, Below.refl _ _⟩
theorem ref_num (z : Int) (w : World) (h0 : 0 ≤ z) (h1 : z ≤ 9223372036854775807) : Calls Try.prog 53 #[.int .i64 z] w (NewSl 5 1 (numB z).length (u8s (numB z)) w) := by
  have := ref_num_f 8 z w h0 (by have : (256 : Nat) ^ 8 = 18446744073709551616 := by decide
                                 omega) (by omega) h1
  rw [numB, List.length_reverse]; exact this
end Go.Proofs.Ytlbfeoobeleobaa
