/- Unlike right products have unlike forms, and none is the beginning of another's: plain Lean. -/
import Derived.Test.YtlbfeoobeleobaaFormP
import Derived.Laws.BytesArg
namespace Go.Proofs.Ytlbfeoobeleobaa
open Go.RowKit
set_option linter.unusedVariables false
set_option linter.unusedSimpArgs false

theorem numOf_leF (f n : Nat) (h : n < 256 ^ f) : numOf (leF f n).reverse = n := by
  induction f generalizing n with
  | zero => obtain rfl : n = 0 := by simpa using h
            rfl
  | succ f ih =>
    simp only [leF]; split
    · next h0 => subst h0; rfl
    · rw [List.reverse_cons, numOf_snoc, ih (n / 256) (by rw [Nat.pow_succ] at h; omega)]; omega
theorem numOf_numB (n : Int) (h0 : 0 ≤ n) (h1 : n ≤ 9223372036854775807) : numOf (numB n) = n := by
  have := numOf_leF 8 n.toNat (by have : (256 : Nat) ^ 8 = 18446744073709551616 := by decide
                                  omega)
  rw [numB, this]; omega
theorem innerOf_head (i : Nat) (ns : List Int) : ∀ x r, innerOf i ns = x :: r → (i : Int) + 1 ≤ x := by
  induction ns generalizing i with
  | nil => intro x r h; simp [innerOf] at h
  | cons n ns ih =>
    intro x r h
    simp only [innerOf] at h; split at h
    · have := ih (i + 1) x r h; omega
    · simp only [List.cons_append, List.nil_append, List.cons.injEq] at h; omega
theorem innerOf_inj (i : Nat) (ns ms : List Int) (hl : ns.length = ms.length) (hn : ∀ n ∈ ns, 0 ≤ n ∧ n ≤ 2147483648) (hm : ∀ n ∈ ms, 0 ≤ n ∧ n ≤ 2147483648) (h : innerOf i ns = innerOf i ms) : ns = ms := by
  induction ns generalizing i ms with
  | nil => cases ms with
    | nil => rfl
    | cons => simp at hl
  | cons n ns ih =>
    cases ms with
    | nil => simp at hl
    | cons m ms =>
      have hl' : ns.length = ms.length := by simpa using hl
      have h1 := hn n (by simp)
      have h2 := hm m (by simp)
      have hn' := fun x hx => hn x (List.mem_cons_of_mem _ hx)
      have hm' := fun x hx => hm x (List.mem_cons_of_mem _ hx)
      simp only [innerOf] at h
      by_cases n0 : n = 0
      · by_cases m0 : m = 0
        · rw [if_pos n0, if_pos m0] at h
          rw [n0, m0, ih (i + 1) ms hl' hn' hm' h]
        · rw [if_pos n0, if_neg m0] at h
          have := innerOf_head (i + 1) ns _ _ h
          omega
      · by_cases m0 : m = 0
        · rw [if_neg n0, if_pos m0] at h
          have := innerOf_head (i + 1) ms _ _ h.symm
          omega
        · rw [if_neg n0, if_neg m0] at h
          simp only [List.cons_append, List.nil_append, List.cons.injEq, true_and] at h
          obtain ⟨hlen, h⟩ := h
          have hlen' : (numB n).length = (numB m).length := by omega
          obtain ⟨hb, hr⟩ := List.append_inj h hlen'
          have e1 := numOf_numB n h1.1 (by omega)
          have e2 := numOf_numB m h2.1 (by omega)
          rw [hb, e2] at e1
          rw [e1, ih (i + 1) ms hl' hn' hm' hr]

theorem Prod.nums_inj {p q : Prod} (h : p.nums = q.nums) : p = q := by
  obtain ⟨a, b, c, d, e, f, g, h', o, i, j, k, l, m⟩ := p
  obtain ⟨a', b', c', d', e', f', g', h'', o', i', j', k', l', m'⟩ := q
  simp only [Prod.nums, List.cons.injEq, and_true] at h
  obtain ⟨rfl, rfl, rfl, rfl, rfl, rfl, rfl, rfl, ho, rfl, rfl, rfl, rfl, hm⟩ := h
  have hb : ∀ x y : Bool, bitI x = bitI y → x = y := by intro x y; cases x <;> cases y <;> simp [bitI]
  rw [hb _ _ ho, hb _ _ hm]
theorem Prod.form_inj {p q : Prod} (hp : p.right = true) (hq : q.right = true) (h : p.form = q.form) : p = q := by
  simp only [Prod.form, List.cons_append, List.nil_append, List.cons.injEq, true_and] at h
  exact Prod.nums_inj (innerOf_inj 0 _ _ rfl (Prod.nums_small p hp) (Prod.nums_small q hq) h.2)
theorem Prod.form_len (p : Prod) : p.form.length = p.inner.length + 2 := by simp [Prod.form]
theorem Prod.form_prefix {p q : Prod} (hp : p.right = true) (hq : q.right = true) {n : Nat} (hn : 2 ≤ n) (h1 : n ≤ p.form.length) (h2 : n ≤ q.form.length) (hm : p.form.length ≤ n ∨ q.form.length ≤ n) (h : p.form.take n = q.form.take n) : p = q := by
  have hlen : p.inner.length = q.inner.length := by
    have h3 : (p.form.take n)[1]? = (q.form.take n)[1]? := by rw [h]
    rw [List.getElem?_take_of_lt (by omega), List.getElem?_take_of_lt (by omega)] at h3
    simp [Prod.form] at h3; omega
  have e1 := Prod.form_len p
  have e2 := Prod.form_len q
  rw [List.take_of_length_le (by omega), List.take_of_length_le (by omega)] at h
  exact Prod.form_inj hp hq h

theorem strOf_inj {a b : List Int} (ha : ∀ x ∈ a, 0 ≤ x ∧ x < 256) (hb : ∀ x ∈ b, 0 ≤ x ∧ x < 256) (h : strOfNums a = strOfNums b) : a = b := by
  have h1 : (a.map fun n => UInt8.ofNat n.toNat) = b.map fun n => UInt8.ofNat n.toNat := by
    rw [← strOfNums_data, ← strOfNums_data, h]
  have hl : a.length = b.length := by simpa using congrArg List.length h1
  refine List.ext_getElem hl fun i h2 h3 => ?_
  have h4 := congrArg (fun l => l[i]?) h1
  simp only [List.getElem?_map, List.getElem?_eq_getElem h2, List.getElem?_eq_getElem h3, Option.map_some, Option.some.injEq] at h4
  have h5 := ha a[i] (List.getElem_mem h2)
  have h6 := hb b[i] (List.getElem_mem h3)
  have h7 := congrArg UInt8.toNat h4
  simp only [UInt8.toNat_ofNat'] at h7
  omega
/-- a right product's form is short -/
theorem innerOf_len2 : ∀ (i : Nat) (ns : List Int) (ms : List Nat), ns.length = ms.length → (∀ (j : Nat) (n : Int) (m : Nat), ns[j]? = some n → ms[j]? = some m → (numB n).length ≤ m) → (innerOf i ns).length ≤ ms.sum + 2 * ms.length
  | _, [], [], _, _ => by simp [innerOf]
  | i, n :: ns, m :: ms, hl, h => by
    have h1 := innerOf_len2 (i + 1) ns ms (by simpa using hl) (fun j a b ha hb => h (j + 1) a b (by simpa using ha) (by simpa using hb))
    have h2 := h 0 n m rfl rfl
    simp only [innerOf, List.sum_cons, List.length_cons]
    split
    · omega
    · simp; omega
theorem Prod.form_short (p : Prod) (h : p.right = true) : p.form.length ≤ 59 := by
  have hr := (Prod.right_iff p).1 h
  have h1 : ∀ b : Bool, bitI b ≤ 1 := by intro b; cases b <;> decide
  have b1 := h1 p.opn; have b2 := h1 p.blocked
  have p1 : (256 : Int) ^ 1 = 256 := by decide
  have p2 : (256 : Int) ^ 2 = 65536 := by decide
  have p4 : (256 : Int) ^ 4 = 4294967296 := by decide
  have := innerOf_len2 0 p.nums [1, 1, 2, 2, 1, 4, 2, 1, 1, 1, 2, 2, 2, 1] rfl (fun j n m hn hm => by
    have hj : j < 14 := by have := (List.getElem?_eq_some_iff.1 hn).1; rwa [Prod.nums_len] at this
    have : j = 0 ∨ j = 1 ∨ j = 2 ∨ j = 3 ∨ j = 4 ∨ j = 5 ∨ j = 6 ∨ j = 7 ∨ j = 8 ∨ j = 9 ∨ j = 10 ∨ j = 11 ∨ j = 12 ∨ j = 13 := by omega
    rcases this with rfl | rfl | rfl | rfl | rfl | rfl | rfl | rfl | rfl | rfl | rfl | rfl | rfl | rfl <;> (simp [Prod.nums] at hn hm; subst hn hm; first | exact numB_small 1 _ (by omega) | exact numB_small 2 _ (by omega) | exact numB_small 4 _ (by omega)))
  rw [Prod.form_len]
  unfold Prod.inner
  simp at this; omega
end Go.Proofs.Ytlbfeoobeleobaa
