/- Bytes and numbers: what a writer of bits has laid after so many bits of a field. -/
import Derived.Test.YtlbfeoobeleobaaBase
import Derived.Laws.BitsLemmas
namespace Go.Proofs.Ytlbfeoobeleobaa
open Go.RowKit
set_option linter.unusedVariables false
set_option linter.unusedSimpArgs false

/-- the last m bytes of a number, the greatest first -/
def be : Nat → Int → List Int
  | 0, _ => []
  | m + 1, P => be m (P / 256) ++ [P % 256]

theorem be_length (m : Nat) (P : Int) : (be m P).length = m := by
  induction m generalizing P with
  | zero => rfl
  | succ m ih => simp [be, ih]
theorem be_byte (m : Nat) (P : Int) : ∀ x ∈ be m P, 0 ≤ x ∧ x < 256 := by
  induction m generalizing P with
  | zero => intro x hx; simp [be] at hx
  | succ m ih =>
    intro x hx
    rcases List.mem_append.1 hx with h | h
    · exact ih _ x h
    · rw [List.mem_singleton.1 h]; omega
theorem be_snoc (m : Nat) (a b : Int) (h0 : 0 ≤ b) (h1 : b < 256) : be (m + 1) (a * 256 + b) = be m a ++ [b] := by
  simp only [be]
  rw [show (a * 256 + b) / 256 = a by omega, show (a * 256 + b) % 256 = b by omega]

/-- the value of the first d of the q + 1 bits of v, filled up to whole bytes -/
def pad (v : Int) (q d : Nat) : Int := v / 2 ^ (q + 1 - d) * 2 ^ (8 * ((d + 7) / 8) - d)
/-- what has been laid of a field after d bits -/
def laid (v : Int) (q d : Nat) : List Int := be ((d + 7) / 8) (pad v q d)

theorem laid_length (v : Int) (q d : Nat) : (laid v q d).length = (d + 7) / 8 := be_length _ _
theorem laid_zero (v : Int) (q : Nat) : laid v q 0 = [] := rfl
theorem laid_all (v : Int) (q m : Nat) (h : q + 1 = 8 * m) : laid v q (q + 1) = be m v := by
  unfold laid pad
  rw [h, show (8 * m + 7) / 8 = m by omega, Nat.sub_self, Int.pow_zero, Int.ediv_one, Int.mul_one]

theorem top_step (v : Int) (q d : Nat) (hd : d ≤ q) : v / 2 ^ (q + 1 - (d + 1)) = v / 2 ^ (q + 1 - d) * 2 + v / 2 ^ (q - d) % 2 := by
  rw [show q + 1 - (d + 1) = q - d by omega, show q + 1 - d = (q - d) + 1 by omega, Int.pow_succ, ← Int.ediv_ediv_of_nonneg (by exact_mod_cast Nat.zero_le (2 ^ (q - d)))]
  omega

/-- a new byte -/
theorem laid_new (v : Int) (q d : Nat) (hd : d ≤ q) (h8 : d % 8 = 0) : laid v q (d + 1) = laid v q d ++ [v / 2 ^ (q - d) % 2 * 2 ^ 7] := by
  obtain ⟨m, rfl⟩ : ∃ m, d = 8 * m := ⟨d / 8, by omega⟩
  unfold laid pad
  rw [top_step v q _ hd]
  rw [show (8 * m + 1 + 7) / 8 = m + 1 by omega, show (8 * m + 7) / 8 = m by omega, show 8 * (m + 1) - (8 * m + 1) = 7 by omega, Nat.sub_self, Int.pow_zero, Int.mul_one]
  generalize v / 2 ^ (q + 1 - 8 * m) = u
  have hx : 0 ≤ v / 2 ^ (q - 8 * m) % 2 ∧ v / 2 ^ (q - 8 * m) % 2 ≤ 1 := by omega
  generalize v / 2 ^ (q - 8 * m) % 2 = x at hx ⊢
  rw [show (u * 2 + x) * 2 ^ 7 = u * 256 + x * 2 ^ 7 by omega]
  exact be_snoc m u _ (by omega) (by omega)

/-- one bit more in the last byte -/
theorem laid_more (v : Int) (q d : Nat) (hd : d ≤ q) (h8 : d % 8 ≠ 0) :
    ∃ l B, laid v q d = l ++ [B] ∧ 0 ≤ B ∧ B < 256 ∧ B % 2 ^ (8 - d % 8) = 0 ∧ laid v q (d + 1) = l ++ [B + v / 2 ^ (q - d) % 2 * 2 ^ (7 - d % 8)] := by
  obtain ⟨m, r, hr0, hr1, rfl⟩ : ∃ m r, 0 < r ∧ r < 8 ∧ d = 8 * m + r := ⟨d / 8, d % 8, by omega, by omega, by omega⟩
  unfold laid pad
  rw [top_step v q _ hd]
  rw [show (8 * m + r + 1 + 7) / 8 = m + 1 by omega, show (8 * m + r + 7) / 8 = m + 1 by omega, show 8 * (m + 1) - (8 * m + r + 1) = 7 - r by omega, show 8 * (m + 1) - (8 * m + r) = 8 - r by omega, show (8 * m + r) % 8 = r by omega]
  generalize v / 2 ^ (q + 1 - (8 * m + r)) = u
  have hx : 0 ≤ v / 2 ^ (q - (8 * m + r)) % 2 ∧ v / 2 ^ (q - (8 * m + r)) % 2 ≤ 1 := by omega
  generalize v / 2 ^ (q - (8 * m + r)) % 2 = x at hx ⊢
  simp only [be]
  have hp : (2 : Int) ^ (8 - r) = 2 * 2 ^ (7 - r) := by rw [show 8 - r = (7 - r) + 1 by omega, Int.pow_succ]; omega
  have key : ∀ t : Nat, t < 8 → 0 < t → (2 : Int) ^ (8 - t) ∣ 256 ∧ u * 2 ^ (8 - t) % 256 % 2 ^ (8 - t) = 0 ∧ ((u * 2 + x) * 2 ^ (7 - t)) / 256 = u * 2 ^ (8 - t) / 256 ∧ ((u * 2 + x) * 2 ^ (7 - t)) % 256 = u * 2 ^ (8 - t) % 256 + x * 2 ^ (7 - t) := by
    intro t ht ht0
    have : t = 1 ∨ t = 2 ∨ t = 3 ∨ t = 4 ∨ t = 5 ∨ t = 6 ∨ t = 7 := by omega
    rcases this with rfl | rfl | rfl | rfl | rfl | rfl | rfl <;> refine ⟨by decide, ?_, ?_, ?_⟩ <;> simp only [Nat.reduceSub, Int.reducePow] <;> omega
  obtain ⟨-, k1, k2, k3⟩ := key r hr1 hr0
  refine ⟨_, _, rfl, by omega, by omega, k1, ?_⟩
  rw [k2, k3]

theorem bits_and_one (v : Int) (h0 : 0 ≤ v) (h1 : v < 2 ^ 62) : bits BinOp.and IntKind.i64 v 1 = v % 2 :=
  bits_mask .i64 62 (by decide) (fun n a b => by rw [IntKind.wrap_i64]; omega) 1 (by decide) v h0 h1

/-- the byte that is stored: a new bit behind the d that are there -/
theorem or_new (x : Int) (h0 : 0 ≤ x) (h1 : x ≤ 1) : bits BinOp.or IntKind.u8 0 (IntKind.u8.wrap (x * 2 ^ 7)) = x * 2 ^ 7 := by
  have : x = 0 ∨ x = 1 := by omega
  rcases this with rfl | rfl <;> decide

theorem or_more (B x : Int) (r : Nat) (hr : r < 8) (hr0 : 0 < r) (b0 : 0 ≤ B) (b1 : B < 256) (hB : B % 2 ^ (8 - r) = 0) (h0 : 0 ≤ x) (h1 : x ≤ 1) :
    bits BinOp.or IntKind.u8 B (IntKind.u8.wrap (x * 2 ^ (7 - r))) = B + x * 2 ^ (7 - r) := by
  have hw : IntKind.u8.wrap (x * 2 ^ (7 - r)) = x * 2 ^ (7 - r) := by
    rw [IntKind.wrap_u8]
    have : r = 1 ∨ r = 2 ∨ r = 3 ∨ r = 4 ∨ r = 5 ∨ r = 6 ∨ r = 7 := by omega
    rcases this with rfl | rfl | rfl | rfl | rfl | rfl | rfl <;> simp only [Nat.reduceSub, Int.reducePow] <;> omega
  rw [hw]
  refine bits_join .u8 8 (by decide) wraps_u8 (8 - r) B _ b0 hB (by omega) ?_ ?_ ?_ <;>
    (have : r = 1 ∨ r = 2 ∨ r = 3 ∨ r = 4 ∨ r = 5 ∨ r = 6 ∨ r = 7 := by omega
     rcases this with rfl | rfl | rfl | rfl | rfl | rfl | rfl <;> simp only [Nat.reduceSub, Int.reducePow] <;> omega)

theorem set_last {α : Type} (l : List α) (a b : α) : (l ++ [a]).set l.length b = l ++ [b] := by
  rw [List.set_append_right _ _ (Nat.le_refl _)]; simp

theorem put_new (bytes : List Int) (v : Int) (q d N : Nat) (hN : N = 8 * bytes.length + d) (hd : d ≤ q) (h8 : N % 8 = 0) {B : Int} (hB : (bytes ++ laid v q d ++ [0])[N / 8]? = some B) :
    (bytes ++ laid v q d ++ [0]).set (N / 8) (bits BinOp.or IntKind.u8 B (IntKind.u8.wrap (v / 2 ^ (q - d) % 2 * 2 ^ (7 - (N : Int) % 8).toNat))) = bytes ++ laid v q (d + 1) := by
  have h8d : d % 8 = 0 := by omega
  have hl : N / 8 = (bytes ++ laid v q d).length := by rw [List.length_append, laid_length]; omega
  rw [hl] at hB ⊢
  rw [List.getElem?_append_right (Nat.le_refl _)] at hB
  obtain rfl : 0 = B := by simpa using hB
  rw [set_last, show (7 - (N : Int) % 8).toNat = 7 by omega, or_new _ (by omega) (by omega), laid_new v q d hd h8d, List.append_assoc]

theorem put_more (bytes : List Int) (v : Int) (q d N : Nat) (hN : N = 8 * bytes.length + d) (hd : d ≤ q) (h8 : N % 8 ≠ 0) {B : Int} (hB : (bytes ++ laid v q d)[N / 8]? = some B) :
    (bytes ++ laid v q d).set (N / 8) (bits BinOp.or IntKind.u8 B (IntKind.u8.wrap (v / 2 ^ (q - d) % 2 * 2 ^ (7 - (N : Int) % 8).toNat))) = bytes ++ laid v q (d + 1) := by
  have h8d : d % 8 ≠ 0 := by omega
  obtain ⟨l, C, h1, h2, h3, h4, h5⟩ := laid_more v q d hd h8d
  have hl2 := laid_length v q d
  rw [h1] at hB hl2 ⊢
  rw [List.length_append, List.length_singleton] at hl2
  have hl : N / 8 = (bytes ++ l).length := by rw [List.length_append]; omega
  rw [← List.append_assoc] at hB ⊢
  rw [hl] at hB ⊢
  rw [List.getElem?_append_right (Nat.le_refl _)] at hB
  obtain rfl : C = B := by simpa using hB
  rw [set_last, show (7 - (N : Int) % 8).toNat = 7 - d % 8 by omega, or_more C _ (d % 8) (by omega) (by omega) h2 h3 h4 (by omega) (by omega), h5, List.append_assoc]

/-! ### reading -/
/-- the number of bytes, the greatest first -/
def numOf (l : List Int) : Int := l.foldl (fun n x => n * 256 + x) 0
theorem numOf_snoc (l : List Int) (x : Int) : numOf (l ++ [x]) = numOf l * 256 + x := by simp [numOf]
theorem snoc_of {α : Type} {l : List α} {m : Nat} (h : l.length = m + 1) : ∃ k x, l = k ++ [x] ∧ k.length = m := by
  have hne : l ≠ [] := by intro e; simp [e] at h
  exact ⟨l.dropLast, l.getLast hne, (List.dropLast_concat_getLast hne).symm, by simp [h]⟩
theorem numOf_range (l : List Int) (hb : ∀ x ∈ l, 0 ≤ x ∧ x < 256) : 0 ≤ numOf l ∧ numOf l < 2 ^ (8 * l.length) := by
  generalize hm : l.length = m
  induction m generalizing l with
  | zero => obtain rfl := List.eq_nil_of_length_eq_zero hm; simp [numOf]
  | succ m ih =>
    obtain ⟨k, x, rfl, hk⟩ := snoc_of hm
    have h1 := ih k (fun y hy => hb y (by simp [hy])) hk
    have h2 := hb x (by simp)
    rw [numOf_snoc, show 8 * (m + 1) = 8 * m + 8 by omega, Int.pow_add]
    generalize (2 : Int) ^ (8 * m) = P at h1 ⊢
    have : (2 : Int) ^ 8 = 256 := by decide
    rw [this]; omega

theorem pow_split (a b : Nat) (V : Int) : V / 2 ^ (a + b) = V / 2 ^ a / 2 ^ b := by
  rw [Int.pow_add, Int.ediv_ediv_of_nonneg (by exact_mod_cast Nat.zero_le (2 ^ a))]

/-- bit d of the number of bytes is bit 7 - d % 8 of byte d / 8 -/
theorem num_bit (l : List Int) (hb : ∀ x ∈ l, 0 ≤ x ∧ x < 256) (d : Nat) (hd : d < 8 * l.length) {B : Int} (hB : l[d / 8]? = some B) : numOf l / 2 ^ (8 * l.length - d - 1) % 2 = B / 2 ^ (7 - d % 8) % 2 := by
  generalize hm : l.length = m at hd
  induction m generalizing l with
  | zero => omega
  | succ m ih =>
    obtain ⟨k, x, rfl, hk⟩ := snoc_of hm
    have h2 := hb x (by simp)
    rw [numOf_snoc]
    by_cases hlt : d < 8 * m
    · have hB' : k[d / 8]? = some B := by rwa [List.getElem?_append_left (by omega)] at hB
      have := ih k (fun y hy => hb y (by simp [hy])) hB' hk hlt
      rw [← this, show 8 * (m + 1) - d - 1 = 8 + (8 * m - d - 1) by omega, pow_split]
      have h8 : (2 : Int) ^ 8 = 256 := by decide
      rw [h8, show (numOf k * 256 + x) / 256 = numOf k by omega]
    · rw [List.getElem?_append_right (by omega), show d / 8 - k.length = 0 by omega] at hB
      obtain rfl : x = B := by simpa using hB
      obtain ⟨r, hr, rfl⟩ : ∃ r, r < 8 ∧ d = 8 * m + r := ⟨d - 8 * m, by omega, by omega⟩
      rw [show 8 * (m + 1) - (8 * m + r) - 1 = 7 - r by omega, show (8 * m + r) % 8 = r by omega]
      generalize numOf k = K
      have : r = 0 ∨ r = 1 ∨ r = 2 ∨ r = 3 ∨ r = 4 ∨ r = 5 ∨ r = 6 ∨ r = 7 := by omega
      rcases this with rfl | rfl | rfl | rfl | rfl | rfl | rfl | rfl <;> simp only [Nat.reduceSub, Int.reducePow] <;> omega

/-- one bit more -/
theorem num_step (l : List Int) (hb : ∀ x ∈ l, 0 ≤ x ∧ x < 256) (d : Nat) (hd : d < 8 * l.length) {B : Int} (hB : l[d / 8]? = some B) : numOf l / 2 ^ (8 * l.length - (d + 1)) = numOf l / 2 ^ (8 * l.length - d) * 2 + B / 2 ^ (7 - d % 8) % 2 := by
  have := num_bit l hb d hd hB
  rw [show 8 * l.length - d = (8 * l.length - d - 1) + 1 by omega, show 8 * l.length - (d + 1) = 8 * l.length - d - 1 by omega, pow_split (8 * l.length - d - 1) 1, Int.pow_one, ← this]
  omega

theorem or_bit (n x : Int) (h0 : 0 ≤ n) (h1 : n < 2 ^ 40) (x0 : 0 ≤ x) (x1 : x ≤ 1) : bits BinOp.or IntKind.i64 (n * 2) x = n * 2 + x :=
  bits_join .i64 62 (by decide) (fun n a b => by rw [IntKind.wrap_i64]; omega) 1 (n * 2) x (by omega) (by omega) (by omega) x0 (by omega) (by omega)
theorem u8_and_one (v : Int) (h0 : 0 ≤ v) (h1 : v < 256) : bits BinOp.and IntKind.u8 v 1 = v % 2 :=
  bits_mask .u8 8 (by decide) wraps_u8 1 (by decide) v h0 h1
end Go.Proofs.Ytlbfeoobeleobaa
