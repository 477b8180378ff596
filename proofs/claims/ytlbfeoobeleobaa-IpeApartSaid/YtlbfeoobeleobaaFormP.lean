/- A product's form, in plain Lean. -/
import Derived.Test.YtlbfeoobeleobaaTreeB
import Derived.Test.YtlbfeoobeleobaaRight
namespace Go.Proofs.Ytlbfeoobeleobaa
open Go.RowKit
set_option linter.unusedVariables false
set_option linter.unusedSimpArgs false

def elemsOf : Nat → List Int → List T
  | _, [] => []
  | i, n :: ns => if n = 0 then elemsOf (i + 1) ns else .mk ((i : Int) + 1) (numB n) [] :: elemsOf (i + 1) ns
def innerOf : Nat → List Int → List Int
  | _, [] => []
  | i, n :: ns => if n = 0 then innerOf (i + 1) ns else [(i : Int) + 1, ((numB n).length : Int)] ++ numB n ++ innerOf (i + 1) ns
def Prod.inner (p : Prod) : List Int := innerOf 0 p.nums
def Prod.form (p : Prod) : List Int := [224, (p.inner.length : Int)] ++ p.inner

@[simp] theorem T.tag_mk (t : Int) (b : List Int) (k : List T) : (T.mk t b k).tag = t := rfl
@[simp] theorem T.bytes_mk (t : Int) (b : List Int) (k : List T) : (T.mk t b k).bytes = b := rfl
@[simp] theorem T.kids_mk (t : Int) (b : List Int) (k : List T) : (T.mk t b k).kids = k := rfl
theorem rightGo_mk (inner : List T → Bool) (last t : Int) (b : List Int) (k es : List T) : rightGo inner last (.mk t b k :: es) = (decide (last < t) && decide (t ≤ 255) && (if 128 ≤ t then b.isEmpty else k.isEmpty) && inner k && rightGo inner t es) := rfl
theorem layGo_mk (inner : List T → Option (List Int)) (cur : List Int) (t : Int) (b : List Int) (k es : List T) (i : List Int) (hi : inner k = some i) (hl : (layBody (.mk t b k) i).length ≤ 255) :
    layGo inner cur (.mk t b k :: es) = layGo inner (cur ++ [t % 256, ((layBody (.mk t b k) i).length : Int)] ++ layBody (.mk t b k) i) es := by
  rw [layGo]; simp only [T.kids_mk, hi]; rw [if_neg (by omega)]; rfl
theorem layBody_lo (t : Int) (b : List Int) (k : List T) (i : List Int) (h : t < 128) : layBody (.mk t b k) i = b := by simp [layBody, h]
theorem layBody_hi (t : Int) (b : List Int) (k : List T) (i : List Int) (h : 128 ≤ t) : layBody (.mk t b k) i = i := if_neg (show ¬ t < 128 by omega)

theorem elemsOf_append (i : Nat) (a b : List Int) : elemsOf i (a ++ b) = elemsOf i a ++ elemsOf (i + a.length) b := by
  induction a generalizing i with
  | nil => rfl
  | cons n a ih =>
    simp only [List.cons_append, elemsOf, List.length_cons]
    rw [ih, show i + 1 + a.length = i + (a.length + 1) by omega]
    split
    · rfl
    · rfl
theorem elemsOf_len (i : Nat) (a : List Int) : (elemsOf i a).length ≤ a.length := by
  induction a generalizing i with
  | nil => simp [elemsOf]
  | cons n a ih =>
    have := ih (i + 1)
    simp only [elemsOf, List.length_cons]
    split
    · omega
    · simp only [List.length_cons]; omega

theorem leF_small (k f n : Nat) (h : n < 256 ^ k) : (leF f n).length ≤ k := by
  induction k generalizing f n with
  | zero => obtain rfl : n = 0 := by simpa using h
            rw [leF_zero]; simp
  | succ k ih =>
    cases f with
    | zero => simp [leF]
    | succ f =>
      simp only [leF]; split
      · simp
      · simp only [List.length_cons]; have := ih f (n / 256) (by rw [Nat.pow_succ] at h; omega); omega
theorem numB_small (k : Nat) (n : Int) (h : n < 256 ^ k) : (numB n).length ≤ k := by
  rw [numB, List.length_reverse]
  refine leF_small k 8 _ ?_
  have h2 : (256 : Int) ^ k = ((256 ^ k : Nat) : Int) := by simp
  have h3 : 0 < 256 ^ k := Nat.pow_pos (by omega)
  omega
theorem numB_byte (n : Int) : ∀ x ∈ numB n, 0 ≤ x ∧ x < 256 := by
  intro x hx; exact leF_byte 8 _ x (by simpa [numB] using hx)

theorem rightGo_elems (i : Nat) (ns : List Int) (last : Int) (hl : last ≤ i) (hn : i + ns.length ≤ 127) : rightGo (rightB 0) last (elemsOf i ns) = true := by
  induction ns generalizing i last with
  | nil => rfl
  | cons n ns ih =>
    simp only [List.length_cons] at hn
    simp only [elemsOf]; split
    · exact ih (i + 1) last (by omega) (by omega)
    · rw [rightGo_mk, ih (i + 1) _ (by omega) (by omega), if_neg (by omega), decide_eq_true (by omega), decide_eq_true (by omega)]
      rfl
theorem layGo_elems (i : Nat) (ns : List Int) (cur : List Int) (hn : i + ns.length ≤ 127) (h : ∀ n ∈ ns, (numB n).length ≤ 255) : layGo (layB 0) cur (elemsOf i ns) = some (cur ++ innerOf i ns) := by
  induction ns generalizing i cur with
  | nil => simp [elemsOf, innerOf, layGo]
  | cons n ns ih =>
    simp only [List.length_cons] at hn
    simp only [elemsOf, innerOf]; split
    · exact ih (i + 1) cur (by omega) (fun m hm => h m (by simp [hm]))
    · have hb : layBody (T.mk ((i : Int) + 1) (numB n) []) [] = numB n := layBody_lo _ _ _ _ (by omega)
      rw [layGo_mk (layB 0) cur _ _ _ _ [] rfl (by rw [hb]; exact h n (by simp)), hb, ih (i + 1) _ (by omega) (fun m hm => h m (by simp [hm])), show ((i : Int) + 1) % 256 = i + 1 by omega]
      simp
theorem deep_elems (i : Nat) (ns : List Int) : (elemsOf i ns).any (fun e => deepB 0 e.kids 2) = false := by
  induction ns generalizing i with
  | nil => rfl
  | cons n ns ih => simp only [elemsOf]; split
                    · exact ih _
                    · simp [T.kids, deepB, ih]

theorem Prod.nums_small (p : Prod) (h : p.right = true) : ∀ n ∈ p.nums, 0 ≤ n ∧ n ≤ 2147483648 := by
  have hr := (Prod.right_iff p).1 h
  have h1 : ∀ b : Bool, 0 ≤ bitI b ∧ bitI b ≤ 1 := by intro b; cases b <;> decide
  have b1 := h1 p.opn; have b2 := h1 p.blocked
  intro n hn
  simp only [Prod.nums, List.mem_cons, List.not_mem_nil, or_false] at hn
  omega
theorem Prod.numB_len (p : Prod) (h : p.right = true) : ∀ n ∈ p.nums, (numB n).length ≤ 4 := by
  intro n hn
  have := Prod.nums_small p h n hn
  exact numB_small 4 n (by have : (256 : Int) ^ 4 = 4294967296 := by decide
                           omega)
theorem innerOf_len (i : Nat) (ns : List Int) (m : Nat) (h : ∀ n ∈ ns, (numB n).length ≤ m) : (innerOf i ns).length ≤ (m + 2) * ns.length := by
  induction ns generalizing i with
  | nil => simp [innerOf]
  | cons n ns ih =>
    have h1 := ih (i + 1) (fun m hm => h m (by simp [hm]))
    have h2 := h n (by simp)
    simp only [innerOf, List.length_cons]; rw [Nat.mul_succ]; split
    · omega
    · simp; omega
theorem Prod.inner_len (p : Prod) (h : p.right = true) : p.inner.length ≤ 84 := by
  have := innerOf_len 0 p.nums 4 (Prod.numB_len p h)
  rw [Prod.nums_len] at this; exact this

def Prod.tree (p : Prod) : List T := [.mk 224 [] (elemsOf 0 p.nums)]
theorem Prod.tree_deep (p : Prod) : deepB 2 p.tree 0 = false := by
  show (_ || [T.mk 224 [] (elemsOf 0 p.nums)].any (fun e => deepB 1 e.kids (0 + 1))) = false
  rw [List.any_cons, List.any_nil, T.kids_mk]
  show (_ || (((_ && decide ((4 : Int) ≤ 0 + 1)) || (elemsOf 0 p.nums).any (fun e => deepB 0 e.kids (0 + 1 + 1))) || false)) = false
  rw [show (0 + 1 + 1 : Int) = 2 from rfl, deep_elems]; simp
theorem Prod.tree_right (p : Prod) : rightB 2 p.tree = true := by
  show rightGo (rightB 1) 0 [T.mk 224 [] (elemsOf 0 p.nums)] = true
  rw [rightGo_mk, show rightB 1 (elemsOf 0 p.nums) = true from rightGo_elems 0 p.nums 0 (by omega) (by rw [Prod.nums_len]; omega)]; rfl
theorem Prod.tree_lay (p : Prod) (h : p.right = true) : layB 2 p.tree = some p.form := by
  have h1 := layGo_elems 0 p.nums [] (by rw [Prod.nums_len]; omega) (fun n hn => by have := Prod.numB_len p h n hn; omega)
  have h3 := Prod.inner_len p h
  rw [List.nil_append] at h1
  have h2 : layBody (T.mk 224 [] (elemsOf 0 p.nums)) (innerOf 0 p.nums) = innerOf 0 p.nums := layBody_hi _ _ _ _ (by omega)
  show layGo (layB 1) [] [T.mk 224 [] (elemsOf 0 p.nums)] = some p.form
  rw [layGo_mk (layB 1) [] _ _ _ _ (innerOf 0 p.nums) h1 (by rw [h2]; unfold Prod.inner at h3; omega), h2]
  rfl
end Go.Proofs.Ytlbfeoobeleobaa
