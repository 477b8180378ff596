/- ListsOff, the plain law: what a list is behind an item taken out and put in again. -/
import Derived.Test.YtpjkehfmdmmfeaaHot
namespace Go.Proofs.Ytpjkehfmdmmfeaa
set_option linter.unusedVariables false
set_option linter.unusedSimpArgs false

theorem itemEqB_iff (x y : Item) : itemEqB x y = true ↔ x = y := by simp [itemEqB]
theorem any_eq (l : List Item) (x : Item) : l.any (itemEqB x) = true ↔ x ∈ l := by
  rw [List.any_eq_true]
  constructor
  · rintro ⟨y, hy, h⟩; rw [itemEqB_iff] at h; rw [h]; exact hy
  · intro h; exact ⟨x, h, (itemEqB_iff x x).2 rfl⟩
theorem any_ne (l : List Item) (x : Item) : l.any (itemEqB x) = false ↔ x ∉ l := by
  rw [← any_eq]; cases l.any (itemEqB x) <;> simp

theorem addStep_nodup {n : List Item} (h : n.Nodup) (x : Item) : (addStep n x).Nodup := by
  unfold addStep
  split
  · exact h
  · rename_i hx
    rw [any_eq] at hx
    rw [List.nodup_append]
    exact ⟨h, by simp, fun a ha b hb e => by rw [List.mem_singleton] at hb; subst hb; subst e; exact hx ha⟩
theorem addAll_nodup {n : List Item} (h : n.Nodup) (add : List Item) : (addAll n add).Nodup := by
  unfold addAll
  induction add generalizing n with
  | nil => exact h
  | cons x add ih => exact ih (addStep_nodup h x)
theorem mem_addStep (n : List Item) (x y : Item) : y ∈ addStep n x → y ∈ n ∨ y = x := by
  unfold addStep
  split
  · exact .inl
  · intro h; simpa using h
theorem mem_addAll (n add : List Item) (y : Item) : y ∈ addAll n add → y ∈ n ∨ y ∈ add := by
  unfold addAll
  induction add generalizing n with
  | nil => exact .inl
  | cons x add ih =>
    intro h
    rcases ih _ h with h | h
    · rcases mem_addStep n x y h with h | h
      · exact .inl h
      · exact .inr (by simp [h])
    · exact .inr (by simp [h])

theorem keepOff_one (l : List Item) (x : Item) : keepOff l [x] = l.filter (fun y => !decide (y = x)) := by
  unfold keepOff
  congr 1; funext y; simp [itemEqB]
theorem keepOff_one_not (l : List Item) (x : Item) : x ∉ keepOff l [x] := by rw [keepOff_one]; simp
theorem keepOff_one_len (l : List Item) (x : Item) (h : l.Nodup) (hx : x ∈ l) : (keepOff l [x]).length + 1 = l.length := by
  rw [keepOff_one]
  induction l with
  | nil => simp at hx
  | cons y l ih =>
    rw [List.nodup_cons] at h
    by_cases e : y = x
    · subst e
      have : l.filter (fun z => !decide (z = y)) = l := List.filter_eq_self.2 (fun z hz => by simp; intro e; exact h.1 (e ▸ hz))
      simp [this]
    · have hx' : x ∈ l := by simpa [Ne.symm e] using hx
      have := ih h.2 hx'
      simp [e, this]
theorem keepOff_idem (l : List Item) (x : Item) : keepOff (keepOff l [x]) [x] = keepOff l [x] := by
  rw [keepOff_one (keepOff l [x])]
  exact List.filter_eq_self.2 (fun z hz => by simp; intro e; exact keepOff_one_not l x (e ▸ hz))
theorem keepOff_nil (l : List Item) : keepOff l [] = l := by unfold keepOff; simp

/-- the first delta -/
def first (add : List Item) : List Item := addAll [] add
theorem next_first (add : List Item) : nextItems [] add [] = first add := rfl
theorem first_nodup (add : List Item) : (first add).Nodup := addAll_nodup List.nodup_nil add
theorem first_mem (add : List Item) (y : Item) (h : y ∈ first add) : y ∈ add := by
  rcases mem_addAll [] add y h with h | h
  · simp at h
  · exact h
theorem next_second (l : List Item) (x : Item) : nextItems l [] [x] = keepOff l [x] := rfl
theorem next_third (l : List Item) (x : Item) : nextItems (keepOff l [x]) [x] [x] = keepOff l [x] ++ [x] := by
  unfold nextItems addAll
  rw [keepOff_idem]
  simp only [List.foldl_cons, List.foldl_nil, addStep]
  rw [if_neg (by rw [any_eq]; exact keepOff_one_not l x)]

theorem first_zero (add : List Item) (h : applyE hotRightB 0 [] 1 add [] = 0) : (first add).length ≤ 64 ∧ ∀ y ∈ add, hotRightB y = true := by
  unfold applyE at h
  rw [if_neg (by decide), if_neg (by decide), List.append_nil] at h
  by_cases ha : add.all hotRightB = true
  · rw [if_pos ha] at h
    by_cases hl : 64 < (nextItems [] add []).length
    · rw [if_pos hl] at h; cases h
    · exact ⟨by rw [next_first] at hl; omega, List.all_eq_true.1 ha⟩
  · rw [if_neg ha] at h; cases h
theorem second_zero (l : List Item) (x : Item) (hl : l.length ≤ 64) (hx : hotRightB x = true) : applyE hotRightB 1 l 2 [] [x] = 0 := by
  unfold applyE
  rw [if_neg (by decide), if_neg (by decide), if_pos (by simp [hx]), next_second, if_neg]
  have : (keepOff l [x]).length ≤ l.length := by unfold keepOff; exact List.length_filter_le _ _
  omega
theorem third_zero (l : List Item) (x : Item) (hl : l.length ≤ 64) (hn : l.Nodup) (hm : x ∈ l) (hx : hotRightB x = true) : applyE hotRightB 2 (keepOff l [x]) 3 [x] [x] = 0 := by
  unfold applyE
  rw [if_neg (by decide), if_neg (by decide), if_pos (by simp [hx]), next_third, if_neg]
  have := keepOff_one_len l x hn hm
  rw [List.length_append, List.length_singleton]; omega
theorem has_self (l : List Item) (x : Item) : (l ++ [x]).any (hasB x.card x.owner x.id) = true := by
  rw [List.any_append]
  have : hasB x.card x.owner x.id x = true := by
    unfold hasB aboutB
    by_cases h : x.owner = 0 <;> simp [h]
  simp [this]
end Go.Proofs.Ytpjkehfmdmmfeaa
