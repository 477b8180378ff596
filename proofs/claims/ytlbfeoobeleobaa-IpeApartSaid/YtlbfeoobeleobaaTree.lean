/- Elements as trees: how they lie in memory; what tlv's deep, right, lay and Put make of them. -/
import Derived.Test.YtlbfeoobeleobaaNum
import Derived.Deep.RegionHeld3
namespace Go.Proofs.Ytlbfeoobeleobaa
open Go.RowKit
set_option linter.unusedVariables false
set_option linter.unusedSimpArgs false

inductive T where
  | mk (tag : Int) (bytes : List Int) (kids : List T) : T
def T.tag : T → Int | .mk t _ _ => t
def T.bytes : T → List Int | .mk _ b _ => b
def T.kids : T → List T | .mk _ _ k => k

/-- an element as its three cells, and what they stand for -/
structure EC where
  tag : Int
  vb : Value
  vk : Value
  bytes : List Int
  kids : List T
def EC.t (x : EC) : T := .mk x.tag x.bytes x.kids
def EC.cells (x : EC) : List Value := [.int .i64 x.tag, x.vb, x.vk]
def EC.v (x : EC) : Value := .agg #[.int .i64 x.tag, x.vb, x.vk]
def EC.g (x : EC) : Nat → Value
  | 0 => .int .i64 x.tag
  | 1 => x.vb
  | _ => x.vk
theorem EC.cells_g (x : EC) : x.cells = (List.range 3).map x.g := rfl
theorem EC.cells_len (x : EC) : x.cells.length = 3 := rfl

/-- a slice whose block (if it has an element) is one of F -/
def SlF (F : Nat → Prop) (sz : Nat) (w : World) (v : Value) (n : Nat) (cs : List Value) : Prop := Sl sz w v n cs ∧ (0 < n → ∀ b, v.ownBlock = some b → F b)
theorem Sl.zero {sz : Nat} {w w' : World} {v : Value} {cs : List Value} (h : Sl sz w v 0 cs) : Sl sz w' v 0 cs := by
  obtain ⟨h1, a, c, rfl, h2, h3, h4, h5⟩ := h
  refine ⟨h1, a, c, rfl, h2, h3, h4, ?_⟩
  rcases h5 with h5 | ⟨b, o, s, rfl, h5, h6⟩
  · exact .inl h5
  · obtain rfl : cs = [] := List.eq_nil_of_length_eq_zero (by simpa using h1)
    exact .inr ⟨b, o, s, rfl, by intro j u hu; simp at hu, fun h => by omega⟩
theorem SlF.keep {F : Nat → Prop} {sz n : Nat} {w w' : World} {v : Value} {cs : List Value} (h : SlF F sz w v n cs) (hs : w.heap.size ≤ w'.heap.size) (hk : ∀ b, F b → b < w.heap.size → w'.heap[b]? = w.heap[b]?) : SlF F sz w' v n cs := by
  obtain ⟨h1, h2⟩ := h
  refine ⟨?_, h2⟩
  by_cases hn : 0 < n
  · exact h1.keep hs fun b hb hl => hk b (h2 hn b hb) hl
  · obtain rfl : n = 0 := by omega
    exact h1.zero
theorem SlF.weaken {F G : Nat → Prop} {sz n : Nat} {w : World} {v : Value} {cs : List Value} (h : SlF F sz w v n cs) (hg : ∀ b, b < w.heap.size → F b → G b) : SlF G sz w v n cs := by
  refine ⟨h.1, fun hn b hb => hg b ?_ (h.2 hn b hb)⟩
  obtain ⟨_, a, c, rfl, _, _, _, h5⟩ := h.1
  rcases h5 with ⟨rfl, h5, _⟩ | ⟨g, o, s, rfl, _, h6⟩
  · simp [Value.ownBlock] at hb
  · obtain rfl : g = b := by simpa [Value.ownBlock] using hb
    exact (h6 hn).2

/-- a list of elements, nested at most so deep, in the slice v -/
def RepL : Nat → (Nat → Prop) → World → Value → List T → Prop
  | 0, F, w, v, es => es = [] ∧ Sl 3 w v 0 []
  | d + 1, F, w, v, es => ∃ xs : List EC, es = xs.map EC.t ∧ xs.length ≤ 255 ∧ SlF F 3 w v xs.length (xs.flatMap EC.cells) ∧ ∀ x ∈ xs, x.bytes.length ≤ 255 ∧ SlF F 1 w x.vb x.bytes.length (u8s x.bytes) ∧ RepL d F w x.vk x.kids
/-- the parts of one element -/
def RepX (d : Nat) (F : Nat → Prop) (w : World) (x : EC) : Prop := x.bytes.length ≤ 255 ∧ SlF F 1 w x.vb x.bytes.length (u8s x.bytes) ∧ RepL d F w x.vk x.kids

theorem RepL.keep {d : Nat} {F : Nat → Prop} {w w' : World} (hs : w.heap.size ≤ w'.heap.size) (hk : ∀ b, F b → b < w.heap.size → w'.heap[b]? = w.heap[b]?) : ∀ {v : Value} {es : List T}, RepL d F w v es → RepL d F w' v es := by
  induction d with
  | zero => exact fun h => ⟨h.1, h.2.zero⟩
  | succ d ih =>
    rintro v es ⟨xs, h1, h2, h3, h4⟩
    exact ⟨xs, h1, h2, h3.keep hs hk, fun x hx => ⟨(h4 x hx).1, (h4 x hx).2.1.keep hs hk, ih (h4 x hx).2.2⟩⟩
theorem RepL.weaken {d : Nat} {F G : Nat → Prop} {w : World} (hg : ∀ b, b < w.heap.size → F b → G b) : ∀ {v : Value} {es : List T}, RepL d F w v es → RepL d G w v es := by
  induction d with
  | zero => exact fun h => h
  | succ d ih =>
    rintro v es ⟨xs, h1, h2, h3, h4⟩
    exact ⟨xs, h1, h2, h3.weaken hg, fun x hx => ⟨(h4 x hx).1, (h4 x hx).2.1.weaken hg, ih (h4 x hx).2.2⟩⟩
theorem RepX.keep {d : Nat} {F : Nat → Prop} {w w' : World} {x : EC} (h : RepX d F w x) (hs : w.heap.size ≤ w'.heap.size) (hk : ∀ b, F b → b < w.heap.size → w'.heap[b]? = w.heap[b]?) : RepX d F w' x :=
  ⟨h.1, h.2.1.keep hs hk, h.2.2.keep hs hk⟩
theorem RepX.weaken {d : Nat} {F G : Nat → Prop} {w : World} {x : EC} (h : RepX d F w x) (hg : ∀ b, b < w.heap.size → F b → G b) : RepX d G w x :=
  ⟨h.1, h.2.1.weaken hg, h.2.2.weaken hg⟩
theorem RepL.ofBelow {d : Nat} {F : Nat → Prop} {w w' : World} {v : Value} {es : List T} (h : RepL d F w v es) (hB : Below w.heap.size w w') : RepL d F w' v es :=
  h.keep hB.size fun b _ hl => hB.block b hl
theorem RepX.ofBelow {d : Nat} {F : Nat → Prop} {w w' : World} {x : EC} (h : RepX d F w x) (hB : Below w.heap.size w w') : RepX d F w' x :=
  h.keep hB.size fun b _ hl => hB.block b hl

/-- a list told open: its elements -/
theorem RepL.cut {d : Nat} {F : Nat → Prop} {w : World} {v : Value} {es : List T} (h : RepL (d + 1) F w v es) :
    ∃ xs : List EC, es = xs.map EC.t ∧ xs.length ≤ 255 ∧ SlF F 3 w v xs.length (xs.flatMap EC.cells) ∧ ∀ x ∈ xs, RepX d F w x := h
theorem RepL.mk {d : Nat} {F : Nat → Prop} {w : World} {v : Value} {xs : List EC} (h2 : xs.length ≤ 255) (h3 : SlF F 3 w v xs.length (xs.flatMap EC.cells)) (h4 : ∀ x ∈ xs, RepX d F w x) : RepL (d + 1) F w v (xs.map EC.t) :=
  ⟨xs, rfl, h2, h3, h4⟩
theorem Sl.ecs {w : World} {v : Value} {xs : List EC} (h : Sl 3 w v xs.length (xs.flatMap EC.cells)) : SlG 3 EC.g w v xs := h.g (by decide) EC.cells_g

/-! ### what the functions of tlv answer -/
def deepB : Nat → List T → Int → Bool
  | 0, es, i => !es.isEmpty && decide (4 ≤ i)
  | d + 1, es, i => (!es.isEmpty && decide (4 ≤ i)) || es.any fun e => deepB d e.kids (i + 1)
def rightGo (inner : List T → Bool) : Int → List T → Bool
  | _, [] => true
  | last, e :: es => decide (last < e.tag) && decide (e.tag ≤ 255) && (if 128 ≤ e.tag then e.bytes.isEmpty else e.kids.isEmpty) && inner e.kids && rightGo inner e.tag es
def rightB : Nat → List T → Bool
  | 0, es => es.isEmpty
  | d + 1, es => rightGo (rightB d) 0 es
def layBody (e : T) (i : List Int) : List Int := if e.tag < 128 then e.bytes else i
def layGo (inner : List T → Option (List Int)) : List Int → List T → Option (List Int)
  | out, [] => some out
  | out, e :: es => match inner e.kids with
    | none => none
    | some i => if 255 < (layBody e i).length then none else layGo inner (out ++ [e.tag % 256, (layBody e i).length] ++ layBody e i) es
def layB : Nat → List T → Option (List Int)
  | 0, es => some []
  | d + 1, es => layGo (layB d) [] es

set_option maxHeartbeats 1000000 in
theorem deepCl_any (d : Nat) (F : Nat → Prop) (ih : ∀ (v : Value) (es : List T) (i : Int) (w : World), RepL d F w v es → 0 ≤ i → i + d ≤ 1000 → Calls Try.prog 56 #[v, .int .i64 i] w (RetB (deepB d es i) w))
    (x : EC) (ib : Nat) (i : Int) (w : World) (hx : RepX d F w x) (hi : w.cell? ⟨ib, 0, none⟩ = some (.int .i64 i)) (h0 : 0 ≤ i) (h1 : i + d + 1 ≤ 1000) :
    Calls Try.prog 68 #[x.v, .pointer (some ⟨ib, 0, none⟩)] w (RetB (deepB d x.kids (i + 1)) w) := by
  have hne : ib < w.heap.size := World.block_lt_of_cell? _ _ hi
  have HX := Lib.hid hx; clear hx
  have IH := Lib.hid ih
  clear ih
  go_enter Try.func68, Try.ntmps68
  unfold EC.v
  go_wp2_with fail
  refine (IH.out x.vk x.kids (i + 1) _ (HX.out.2.2.ofBelow ((by repeat' (first | exact Below.refl _ _ | refine Below.alloc ?_ (by first | omega | (simp; done) | (simp; omega)) _ | refine Below.drew ?_ | refine below_drewN ?_ _ | refine Below.setCell ?_ (by first | omega | (simp; done) | (simp; omega)) _)))) (by omega) (by omega)).mono ?_
  rintro e w' ⟨rfl, hB⟩
  have HB := Lib.hid hB; clear hB
  go_wp2_with fail
  go_ret
  exact ⟨rfl, (show Below w.heap.size w _ from (Below.refl _ _).alloc (Nat.le_refl _) _).trans (HB.out.mono (by simp))⟩

set_option maxHeartbeats 1000000 in
theorem deep_any (d : Nat) (F : Nat → Prop) : ∀ (v : Value) (es : List T) (i : Int) (w : World), RepL d F w v es → 0 ≤ i → i + d ≤ 1000 → Calls Try.prog 56 #[v, .int .i64 i] w (RetB (deepB d es i) w) := by
  induction d with
  | zero =>
    rintro v es i w ⟨rfl, hs⟩ h0 h1
    obtain ⟨a, c, rfl⟩ := hs.shape
    have HC := Lib.hid (containsFunc_Elem EC.g (.slice a 0 c) 68 #[.pointer (some ⟨w.heap.size, 0, none⟩)] [] (fun _ => false) (w.alloc (.cells #[.int .i64 i] 3)) ⟨a, c, rfl, by simp, .inl rfl⟩ (by simp) (fun args w' => by go_simp) (fun x hx => by simp at hx))
    go_enter Try.func56, Try.ntmps56
    go_wp2_with fail
    refine (HC.out).mono ?_
    rintro e w' ⟨rfl, hB⟩
    have HB := Lib.hid hB; clear hB
    go_wp2_with fail
    go_ret
    exact ⟨rfl, (show Below w.heap.size w _ from (Below.refl _ _).alloc (Nat.le_refl _) _).trans (HB.out.mono (by simp))⟩
  | succ d ih =>
    intro v es i w hR h0 h1
    obtain ⟨xs, rfl, hl, hs, hx⟩ := hR.cut
    obtain ⟨a, c, rfl⟩ := hs.1.shape
    have HIH := Lib.hid ih; clear ih
    have hb1 : Below w.heap.size w (w.alloc (.cells #[.int .i64 i] 3)) := (Below.refl _ _).alloc (Nat.le_refl _) _
    have HC := Lib.hid (containsFunc_Elem EC.g (.slice a xs.length c) 68 #[.pointer (some ⟨w.heap.size, 0, none⟩)] xs (fun x => deepB d x.kids (i + 1)) (w.alloc (.cells #[.int .i64 i] 3)) ((hs.1.ofBelow hb1).ecs) (by omega) (fun args w' => by go_simp) (fun x hxm w' hB => deepCl_any d F HIH.out x w.heap.size i w' (((hx x hxm).ofBelow hb1).ofBelow hB) (by rw [hB.cell (p := ⟨w.heap.size, 0, none⟩) (by simp)]; go_simp) h0 (by omega)))
    have hd : deepB (d + 1) (xs.map EC.t) i = ((!xs.isEmpty && decide (4 ≤ i)) || xs.any fun x => deepB d x.kids (i + 1)) := by
      simp only [deepB, List.any_map]
      congr 2
      cases xs <;> rfl
    rw [hd]
    clear hd hs hx hb1 hR
    have HL := Lib.hid hl
    by_cases hz : 0 < xs.length
    · have he : (!xs.isEmpty) = true := by cases xs with | nil => simp at hz | cons => rfl
      rw [he]
      clear he
      by_cases h4 : 4 ≤ i
      · go_enter Try.func56, Try.ntmps56
        go_wp2_with fail
        go_ret
        refine ⟨ret_bool (by simp [h4]), (Below.refl _ _).alloc (Nat.le_refl _) _⟩
      · have H4 := Lib.hid (show decide (4 ≤ i) = false by simpa using h4)
        go_enter Try.func56, Try.ntmps56
        go_wp2_with fail
        refine (HC.out).mono ?_
        rintro e w' ⟨rfl, hB⟩
        have HB := Lib.hid hB; clear hB
        go_wp2_with fail
        go_ret
        exact ⟨ret_bool (by rw [H4.out]; rfl), (show Below w.heap.size w _ from (Below.refl _ _).alloc (Nat.le_refl _) _).trans (HB.out.mono (by simp))⟩
    · have he : (!xs.isEmpty) = false := by cases xs with | nil => rfl | cons => simp at hz
      rw [he]
      clear he
      go_enter Try.func56, Try.ntmps56
      go_wp2_with fail
      refine (HC.out).mono ?_
      rintro e w' ⟨rfl, hB⟩
      have HB := Lib.hid hB; clear hB
      go_wp2_with fail
      go_ret
      exact ⟨ret_bool rfl, (show Below w.heap.size w _ from (Below.refl _ _).alloc (Nat.le_refl _) _).trans (HB.out.mono (by simp))⟩
end Go.Proofs.Ytlbfeoobeleobaa
