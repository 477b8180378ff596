/- ipe.Parse, in plain Lean. -/
import Derived.Test.YtlbfeoobeleobaaInt
import Derived.Test.YtlbfeoobeleobaaFindB
namespace Go.Proofs.Ytlbfeoobeleobaa
open Go.RowKit
set_option linter.unusedVariables false
set_option linter.unusedSimpArgs false

def BytesOk (bs : List Int) : Prop := ∀ x ∈ bs, 0 ≤ x ∧ x < 256
/-- elements as get answers them: tags from 1 to 255, contents of bytes -/
def OkL : Nat → List T → Prop
  | 0, es => es = []
  | d + 1, es => ∀ t ∈ es, 1 ≤ t.tag ∧ t.tag ≤ 255 ∧ BytesOk t.bytes ∧ OkL d t.kids
theorem OkL.nil (d : Nat) : OkL d [] := by cases d with
  | zero => rfl
  | succ d => intro t ht; simp at ht

theorem getL_ok (d : Nat) (inner : List Int → Int × List T) (hin : ∀ bs, BytesOk bs → OkL d (inner bs).2) (ex : Bool) (f : Nat) (last : Int) (bs : List Int) (acc : List T) (hb : BytesOk bs) (h0 : 0 ≤ last) (ha : OkL (d + 1) acc) :
    OkL (d + 1) (getL inner ex f last bs acc).2 := by
  induction f generalizing last bs acc with
  | zero => exact ha
  | succ f ih =>
    match bs, hb with
    | [], _ => exact ha
    | [tag], _ => simp only [getL]; split
                  · exact OkL.nil _
                  · split <;> exact OkL.nil _
    | tag :: n :: r, hb =>
      have ht := hb tag (by simp)
      have hr1 : BytesOk (r.drop n.toNat) := fun x hx => hb x (by have := List.mem_of_mem_drop hx; simp [this])
      have hr2 : BytesOk (r.take n.toNat) := fun x hx => hb x (by have := List.mem_of_mem_take hx; simp [this])
      simp only [getL]
      split
      · exact OkL.nil _
      split
      · exact OkL.nil _
      split
      · exact OkL.nil _
      split
      · refine ih _ _ _ hr1 (by omega) (fun t hm => ?_)
        rcases List.mem_append.1 hm with hm | hm
        · exact ha t hm
        · rw [List.mem_singleton.1 hm]; exact ⟨by simp; omega, by simp; omega, hr2, OkL.nil _⟩
      split
      · refine ih _ _ _ hr1 (by omega) (fun t hm => ?_)
        rcases List.mem_append.1 hm with hm | hm
        · exact ha t hm
        · rw [List.mem_singleton.1 hm]; exact ⟨by simp; omega, by simp; omega, by intro x hx; simp at hx, hin _ hr2⟩
      · exact OkL.nil _
theorem getP_ok (d : Nat) (bs : List Int) (hb : BytesOk bs) : OkL d (getP d bs).2 := by
  induction d generalizing bs with
  | zero => cases bs with
    | nil => rfl
    | cons b bs => rw [getP_zero]; rfl
  | succ d ih => exact getL_ok d (getP d) (fun bs h => ih bs h) false bs.length 0 bs [] hb (by omega) (OkL.nil _)

def zeros : List Int := List.replicate 14 0
def decStep (ns : List Int) (t : T) : List Int := if t.tag ≤ 14 then ns.set (t.tag.toNat - 1) (intP t.bytes).1 else ns
def decN (ns : List Int) (ts : List T) : List Int := ts.foldl decStep ns
theorem decStep_len (ns : List Int) (t : T) : (decStep ns t).length = ns.length := by unfold decStep; split <;> simp
theorem decN_len (ns : List Int) (ts : List T) : (decN ns ts).length = ns.length := by
  induction ts generalizing ns with
  | nil => rfl
  | cons t ts ih => show (decN (decStep ns t) ts).length = _; rw [ih, decStep_len]
theorem decN_snoc (ns : List Int) (ts : List T) (t : T) : decN ns (ts ++ [t]) = decStep (decN ns ts) t := by simp [decN]

def prodOf (ns : List Int) : Prod := ⟨ns.getD 0 0, ns.getD 1 0, ns.getD 2 0, ns.getD 3 0, ns.getD 4 0, ns.getD 5 0, ns.getD 6 0, ns.getD 7 0, ns.getD 8 0 == 1, ns.getD 9 0, ns.getD 10 0, ns.getD 11 0, ns.getD 12 0, ns.getD 13 0 == 1⟩
def Prod.zero : Prod := ⟨0, 0, 0, 0, 0, 0, 0, 0, false, 0, 0, 0, 0, false⟩
def kidsOf (es : List T) : List T := match findTag 224 es with
  | some t => t.kids
  | none => []
/-- what ipe.Parse answers -/
def parseP (bs : List Int) : Prod × Int :=
  if (getP 4 bs).1 ≠ 0 then (Prod.zero, (getP 4 bs).1) else
  let p := prodOf (decN zeros (kidsOf (getP 4 bs).2))
  if p.right = true ∧ p.form = bs then (p, 0) else (Prod.zero, 12)

/-! ### the numbers while they are read: where each lies -/
/-- the cells of the product's box -/
def pCells (ns : List Int) : List Value := [.int .i64 0, .int .i64 (ns.getD 1 0), .int .i64 (ns.getD 2 0), .int .i64 (ns.getD 3 0), .int .i64 (ns.getD 4 0), .int .i64 (ns.getD 5 0), .int .i64 (ns.getD 6 0), .int .i64 (ns.getD 7 0), .bool false, .int .i64 (ns.getD 9 0), .int .i64 (ns.getD 10 0), .int .i64 (ns.getD 11 0), .int .i64 (ns.getD 12 0), .bool false]
/-- box P of the product, the boxes of kind, open, blocked behind it -/
structure PS (P : Nat) (ns : List Int) (w : World) : Prop where
  len : ns.length = 14
  p : w.heap[P]? = some (.cells (pCells ns).toArray 24 (0, 0))
  k : w.heap[P + 1]? = some (.cells #[.int .i64 (ns.getD 0 0)] 3 (0, 0))
  o : w.heap[P + 2]? = some (.cells #[.int .i64 (ns.getD 8 0)] 3 (0, 0))
  b : w.heap[P + 3]? = some (.cells #[.int .i64 (ns.getD 13 0)] 3 (0, 0))
def pAt (P i : Nat) : Nat × Nat := if i = 0 then (P + 1, 0) else if i = 8 then (P + 2, 0) else if i = 13 then (P + 3, 0) else (P, i)

theorem cell_blk {w : World} {g : Nat} {cur : Array Value} {e : TypeId} (h : w.heap[g]? = some (.cells cur e (0, 0))) (i : Nat) : w.cell? ⟨g, i, none⟩ = cur[i]? := by
  simp [World.cell?, h]
theorem PS.at_ {P : Nat} {ns : List Int} {w : World} (h : PS P ns w) {i : Nat} (hi : i < 14) : w.cell? ⟨(pAt P i).1, (pAt P i).2, none⟩ = some (.int .i64 (ns.getD i 0)) ∧ w.frozen? ⟨(pAt P i).1, (pAt P i).2, none⟩ = false := by
  have : i = 0 ∨ i = 1 ∨ i = 2 ∨ i = 3 ∨ i = 4 ∨ i = 5 ∨ i = 6 ∨ i = 7 ∨ i = 8 ∨ i = 9 ∨ i = 10 ∨ i = 11 ∨ i = 12 ∨ i = 13 := by omega
  rcases this with rfl | rfl | rfl | rfl | rfl | rfl | rfl | rfl | rfl | rfl | rfl | rfl | rfl | rfl <;>
    first
    | exact ⟨by show w.cell? ⟨P, _, none⟩ = _; rw [cell_blk h.p]; rfl, frozen_of_row w _ _ _ _ h.p⟩
    | exact ⟨by show w.cell? ⟨P + 1, 0, none⟩ = _; rw [cell_blk h.k]; rfl, frozen_of_row w _ _ _ _ h.k⟩
    | exact ⟨by show w.cell? ⟨P + 2, 0, none⟩ = _; rw [cell_blk h.o]; rfl, frozen_of_row w _ _ _ _ h.o⟩
    | exact ⟨by show w.cell? ⟨P + 3, 0, none⟩ = _; rw [cell_blk h.b]; rfl, frozen_of_row w _ _ _ _ h.b⟩
theorem getD_set_self {ns : List Int} {i : Nat} (h : i < ns.length) (v : Int) : (ns.set i v).getD i 0 = v := by simp [h]
theorem getD_set_ne' {ns : List Int} {i j : Nat} (h : i ≠ j) (v : Int) : (ns.set i v).getD j 0 = ns.getD j 0 := by simp [List.getElem?_set_ne h]
theorem pCells_out (ns : List Int) (v : Int) {i : Nat} (hi : i = 0 ∨ i = 8 ∨ i = 13) : pCells (ns.set i v) = pCells ns := by
  rcases hi with rfl | rfl | rfl <;> simp [pCells, List.getElem?_set]
theorem pCells_in (ns : List Int) (v : Int) {i : Nat} (hi : i = 1 ∨ i = 2 ∨ i = 3 ∨ i = 4 ∨ i = 5 ∨ i = 6 ∨ i = 7 ∨ i = 9 ∨ i = 10 ∨ i = 11 ∨ i = 12) (hl : i < ns.length) : (pCells ns).toArray.setIfInBounds i (.int .i64 v) = (pCells (ns.set i v)).toArray := by
  rcases hi with rfl | rfl | rfl | rfl | rfl | rfl | rfl | rfl | rfl | rfl | rfl <;> simp [pCells, List.getElem?_set, hl]
theorem PS.set {P : Nat} {ns : List Int} {w : World} (h : PS P ns w) {i : Nat} (hi : i < 14) (v : Int) : PS P (ns.set i v) (w.setCell ⟨(pAt P i).1, (pAt P i).2, none⟩ (.int .i64 v)) := by
  have hl : i < ns.length := by rw [h.len]; exact hi
  have hlen : (ns.set i v).length = 14 := by rw [List.length_set]; exact h.len
  have : i = 0 ∨ i = 8 ∨ i = 13 ∨ i = 1 ∨ i = 2 ∨ i = 3 ∨ i = 4 ∨ i = 5 ∨ i = 6 ∨ i = 7 ∨ i = 9 ∨ i = 10 ∨ i = 11 ∨ i = 12 := by omega
  rcases this with rfl | rfl | rfl | this
  · refine ⟨hlen, ?_, ?_, ?_, ?_⟩
    · show (w.setCell ⟨P + 1, 0, none⟩ _).heap[P]? = _; rw [Below.heap_setCell _ _ _ _ (by simp)]; rw [pCells_out ns v (by simp)]; exact h.p
    · show (w.setCell ⟨P + 1, 0, none⟩ _).heap[P + 1]? = _; rw [heap_setCell_same w _ _ _ _ _ h.k, getD_set_self hl]; rfl
    · show (w.setCell ⟨P + 1, 0, none⟩ _).heap[P + 2]? = _; rw [Below.heap_setCell _ _ _ _ (by simp), getD_set_ne' (by decide)]; exact h.o
    · show (w.setCell ⟨P + 1, 0, none⟩ _).heap[P + 3]? = _; rw [Below.heap_setCell _ _ _ _ (by simp), getD_set_ne' (by decide)]; exact h.b
  · refine ⟨hlen, ?_, ?_, ?_, ?_⟩
    · show (w.setCell ⟨P + 2, 0, none⟩ _).heap[P]? = _; rw [Below.heap_setCell _ _ _ _ (by simp)]; rw [pCells_out ns v (by simp)]; exact h.p
    · show (w.setCell ⟨P + 2, 0, none⟩ _).heap[P + 1]? = _; rw [Below.heap_setCell _ _ _ _ (by simp), getD_set_ne' (by decide)]; exact h.k
    · show (w.setCell ⟨P + 2, 0, none⟩ _).heap[P + 2]? = _; rw [heap_setCell_same w _ _ _ _ _ h.o, getD_set_self hl]; rfl
    · show (w.setCell ⟨P + 2, 0, none⟩ _).heap[P + 3]? = _; rw [Below.heap_setCell _ _ _ _ (by simp), getD_set_ne' (by decide)]; exact h.b
  · refine ⟨hlen, ?_, ?_, ?_, ?_⟩
    · show (w.setCell ⟨P + 3, 0, none⟩ _).heap[P]? = _; rw [Below.heap_setCell _ _ _ _ (by simp)]; rw [pCells_out ns v (by simp)]; exact h.p
    · show (w.setCell ⟨P + 3, 0, none⟩ _).heap[P + 1]? = _; rw [Below.heap_setCell _ _ _ _ (by simp), getD_set_ne' (by decide)]; exact h.k
    · show (w.setCell ⟨P + 3, 0, none⟩ _).heap[P + 2]? = _; rw [Below.heap_setCell _ _ _ _ (by simp), getD_set_ne' (by decide)]; exact h.o
    · show (w.setCell ⟨P + 3, 0, none⟩ _).heap[P + 3]? = _; rw [heap_setCell_same w _ _ _ _ _ h.b, getD_set_self hl]; rfl
  · have hp : pAt P i = (P, i) := by unfold pAt; rw [if_neg (by omega), if_neg (by omega), if_neg (by omega)]
    rw [hp]
    refine ⟨hlen, ?_, ?_, ?_, ?_⟩
    · rw [heap_setCell_same w _ _ _ _ _ h.p]
      have hc : (pCells ns).toArray.setIfInBounds i (.int .i64 v) = (pCells (ns.set i v)).toArray := by
        exact pCells_in ns v this hl
      rw [hc]
    · rw [Below.heap_setCell _ _ _ _ (by simp), getD_set_ne' (by omega)]; exact h.k
    · rw [Below.heap_setCell _ _ _ _ (by simp), getD_set_ne' (by omega)]; exact h.o
    · rw [Below.heap_setCell _ _ _ _ (by simp), getD_set_ne' (by omega)]; exact h.b
theorem PS.keep {P : Nat} {ns : List Int} {w w' : World} (h : PS P ns w) (hk : ∀ b, P ≤ b → b < P + 4 → w'.heap[b]? = w.heap[b]?) : PS P ns w' :=
  ⟨h.len, by rw [hk _ (by omega) (by omega)]; exact h.p, by rw [hk _ (by omega) (by omega)]; exact h.k, by rw [hk _ (by omega) (by omega)]; exact h.o, by rw [hk _ (by omega) (by omega)]; exact h.b⟩
theorem PS.lt {P : Nat} {ns : List Int} {w : World} (h : PS P ns w) : P + 3 < w.heap.size := (Array.getElem?_eq_some_iff.1 h.b).1
theorem fields_at (P i : Nat) (hi : i < 14) : (fieldCells P (P + 1) (P + 2) (P + 3))[i * 3]? = some (.pointer (some ⟨(pAt P i).1, (pAt P i).2, none⟩)) := by
  have : i = 0 ∨ i = 1 ∨ i = 2 ∨ i = 3 ∨ i = 4 ∨ i = 5 ∨ i = 6 ∨ i = 7 ∨ i = 8 ∨ i = 9 ∨ i = 10 ∨ i = 11 ∨ i = 12 ∨ i = 13 := by omega
  rcases this with rfl | rfl | rfl | rfl | rfl | rfl | rfl | rfl | rfl | rfl | rfl | rfl | rfl | rfl <;> rfl
end Go.Proofs.Ytlbfeoobeleobaa
