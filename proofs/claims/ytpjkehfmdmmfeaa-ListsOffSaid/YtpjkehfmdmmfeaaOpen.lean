/- The arguments of the rows, opened: slices of records of whole numbers, and their sizes. -/
import Derived.Test.YtpjkehfmdmmfeaaItem
import Derived.Deep.Slices
import Derived.Deep.Fields
import Derived.ChangeSame
import Derived.SizedLaws
namespace Go.Proofs.Ytpjkehfmdmmfeaa
open Go.ChangeShapes Go.WideShapes Go.Deep Go.RowKit
set_option linter.unusedVariables false
set_option linter.unusedSimpArgs false
section
variable {H : Type} {enc : TypeId × Value → H} {P : Program} {w : World} {base : Nat} {spare : Nat → Bool} {held : Bool}
/-- a whole number among a record's cells -/
theorem int_field {e : TypeId} {fs : Array Field} {n : Nat} {cs : List Value} {x : DataW H × List MemPlace} (he : P.underlying e = some (.struct fs)) (hone : oneCellFields P fs = true) (h : DataW.trod enc P w base spare held n e cs = some x)
    {j : Nat} {f : Field} {k : IntKind} (hj : fs[j]? = some f) (hk : P.underlying f.type = some (.int k)) : ∃ z, cs[j]? = some (.int k z) ∧ (Lit.int k z).wf = true := by
  obtain ⟨ys, n', _, _, _, hyl, hf⟩ := DataW.trod_struct he h
  have hjl : j < fs.size := (Array.getElem?_eq_some_iff.1 hj).1
  have h1 := hf j f hj
  rw [List.getElem?_eq_getElem (by omega), (hone_of hone j f hj).1, (hone_of hone j f hj).2] at h1
  obtain ⟨z, hz, _, hw⟩ := DataW.trod_int hk h1
  refine ⟨z, ?_, hw⟩
  have := congrArg (fun l => l[0]?) hz
  simpa [List.getElem?_take, List.getElem?_drop] using this

theorem cell_spotless {w : World} {b o k : Nat} {s : Option Nat} {v : Value} (h : w.cell? (Addr.add ⟨b, o, s⟩ k) = some v) : w.cell? ⟨b, o + k, none⟩ = some v ∧ (k = 0 → s = none) := by
  unfold Addr.add at h
  split at h
  · next hk =>
    subst hk
    cases s with
    | none => exact ⟨h, fun _ => rfl⟩
    | some z =>
      unfold World.cell? at h
      simp only [Option.isSome_some, if_true] at h
      split at h <;> cases h
  · next hk => exact ⟨h, fun e => absurd e hk⟩

/-- the data of a slice of n elements -/
def DataLen (d : DataW H) (n : Nat) : Prop := d = .nil ∨ ∃ el sp, d = .slice el sp ∧ el.length = n

theorem open_items {t e : TypeId} {f0 f1 f2 f3 f4 : Field} {fuel : Nat} {cs : List Value} {x : DataW H × List MemPlace} (ht : P.underlying t = some (.slice e)) (he : P.underlying e = some (.struct #[f0, f1, f2, f3, f4]))
    (hone : oneCellFields P #[f0, f1, f2, f3, f4] = true) (hC : P.cellsOf e = 5) (h0 : P.underlying f0.type = some (.int .i64)) (h1 : P.underlying f1.type = some (.int .i64)) (h2 : P.underlying f2.type = some (.int .i64)) (h3 : P.underlying f3.type = some (.int .i64)) (h4 : P.underlying f4.type = some (.int .i64))
    (h : DataW.trod enc P w base spare held fuel t cs = some x) :
    ∃ (a : Option Addr) (n c : Nat) (add : List Item), cs = [.slice a n c] ∧ add.length = n ∧ Sl 5 w (.slice a n c) add.length (itemCells add) ∧ (n = 0 ∨ DataLen x.1 n ∧ x.1 ≠ .nil) := by
  rcases open_slice ht h with ⟨rfl, rfl⟩ | ⟨a, len, cap, m, n, D, Pl, rfl, hb, hl, hm, hmm, rfl, hi⟩
  · exact ⟨none, 0, 0, [], rfl, rfl, Sl.nil 5 w, .inl rfl⟩
  · have hlm : len ≤ m := by rw [hmm]; split <;> omega
    obtain ⟨b, o, s⟩ := a
    have : Inhabited Item := ⟨⟨0, 0, 0, 0, 0⟩⟩
    obtain ⟨X, hX⟩ := choose_lt (α := Item) (n := len) (p := fun i x => ∀ j u, x.cells[j]? = some u → w.cell? (Addr.add ⟨b, o, s⟩ (i * 5 + j)) = some u) (fun i hil => by
      obtain ⟨cs', hc, ht'⟩ := hi i (by omega)
      rw [hC] at hc
      obtain ⟨_, hcl, hat⟩ := World.cells?_some hc
      obtain ⟨n0, e0, _⟩ := int_field he hone ht' (j := 0) rfl h0
      obtain ⟨n1, e1, _⟩ := int_field he hone ht' (j := 1) rfl h1
      obtain ⟨n2, e2, _⟩ := int_field he hone ht' (j := 2) rfl h2
      obtain ⟨n3, e3, _⟩ := int_field he hone ht' (j := 3) rfl h3
      obtain ⟨n4, e4, _⟩ := int_field he hone ht' (j := 4) rfl h4
      refine ⟨⟨n0, n1, n2, n3, n4⟩, fun j u hu => ?_⟩
      have hj : j < 5 := (List.getElem?_eq_some_iff.1 hu).1
      rw [← Go.Deep.add_add, hat j hj]
      match j, hj, hu with
      | 0, _, hu => cases hu; exact e0
      | 1, _, hu => cases hu; exact e1
      | 2, _, hu => cases hu; exact e2
      | 3, _, hu => cases hu; exact e3
      | 4, _, hu => cases hu; exact e4)
    refine ⟨some ⟨b, o, s⟩, len, cap, (List.range len).map X, rfl, by simp, ?_, .inr ⟨.inr ⟨_, _, rfl, by simp⟩, by simp⟩⟩
    have hlen : ((List.range len).map X).length = len := by simp
    have hcl : ∀ x : Item, x.cells.length = 5 := fun x => rfl
    refine ⟨flat_len Item.cells 5 hcl _, some ⟨b, o, s⟩, cap, by rw [hlen], by rw [hlen]; exact hl, hm, flat_one (fun x u hu => by simp only [Item.cells, List.mem_cons, List.not_mem_nil, or_false] at hu; rcases hu with rfl | rfl | rfl | rfl | rfl <;> rfl) _, .inr ⟨b, o, s, rfl, ?_, ?_⟩⟩
    · intro j u hu
      have e5 := flat_len Item.cells 5 hcl ((List.range len).map X)
      rw [hlen] at e5
      have hj : j < len * 5 := by have := (List.getElem?_eq_some_iff.1 hu).1; exact e5 ▸ this
      have hk : j / 5 < len := by omega
      have e : j / 5 * 5 + j % 5 = j := by omega
      have := flat_get Item.cells 5 hcl ((List.range len).map X) (j / 5) (by rw [hlen]; exact hk) (j % 5) (by omega)
      rw [e] at this
      rw [show itemCells ((List.range len).map X) = ((List.range len).map X).flatMap Item.cells from rfl, this] at hu
      simp only [List.getElem_map, List.getElem_range] at hu
      have h5 := hX (j / 5) hk (j % 5) u hu
      rw [e] at h5
      exact (cell_spotless h5).1
    · rw [hlen]
      intro h0l
      have h5 := hX 0 h0l 0 _ rfl
      have h6 := cell_spotless h5
      exact ⟨h6.2 rfl, World.block_lt_of_cell? _ _ h6.1⟩

/-- the size of a slice that is a field of an argument -/
theorem sized_field_slice {ts : List TypeId} {ds : List (DataW H)} (h : (DataW.weightsEach P ts ds).all (· ≤ reachBytes) = true) {j : Nat} {t : TypeId} {fs : Array Field} {parts : List (DataW H)} (ht : ts[j]? = some t) (hd : ds[j]? = some (.agg parts)) (hu : P.underlying t = some (.struct fs))
    {i : Nat} {f : Field} {e : TypeId} {el sp : List (DataW H)} (hf : fs[i]? = some f) (hp : parts[i]? = some (.slice el sp)) (he : P.underlying f.type = some (.slice e)) : el.length * P.bytesOf e ≤ reachBytes := by
  have h1 : ∀ n ∈ DataW.weightsEach P (fs.toList.map (·.type)) parts, n ≤ reachBytes := by
    intro n hn
    have := List.all_eq_true.1 h n (DataW.weights_mem_each ht hd n (by simp only [DataW.weights, hu]; exact hn))
    simpa using this
  have h2 : (fs.toList.map (·.type))[i]? = some f.type := by simp [List.getElem?_map, hf]
  have h3 := h1 _ (DataW.weights_mem_each h2 hp ((el.length + sp.length) * P.bytesOf e) (by simp [DataW.weights, he]))
  exact Nat.le_trans (Nat.mul_le_mul_right _ (Nat.le_add_right _ _)) h3
end
end Go.Proofs.Ytpjkehfmdmmfeaa
