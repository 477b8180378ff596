/- The words that all texts of this seat use: what a slice's cells are, what a call may change, and the laws of append, make and load in those words. -/
import Derived.Test.YtlbfeoobeleobaaProg
import Derived.KernelRfl
import Derived.WalkKit
import Derived.WalkSpells
import Derived.WalkLawsBesides
import Derived.Deep.LoopGhost
import Derived.Deep.QuietTactic
import Derived.BigQuiet
import Derived.Lib.Hide
import Derived.Laws.AppendOwnNone
import Derived.Deep.AppendSrc
namespace Go.Proofs.Ytlbfeoobeleobaa
open Go.RowKit
set_option linter.unusedVariables false
set_option linter.unusedSimpArgs false

/-! ### cells in a row -/
/-- from b, o on the cells are cs -/
def Row (w : World) (b o : Nat) (cs : List Value) : Prop := ∀ j u, cs[j]? = some u → w.cell? ⟨b, o + j, none⟩ = some u

theorem Row.keep {w w' : World} {b o : Nat} {cs : List Value} (h : Row w b o cs) (hb : w'.heap[b]? = w.heap[b]?) : Row w' b o cs :=
  fun j u hu => (World.cell?_of_block (a := ⟨b, o + j, none⟩) hb).trans (h j u hu)

theorem Row.append {w : World} {b o : Nat} {cs ds : List Value} (h : Row w b o (cs ++ ds)) : Row w b o cs ∧ Row w b (o + cs.length) ds := by
  refine ⟨fun j u hu => h j u ?_, fun j u hu => ?_⟩
  · rw [List.getElem?_append_left (List.getElem?_eq_some_iff.1 hu).1]; exact hu
  · have := h (cs.length + j) u (by rw [List.getElem?_append_right (by omega)]; rw [show cs.length + j - cs.length = j by omega]; exact hu)
    rw [Nat.add_assoc]; exact this

theorem Row.mk_append {w : World} {b o : Nat} {cs ds : List Value} (h : Row w b o cs) (k : Row w b (o + cs.length) ds) : Row w b o (cs ++ ds) := by
  intro j u hu
  by_cases hj : j < cs.length
  · rw [List.getElem?_append_left hj] at hu; exact h j u hu
  · rw [List.getElem?_append_right (by omega)] at hu
    have := k _ u hu
    rw [show o + cs.length + (j - cs.length) = o + j by omega] at this; exact this

/-- a slice value of n elements (sz cells each), whose cells read cs -/
def Sl (sz : Nat) (w : World) (v : Value) (n : Nat) (cs : List Value) : Prop :=
  cs.length = n * sz ∧ ∃ a c, v = .slice a n c ∧ n ≤ c ∧ c ≤ maxLen ∧ (∀ u ∈ cs, u.oneCell' = true) ∧
    ((a = none ∧ n = 0 ∧ c = 0) ∨ ∃ b o s, a = some ⟨b, o, s⟩ ∧ Row w b o cs ∧ (0 < n → s = none ∧ b < w.heap.size))

theorem Sl.keep {sz n : Nat} {w w' : World} {v : Value} {cs : List Value} (h : Sl sz w v n cs) (hs : w.heap.size ≤ w'.heap.size) (hb : ∀ b, v.ownBlock = some b → b < w.heap.size → w'.heap[b]? = w.heap[b]?) : Sl sz w' v n cs := by
  obtain ⟨h1, a, c, rfl, h2, h3, h4, h5⟩ := h
  refine ⟨h1, a, c, rfl, h2, h3, h4, ?_⟩
  rcases h5 with h5 | ⟨b, o, s, rfl, h5, h6⟩
  · exact .inl h5
  · refine .inr ⟨b, o, s, rfl, ?_, fun h => ⟨(h6 h).1, by have := (h6 h).2; omega⟩⟩
    intro j u hu
    by_cases hlt : b < w.heap.size
    · exact h5.keep (hb b rfl hlt) j u hu
    · have := World.block_lt_of_cell? _ _ (h5 j u hu)
      exact absurd this hlt

theorem Sl.below {sz n B : Nat} {w w' : World} {v : Value} {cs : List Value} (h : Sl sz w v n cs) (hB : Below B w w') (hb : ∀ b, v.ownBlock = some b → b < w.heap.size → b < B) : Sl sz w' v n cs :=
  h.keep hB.size fun b e l => hB.block b (hb b e l)

theorem Sl.len {sz n : Nat} {w : World} {v : Value} {cs : List Value} (h : Sl sz w v n cs) : cs.length = n * sz := h.1

/-- the cells of element i -/
theorem Sl.nil (sz : Nat) (w : World) : Sl sz w (.slice none 0 0) 0 [] := ⟨by simp, none, 0, rfl, Nat.le_refl _, by simp [maxLen], by simp, .inl ⟨rfl, rfl, rfl⟩⟩

theorem Sl.alloc {sz n : Nat} {w : World} {v : Value} {cs : List Value} (h : Sl sz w v n cs) (o : Obj) : Sl sz (w.alloc o) v n cs :=
  h.keep (by simp) fun b _ hl => Below.heap_alloc w o b hl
theorem Sl.drew {sz n : Nat} {w : World} {v : Value} {cs : List Value} (h : Sl sz w v n cs) : Sl sz w.drew v n cs := h
theorem Sl.ofBelow {sz n : Nat} {w w' : World} {v : Value} {cs : List Value} (h : Sl sz w v n cs) (hB : Below w.heap.size w w') : Sl sz w' v n cs :=
  h.keep hB.size fun b _ hl => hB.block b hl

/-! ### what a call may change -/
/-- of the blocks that were there only those in F have changed -/
structure Chg (F : Nat → Prop) (w w' : World) : Prop where
  os : w'.os = w.os
  tape : w'.tape = w.tape
  output : w'.output = w.output
  size : w.heap.size ≤ w'.heap.size
  block : ∀ k, k < w.heap.size → ¬ F k → w'.heap[k]? = w.heap[k]?

theorem Chg.refl (F : Nat → Prop) (w : World) : Chg F w w := ⟨rfl, rfl, rfl, Nat.le_refl _, fun _ _ _ => rfl⟩
theorem Chg.trans {F : Nat → Prop} {a b c : World} (h : Chg F a b) (k : Chg F b c) : Chg F a c :=
  ⟨k.os.trans h.os, k.tape.trans h.tape, k.output.trans h.output, Nat.le_trans h.size k.size, fun i hi hn => (k.block i (Nat.lt_of_lt_of_le hi h.size) hn).trans (h.block i hi hn)⟩
theorem Chg.then {F G : Nat → Prop} {a b c : World} (h : Chg F a b) (k : Chg G b c) (hg : ∀ i, i < a.heap.size → G i → F i) : Chg F a c :=
  ⟨k.os.trans h.os, k.tape.trans h.tape, k.output.trans h.output, Nat.le_trans h.size k.size, fun i hi hn => (k.block i (Nat.lt_of_lt_of_le hi h.size) (fun hg' => hn (hg i hi hg'))).trans (h.block i hi hn)⟩
theorem Chg.weaken {F G : Nat → Prop} {a b : World} (h : Chg F a b) (hg : ∀ i, i < a.heap.size → F i → G i) : Chg G a b :=
  ⟨h.os, h.tape, h.output, h.size, fun i hi hn => h.block i hi fun hf => hn (hg i hi hf)⟩
theorem Chg.ofBelow {F : Nat → Prop} {a b : World} (h : Below a.heap.size a b) : Chg F a b := ⟨h.os, h.tape, h.output, h.size, fun i hi _ => h.block i hi⟩
theorem Chg.toBelow {F : Nat → Prop} {a b : World} {B : Nat} (h : Chg F a b) (hs : B ≤ a.heap.size) (hB : ∀ i, i < B → ¬ F i) : Below B a b :=
  ⟨h.os, h.tape, h.output, h.size, fun i hi => h.block i (Nat.lt_of_lt_of_le hi hs) (hB i hi)⟩
theorem Chg.cell {F : Nat → Prop} {a b : World} (h : Chg F a b) {p : Addr} (hp : p.block < a.heap.size) (hf : ¬ F p.block) : b.cell? p = a.cell? p := World.cell?_of_block (h.block p.block hp hf)

/-! ### own rows -/
theorem own_sl {w : World} {base : Nat} {e sz n : Nat} {v : Value} {xs : List Value} (h : w.ownsRow base e sz v n xs) (h1 : ∀ u ∈ xs, u.oneCell' = true) : Sl sz w v n xs := by
  refine ⟨h.1, ?_⟩
  rcases h.2 with ⟨rfl, rfl⟩ | ⟨g, cap, cur, rfl, hb, hg, hnc, hm, hs, htake⟩
  · exact ⟨none, 0, rfl, Nat.le_refl _, by simp [maxLen], h1, .inl ⟨rfl, rfl, rfl⟩⟩
  · refine ⟨_, cap, rfl, hnc, hm, h1, .inr ⟨g, 0, none, rfl, ?_, fun _ => ⟨rfl, (Array.getElem?_eq_some_iff.1 hg).1⟩⟩⟩
    intro j u hu
    have := h.cells (g := g) rfl j u hu
    rwa [Addr.add_lit] at this

theorem own_keep {w w' : World} {base : Nat} {e sz n : Nat} {v : Value} {xs : List Value} (h : w.ownsRow base e sz v n xs) (hb : ∀ b, v.ownBlock = some b → b < w.heap.size → w'.heap[b]? = w.heap[b]?) : w'.ownsRow base e sz v n xs := by
  refine ⟨h.1, ?_⟩
  rcases h.2 with hn | ⟨g, cap, cur, rfl, hbg, hg, rest⟩
  · exact .inl hn
  · refine .inr ⟨g, cap, cur, rfl, hbg, ?_, rest⟩
    rw [hb g rfl (Array.getElem?_eq_some_iff.1 hg).1]; exact hg

theorem own_base {w : World} {base base' : Nat} {e sz n : Nat} {v : Value} {xs : List Value} (h : w.ownsRow base e sz v n xs) (hb : base' ≤ base) : w.ownsRow base' e sz v n xs := by
  refine ⟨h.1, ?_⟩
  rcases h.2 with hn | ⟨g, cap, cur, rfl, hbg, rest⟩
  · exact .inl hn
  · exact .inr ⟨g, cap, cur, rfl, Nat.le_trans hb hbg, rest⟩

theorem own_new {w : World} {base : Nat} (e sz : Nat) (hb : base ≤ w.heap.size) : (w.alloc (.cells #[] e)).ownsRow base e sz (.slice (some ⟨w.heap.size, 0, none⟩) 0 0) 0 [] :=
  World.ownsRow_made _ _ _ hb (by simp [maxLen]) (by simp)
theorem own_none (w : World) (base e sz : Nat) : w.ownsRow base e sz (.slice none 0 0) 0 [] := World.ownsRow_nil _ _ _ _
theorem own_alloc {w : World} {base : Nat} {e sz n : Nat} {v : Value} {xs : List Value} (h : w.ownsRow base e sz v n xs) (o : Obj) : (w.alloc o).ownsRow base e sz v n xs := h.alloc o
theorem own_drew {w : World} {base : Nat} {e sz n : Nat} {v : Value} {xs : List Value} (h : w.ownsRow base e sz v n xs) : w.drew.ownsRow base e sz v n xs := h
theorem own_below {w w' : World} {base B : Nat} {e sz n : Nat} {v : Value} {xs : List Value} (h : w.ownsRow base e sz v n xs) (hB : Below B w w') (hb : ∀ b, v.ownBlock = some b → b < w.heap.size → b < B) : w'.ownsRow base e sz v n xs :=
  own_keep h fun b e l => hB.block b (hb b e l)
theorem own_ofBelow {w w' : World} {base : Nat} {e sz n : Nat} {v : Value} {xs : List Value} (h : w.ownsRow base e sz v n xs) (hB : Below w.heap.size w w') : w'.ownsRow base e sz v n xs :=
  own_keep h fun b _ l => hB.block b l

/-- an element type: the slice type t of elements e, sz cells and so many bytes each -/
structure El (P : Program) (t e sz bytes : Nat) : Prop where
  und : P.underlying t = some (.slice e)
  info : ∃ i z, P.info? e = some i ∧ i.zero = some z ∧ i.size = sz ∧ i.bytes = bytes ∧ z.cells.size = sz
  pos : 0 < sz

theorem El.mk' {P : Program} {t e sz bytes : Nat} (hu : P.underlying t = some (.slice e)) (h : (P.info? e).bind (fun i => i.zero.map fun z => (i.size, i.bytes, z.cells.size)) = some (sz, bytes, sz)) (hp : 0 < sz) : El P t e sz bytes := by
  refine ⟨hu, ?_, hp⟩
  obtain ⟨i, hi, h⟩ := Option.bind_eq_some_iff.1 h
  obtain ⟨z, hz, h⟩ := Option.map_eq_some_iff.1 h
  simp only [Prod.mk.injEq] at h
  exact ⟨i, z, hi, hz, h.1, h.2.1, h.2.2⟩

theorem run_append_sl {P : Program} {t ty e sz bytes : Nat} (hE : El P t e sz bytes) (w : World)
    {base : Nat} {v vx : Value} {n m : Nat} {xs news : List Value} (hown : w.ownsRow base e sz v n xs) (hsl : Sl sz w vx m news)
    (hbytes : (n + m) * bytes ≤ 140737488355328) (h63 : n + m ≤ maxLen) (hbase : base ≤ w.heap.size) :
    ∃ v' w', (Builtin.append_ #[t, t] ty #[v, vx]).run P w = .ok v' w' ∧ w'.ownsRow base e sz v' (n + m) (xs ++ news) ∧ w.grownBy w' v.ownBlock ∧
      (v' = .slice none 0 0 ↔ v = .slice none 0 0 ∧ m = 0) ∧ (v'.ownBlock = v.ownBlock ∨ v'.ownBlock = some w.heap.size) := by
  obtain ⟨ht, ⟨i, z, hi, hz, hsize, hby, hzs⟩, hsz⟩ := hE
  obtain ⟨hl, ax, cx, rfl, hmc, hcm, h1, hax⟩ := hsl
  rcases hax with ⟨rfl, rfl, rfl⟩ | ⟨bx, ox, sx, rfl, hrow, hlt⟩
  · have hn : news = [] := List.eq_nil_of_length_eq_zero (by simpa using hl)
    subst hn
    have hrun := run_append_owned_none (P := P) (w := w) base t ty e i sz ht hi v n xs hown
    exact ⟨v, w, hrun, by simpa using hown, World.grownBy.refl _ _, by simp, .inl rfl⟩
  · have hnews : ∀ j u, news[j]? = some u → w.cell? ((⟨bx, ox, sx⟩ : Addr).add j) = some u := fun j u hu => by
      have hpos : 0 < m := by
        rcases Nat.eq_zero_or_pos m with h | h
        · subst h
          have hn : news = [] := List.eq_nil_of_length_eq_zero (by simpa using hl)
          rw [hn] at hu; simp at hu
        · exact h
      obtain ⟨rfl, -⟩ := hlt hpos
      rw [Addr.add_lit]; exact hrow j u hu
    obtain ⟨v', w', hrun, r1, r2, r3⟩ := run_append_own (P := P) w base t ty e i z sz bytes ht hi hz hsize hby hzs hsz v n xs hown ⟨bx, ox, sx⟩ m cx news hl hnews h1 h63 hbytes hbase
    refine ⟨v', w', hrun, r1, r2, r3, ?_⟩
    subst hsize hby
    rcases hown.2 with ⟨rfl, rfl⟩ | ⟨g, cap, cur, rfl, hbg, hg, hnc, hcm', hcs, htake⟩
    · by_cases hm : m = 0
      · have := r3.2 ⟨rfl, hm⟩
        subst this
        exact .inl rfl
      · have hr := run_append_nil (P := P) w t ty e i z ht hi hz ⟨bx, ox, sx⟩ m cx news hl hnews (by omega) (by simp only [maxLen] at h63; omega) (by have hb := hbytes; simp only [Nat.zero_add] at hb; omega)
        rw [hr] at hrun
        obtain ⟨rfl, -⟩ := Result.ok.inj hrun
        exact .inr rfl
    · by_cases hroom : n + m ≤ cap
      · have hfit : n * i.size + news.length ≤ cur.size := by rw [hl, hcs, ← Nat.add_mul]; exact Nat.mul_le_mul_right _ hroom
        have hr := run_append_room (P := P) w t ty e i ht hi g n cap cur hg ⟨bx, ox, sx⟩ m cx news hl hnews h1 hroom hfit
        rw [hr] at hrun
        obtain ⟨rfl, -⟩ := Result.ok.inj hrun
        exact .inl rfl
      · have holds : ∀ j u, xs[j]? = some u → w.cell? ((⟨g, 0, none⟩ : Addr).add j) = some u := hown.cells (g := g) rfl
        have hr := run_append_grow (P := P) w t ty e i z ht hi hz ⟨g, 0, none⟩ n cap xs hown.1 holds ⟨bx, ox, sx⟩ m cx news hl hnews (by omega) (by simp only [maxLen] at h63; omega) (growslice_fits (by omega) hbytes)
        rw [hr] at hrun
        obtain ⟨rfl, -⟩ := Result.ok.inj hrun
        exact .inr rfl

/-- 'append(own, xs...)', whatever slice xs is -/
theorem wpList_append_sl {P : Program} {t e sz bytes : Nat} (hE : El P t e sz bytes) (w : World) {ops : Array Oper} {rest : List Oper} {o : Oper} {a : Act} {Q : Exit → Act → World → Prop} (hgd : o.guard = none) {s x : Operand}
    (ho : o.op = .call { callee := .builtin .append, args := #[s, x], argTypes := #[t, t] })
    {base : Nat} {v vx : Value} {n m : Nat} {xs news : List Value} (hs : a.eval s = v) (hx : a.eval x = vx) (hown : w.ownsRow base e sz v n xs) (hsl : Sl sz w vx m news)
    (hbytes : (n + m) * bytes ≤ 140737488355328) (h63 : n + m ≤ maxLen) (hbase : base ≤ w.heap.size)
    (h : ∀ v' w', w'.ownsRow base e sz v' (n + m) (xs ++ news) → w.grownBy w' v.ownBlock → (v' = .slice none 0 0 ↔ v = .slice none 0 0 ∧ m = 0) → (v'.ownBlock = v.ownBlock ∨ v'.ownBlock = some w.heap.size) → wpList P ops Q rest (a.put o.dst v') w') :
    wpList P ops Q (o :: rest) a w := by
  refine wpList_plain hgd fun K hK => ?_
  obtain ⟨v', w', hrun, h2, h3, h4, h5⟩ := run_append_sl (ty := o.type) hE w hown hsl hbytes h63 hbase
  unfold Oper.wp
  simp [execOp, ho, resolve, invoke, builtin, hs, hx, hrun, Result.andThen]
  exact hK _ _ (h v' w' h2 h3 h4 h5)

theorem run_append_zeros {P : Program} {t ti ty e sz bytes n : Nat} (hE : El P t e sz bytes) (hti : P.underlying ti = some (.int .i64)) (w : World) (h0 : 0 < n)
    (hbytes : n * bytes ≤ 140737488355328) (h63 : n ≤ maxLen) :
    ∃ c cur, (Builtin.append_ #[t, ti] ty #[.slice none 0 0, .int .i64 n]).run P w = .ok (.slice (some ⟨w.heap.size, 0, none⟩) n c) (w.drew.alloc (.cells cur e)) ∧ n ≤ c ∧ c ≤ maxLen ∧ cur.size = c * sz := by
  obtain ⟨ht, ⟨i, z, hi, hz, hsize, hby, hzs⟩, hsz⟩ := hE
  subst hsize hby
  have hw : IntKind.i64.wrap (n : Int) = n := by rw [IntKind.wrap_i64]; simp only [maxLen] at h63; omega
  have a1 : ¬ ((n : Int) < 0) := by omega
  have a2 : ¬ (281474976710656 < (n : Int) * (i.bytes : Int)) := by
    rw [← Int.natCast_mul]; omega
  have h63' : ¬ (9223372036854775807 < (n : Int)) := by simp only [maxLen] at h63; omega
  have h48' : ¬ (281474976710656 < Builtin.nextslicecap n 0 * i.bytes) := by rw [nextslicecap_zero h0]; omega
  have hn : n ≠ 0 := by omega
  have hns : n * i.size ≠ 0 := Nat.mul_ne_zero hn (by omega)
  have hge : n ≤ grownCap w n 0 e := grownCap_ge w n 0 e
  refine ⟨grownCap w n 0 e, Builtin.zeroCells z.cells n ++ Builtin.zeroCells z.cells (grownCap w n 0 e - n), ?_, hge, grownCap_le_maxLen w n 0 e h63, ?_⟩
  · simp [Builtin.append_, run_underlying ht, run_underlying hti, sizeOf, typeInfo, zeroValue, hi, hz, asInt, asIntOf, hw, a1, a2, hn, hns, h63', h48', Question.forced, run_firstCells_none, newRow, grownCap]
  · rw [Array.size_append, size_zeroCells, size_zeroCells, hzs, ← Nat.add_mul]
    congr 1; omega

/-- 'append(nil, make([]T, n)...)', n above 0 -/
theorem wpList_append_zeros {P : Program} {t ti e sz bytes n : Nat} (hE : El P t e sz bytes) (hti : P.underlying ti = some (.int .i64)) (w : World) {ops : Array Oper} {rest : List Oper} {o : Oper} {a : Act} {Q : Exit → Act → World → Prop} (hgd : o.guard = none) {s x : Operand}
    (ho : o.op = .call { callee := .builtin .append, args := #[s, x], argTypes := #[t, ti] })
    (hs : a.eval s = .slice none 0 0) (hx : a.eval x = .int .i64 n) (h0 : 0 < n) (hbytes : n * bytes ≤ 140737488355328) (h63 : n ≤ maxLen)
    (h : ∀ (c : Nat) (cur : Array Value), n ≤ c → c ≤ maxLen → cur.size = c * sz → wpList P ops Q rest (a.put o.dst (.slice (some ⟨w.heap.size, 0, none⟩) n c)) (w.drew.alloc (.cells cur e))) :
    wpList P ops Q (o :: rest) a w := by
  refine wpList_plain hgd fun K hK => ?_
  obtain ⟨c, cur, hrun, h2, h3, h4⟩ := run_append_zeros (ty := o.type) hE hti w h0 hbytes h63
  unfold Oper.wp
  simp [execOp, ho, resolve, invoke, builtin, hs, hx, hrun, Result.andThen]
  exact hK _ _ (h c cur h2 h3 h4)

/-! ### elements -/
theorem flat_len {α : Type} (f : α → List Value) (sz : Nat) (hf : ∀ x, (f x).length = sz) (xs : List α) : (xs.flatMap f).length = xs.length * sz := by
  induction xs with
  | nil => simp
  | cons x xs ih => simp only [List.flatMap_cons, List.length_append, hf, ih, List.length_cons]; rw [Nat.add_mul]; omega

theorem flat_get {α : Type} (f : α → List Value) (sz : Nat) (hf : ∀ x, (f x).length = sz) (xs : List α) (k : Nat) (hk : k < xs.length) (j : Nat) (hj : j < sz) : (xs.flatMap f)[k * sz + j]? = (f xs[k])[j]? := by
  induction xs generalizing k with
  | nil => simp at hk
  | cons x xs ih =>
    cases k with
    | zero => simp only [List.flatMap_cons, Nat.zero_mul, Nat.zero_add, List.getElem_cons_zero]; rw [List.getElem?_append_left (by rw [hf]; exact hj)]
    | succ k =>
      simp only [List.flatMap_cons, List.getElem_cons_succ]
      rw [List.getElem?_append_right (by rw [hf, Nat.add_mul]; omega), hf, show (k + 1) * sz + j - sz = k * sz + j by rw [Nat.add_mul]; omega]
      exact ih k (by simpa using hk)

theorem row_get {α : Type} {f : α → List Value} {sz : Nat} (hf : ∀ x, (f x).length = sz) {xs : List α} {w : World} {b o : Nat} (h : Row w b o (xs.flatMap f)) {k : Nat} (hk : k < xs.length) : Row w b (o + k * sz) (f xs[k]) := by
  intro j u hu
  have hj : j < sz := by rw [← hf xs[k]]; exact (List.getElem?_eq_some_iff.1 hu).1
  have := h (k * sz + j) u (by rw [flat_get f sz hf xs k hk j hj]; exact hu)
  rwa [← Nat.add_assoc] at this

theorem flat_one {α : Type} {f : α → List Value} (hf : ∀ x, ∀ u ∈ f x, u.oneCell' = true) (xs : List α) : ∀ u ∈ xs.flatMap f, u.oneCell' = true := by
  intro u hu
  obtain ⟨x, _, hx⟩ := List.mem_flatMap.1 hu
  exact hf x u hx

/-- a slice of elements that are told cell by cell -/
def SlG {α : Type} (N : Nat) (g : α → Nat → Value) (w : World) (v : Value) (xs : List α) : Prop :=
  ∃ a c, v = .slice a xs.length c ∧ xs.length ≤ c ∧ (xs = [] ∨ ∃ b o, a = some ⟨b, o, none⟩ ∧ b < w.heap.size ∧ ∀ i (h : i < xs.length), ∀ j, j < N → w.cell? ⟨b, o + i * N + j, none⟩ = some (g xs[i] j))

theorem Sl.g {α : Type} {N : Nat} {g : α → Nat → Value} {f : α → List Value} (hN : 0 < N) (hf : ∀ x, f x = (List.range N).map (g x)) {w : World} {v : Value} {xs : List α} (h : Sl N w v xs.length (xs.flatMap f)) : SlG N g w v xs := by
  obtain ⟨_, a, c, rfl, h2, _, _, h5⟩ := h
  refine ⟨a, c, rfl, h2, ?_⟩
  rcases h5 with ⟨_, h, _⟩ | ⟨b, o, s, rfl, h5, h6⟩
  · exact .inl (List.eq_nil_of_length_eq_zero h)
  · by_cases hx : xs = []
    · exact .inl hx
    · obtain ⟨rfl, hb⟩ := h6 (List.length_pos_iff.2 hx)
      refine .inr ⟨b, o, rfl, hb, fun i hi j hj => ?_⟩
      exact row_get (fun x => by rw [hf]; simp) h5 hi j _ (by rw [hf]; simp [hj])

theorem SlG.ofBelow {α : Type} {N : Nat} {g : α → Nat → Value} {w w' : World} {v : Value} {xs : List α} (h : SlG N g w v xs) (hB : Below w.heap.size w w') : SlG N g w' v xs := by
  obtain ⟨a, c, rfl, h2, h5⟩ := h
  refine ⟨a, c, rfl, h2, h5.imp id ?_⟩
  rintro ⟨b, o, rfl, hb, h⟩
  exact ⟨b, o, rfl, Nat.lt_of_lt_of_le hb hB.size, fun i hi j hj => (hB.cell (p := ⟨b, o + i * N + j, none⟩) hb).trans (h i hi j hj)⟩

/-- the first index at which p holds, or -1 -/
def idxOf {α : Type} (p : α → Bool) (xs : List α) : Int := match xs.findIdx? p with | some i => (i : Int) | none => -1
theorem idxOf_none {α : Type} {p : α → Bool} {xs : List α} (h : ∀ x ∈ xs, p x = false) : idxOf p xs = -1 := by
  unfold idxOf
  rw [List.findIdx?_eq_none_iff.2 (by intro x hx; rw [h x hx])]
theorem idxOf_some {α : Type} {p : α → Bool} {xs : List α} {k : Nat} (hk : k < xs.length) (hp : p xs[k] = true) (h : ∀ x ∈ xs.take k, p x = false) : idxOf p xs = k := by
  unfold idxOf
  rw [(List.findIdx?_eq_some_iff_getElem (p := p) (xs := xs) (i := k)).2 ⟨hk, hp, fun j hj => by
    have := h xs[j] (by rw [List.mem_take_iff_getElem]; exact ⟨j, by omega, rfl⟩)
    simp [this]⟩]
theorem idxOf_nonneg {α : Type} (p : α → Bool) (xs : List α) : 0 ≤ idxOf p xs ↔ xs.any p = true := by
  by_cases h : xs.any p = true
  · simp only [h, iff_true]
    unfold idxOf
    cases hf : xs.findIdx? p with
    | none =>
      obtain ⟨x, hx, hp⟩ := List.any_eq_true.1 h
      have := List.findIdx?_eq_none_iff.1 hf x hx
      rw [hp] at this; cases this
    | some j => exact Int.natCast_nonneg _
  · simp only [h]
    rw [idxOf_none]
    · simp
    · intro x hx
      cases hp : p x with
      | false => rfl
      | true => exact absurd (List.any_eq_true.2 ⟨x, hx, hp⟩) h

theorem sum_take_le {α : Type} (vs : List (α × Nat × List Value)) (k : Nat) : ((vs.take k).map (·.2.1)).sum ≤ (vs.map (·.2.1)).sum := by
  induction vs generalizing k with
  | nil => simp
  | cons x vs ih => cases k with
    | zero => simp
    | succ k => simp only [List.take_succ_cons, List.map_cons, List.sum_cons]; have := ih k; omega

theorem sum_take_succ {α : Type} (vs : List (α × Nat × List Value)) (k : Nat) (h : k < vs.length) : ((vs.take (k + 1)).map (·.2.1)).sum = ((vs.take k).map (·.2.1)).sum + vs[k].2.1 := by
  rw [List.take_succ_eq_append_getElem h, List.map_append, List.sum_append]; simp only [List.map_cons, List.map_nil, List.sum_cons, List.sum_nil, Nat.add_zero]
theorem flat_take_succ {α : Type} (vs : List (α × Nat × List Value)) (k : Nat) (h : k < vs.length) : ((vs.take (k + 1)).map (·.2.2)).flatten = ((vs.take k).map (·.2.2)).flatten ++ vs[k].2.2 := by
  rw [List.take_succ_eq_append_getElem h, List.map_append, List.flatten_append]; simp only [List.map_cons, List.map_nil, List.flatten_cons, List.flatten_nil, List.append_nil]

/-! ### '==' of structs, field by field -/
theorem eq_field {P : Program} {d : Nat} {xs ys : Array Value} {f : Field} {fs : List Field} {a b : Value} {r s : Bool} {w : World} (hn : (f.name == "_") = false) (ha : (part f.type xs f.offset).run P w = .ok a w) (hb : (part f.type ys f.offset).run P w = .ok b w)
    (he : (Op.equalIn d f.type a b).run P w = .ok r w) (hr : (Op.eqFields d xs ys fs).run P w = .ok s w) : (Op.eqFields d xs ys (f :: fs)).run P w = .ok (r && s) w := by
  have hn' : f.name ≠ "_" := by simpa using hn
  rw [Op.eqFields]
  simp only [if_pos hn', Sem.run_bind, ha, hb, he, Result.andThen_ok]
  cases r
  · simp
  · simpa using hr
theorem eq_fields_nil {P : Program} {d : Nat} {xs ys : Array Value} {w : World} : (Op.eqFields d xs ys []).run P w = .ok true w := by simp [Op.eqFields]
theorem eq_struct {P : Program} {d : Nat} {xs ys : Array Value} {r : Bool} {w : World} {t : TypeId} {fs : Array Field} (hu : P.underlying t = some (.struct fs)) (hp : P.stoodInHeld t = false) (h : (Op.eqFields d xs ys fs.toList).run P w = .ok r w) :
    (Op.equalIn (d + 1) t (.agg xs) (.agg ys)).run P w = .ok r w := by
  have hf : P.fieldsOf t = fs := by simp [Program.fieldsOf, hu]
  rw [run_equalIn_struct (P := P) w d t xs ys (by rw [hf]; exact hu) hp, hf]
  exact h
theorem run_eql_of {P : Program} {t : TypeId} {x y : Array Value} {r : Bool} {w : World} (h : (Op.equalIn 10000 t (.agg x) (.agg y)).run P w = .ok r w) : (binOp .eql t (.agg x) (.agg y)).run P w = .ok (.bool r) w := by
  simp only [binOp]
  simp [Op.equal, Op.maxDepth, h]
theorem run_neq_of {P : Program} {t : TypeId} {x y : Array Value} {r : Bool} {w : World} (h : (Op.equalIn 10000 t (.agg x) (.agg y)).run P w = .ok r w) : (binOp .neq t (.agg x) (.agg y)).run P w = .ok (.bool (!r)) w := by
  simp only [binOp]
  simp [Op.equal, Op.maxDepth, h]

theorem below_drewN {B : Nat} {a w : World} (h : Below B a w) (n : Nat) : Below B a (w.drewN n) := ⟨h.os, h.tape, h.output, h.size, h.block⟩
theorem below_of_drewN {a w : World} {n : Nat} (h : Below (a.drewN n).heap.size (a.drewN n) w) : Below a.heap.size a w := ⟨h.os, h.tape, h.output, h.size, h.block⟩
theorem chg_drewN {F : Nat → Prop} {a w : World} (h : Chg F a w) (n : Nat) : Chg F a (w.drewN n) := ⟨h.os, h.tape, h.output, h.size, h.block⟩
theorem Row.drewN {w : World} {b o : Nat} {cs : List Value} (h : Row w b o cs) (n : Nat) : Row (w.drewN n) b o cs := h
theorem Sl.drewN {sz n : Nat} {w : World} {v : Value} {cs : List Value} (h : Sl sz w v n cs) (k : Nat) : Sl sz (w.drewN k) v n cs := h
theorem own_drewN {w : World} {base : Nat} {e sz n : Nat} {v : Value} {xs : List Value} (h : w.ownsRow base e sz v n xs) (k : Nat) : (w.drewN k).ownsRow base e sz v n xs := h
theorem row_new (w : World) (cs : Array Value) (t : TypeId) : Row (w.alloc (.cells cs t)) w.heap.size 0 cs.toList := by
  intro j u hu
  rw [Nat.zero_add, World.cell?_alloc_new]; simpa using hu

theorem ret_bool {a b : Bool} (h : a = b) : Ending.returned (.bool a) = .returned (.bool b) := by rw [h]
theorem ret_i64 {a b : Int} (h : a = b) : Ending.returned (.int .i64 a) = .returned (.int .i64 b) := by rw [h]
theorem bool_of_iff {a b : Bool} (h : a = true ↔ b = true) : a = b := Bool.eq_iff_iff.2 h

theorem int_beq_eq {a b c d : Int} : ((a == b) = (c == d)) ↔ (a = b ↔ c = d) := by rw [Bool.eq_iff_iff]; simp only [beq_iff_eq]
/-- behind a call that only makes memory: all cells and marks that were there read as before (two rules for the walk) -/
theorem bcell {W w1 : World} (hb : Below W.heap.size W w1) : (∀ b o, b < W.heap.size → w1.cell? ⟨b, o, none⟩ = W.cell? ⟨b, o, none⟩) ∧ (∀ b o, b < W.heap.size → w1.frozen? ⟨b, o, none⟩ = W.frozen? ⟨b, o, none⟩) :=
  ⟨fun b o h => hb.cell (p := ⟨b, o, none⟩) h, fun b o h => hb.frozen (p := ⟨b, o, none⟩) h⟩

theorem Sl.shape {sz n : Nat} {w : World} {v : Value} {cs : List Value} (h : Sl sz w v n cs) : ∃ a c, v = .slice a n c := by
  obtain ⟨_, a, c, rfl, _⟩ := h
  exact ⟨a, c, rfl⟩
theorem own_shape {w : World} {base : Nat} {e sz n : Nat} {v : Value} {xs : List Value} (h : w.ownsRow base e sz v n xs) : ∃ a c, v = .slice a n c := by
  rcases h.2 with ⟨rfl, rfl⟩ | ⟨g, cap, cur, rfl, _⟩
  · exact ⟨none, 0, rfl⟩
  · exact ⟨_, cap, rfl⟩

theorem sl_new (w : World) {sz n : Nat} (cs : Array Value) (t : TypeId) (hl : cs.size = n * sz) (hn : n ≤ maxLen) (h1 : ∀ u ∈ cs.toList, u.oneCell' = true) : Sl sz (w.alloc (.cells cs t)) (.slice (some ⟨w.heap.size, 0, none⟩) n n) n cs.toList :=
  ⟨by simpa using hl, _, n, rfl, Nat.le_refl _, hn, h1, .inr ⟨w.heap.size, 0, none, rfl, row_new w cs t, fun _ => ⟨rfl, by simp⟩⟩⟩

theorem Chg.setCell {F : Nat → Prop} {a w : World} (h : Chg F a w) {p : Addr} (hp : F p.block) (u : Value) : Chg F a (w.setCell p u) :=
  h.trans ⟨rfl, rfl, rfl, by simp [World.setCell], fun k _ hn => Below.heap_setCell _ _ _ _ (fun e => hn (e ▸ hp))⟩
theorem Sl.setCell {sz n : Nat} {w : World} {v : Value} {cs : List Value} (h : Sl sz w v n cs) {p : Addr} (hp : v.ownBlock ≠ some p.block) (u : Value) : Sl sz (w.setCell p u) v n cs :=
  h.keep (by simp) fun b hb _ => Below.heap_setCell _ _ _ _ (fun e => hp (by rw [hb, e]))

/-- an own row of one-cell elements, told open: its block, its cells; behind a store into one of them -/
theorem own_cell {w : World} {base : Nat} {e n : Nat} {v : Value} {xs : List Value} (h : w.ownsRow base e 1 v n xs) {i : Nat} (hi : i < xs.length) :
    ∃ g c, v = .slice (some ⟨g, 0, none⟩) n c ∧ n ≤ c ∧ base ≤ g ∧ g < w.heap.size ∧ w.cell? ⟨g, i, none⟩ = some xs[i] ∧ w.frozen? ⟨g, i, none⟩ = false ∧
      ∀ u, (w.setCell ⟨g, i, none⟩ u).ownsRow base e 1 v n (xs.set i u) := by
  obtain ⟨hl, hr⟩ := h
  rcases hr with ⟨rfl, rfl⟩ | ⟨g, c, cur, rfl, hb, hg, hnc, hcm, hcs, htake⟩
  · simp at hl; subst hl; simp at hi
  · have hcell := World.ownsRow.cells ⟨hl, .inr ⟨g, c, cur, rfl, hb, hg, hnc, hcm, hcs, htake⟩⟩ (g := g) rfl i xs[i] (List.getElem?_eq_getElem hi)
    rw [Addr.add_lit, Nat.zero_add] at hcell
    refine ⟨g, c, rfl, hnc, hb, (Array.getElem?_eq_some_iff.1 hg).1, hcell, frozen_of_row w g i cur e hg, fun u => ⟨by simpa using hl, .inr ⟨g, c, cur.setIfInBounds i u, rfl, hb, ?_, hnc, hcm, by simpa using hcs, ?_⟩⟩⟩
    · have := heap_setCell_same w g i cur e u hg
      exact this
    · rw [Array.toList_setIfInBounds, List.take_set, htake]

/-- 'make([]T, n)', whatever the zero cells are -/
theorem wpList_make_sl {P : Program} {t e sz bytes : Nat} (hE : El P t e sz bytes) (w : World) {ops : Array Oper} {rest : List Oper} {o : Oper} {a : Act} {Q : Exit → Act → World → Prop} (hgd : o.guard = none) {l c : Operand} (hop : o.op = Op.makeSlice t l c)
    (base : Nat) (kl kc : IntKind) (L C : Int) (n : Nat) (hl : a.eval l = .int kl L) (hc : a.eval c = .int kc C) (hL : L = (n : Int)) (hC : C = (n : Int)) (b2 : bytes * n ≤ 281474976710656) (b3 : n ≤ maxLen) (b4 : base ≤ w.heap.size)
    (hK : ∀ w' zs, w'.ownsRow base e sz (.slice (some ⟨w.heap.size, 0, none⟩) n n) n zs → w.grownBy w' none → wpList P ops Q rest (a.put o.dst (.slice (some ⟨w.heap.size, 0, none⟩) n n)) w') :
    wpList P ops Q (o :: rest) a w := by
  obtain ⟨ht, ⟨i, z, hi, hz, hsize, hby, hzs⟩, hsz⟩ := hE
  subst hby
  exact wpList_make_full w hgd l c t hop base e i z sz ht hi hz hsize kl kc L C n hl hc hL hC b2 b3 b4 (fun w' h1 h2 => hK w' _ h1 h2)

/-- what a cell holds, whatever it is: for a cell that is only written -/
def cv (W : World) (b o : Nat) : Value := (W.cell? ⟨b, o, none⟩).getD undef
theorem cv_eq {W : World} {b o : Nat} (h : (W.cell? ⟨b, o, none⟩).isSome = true) : W.cell? ⟨b, o, none⟩ = some (cv W b o) := by
  unfold cv
  cases hc : W.cell? ⟨b, o, none⟩ with
  | none => rw [hc] at h; cases h
  | some v => rfl
theorem isSome_setCell (W : World) (a : Addr) (v : Value) (b o : Nat) : ((W.setCell a v).cell? ⟨b, o, none⟩).isSome = (W.cell? ⟨b, o, none⟩).isSome := by
  by_cases h : a = ⟨b, o, none⟩
  · subst h
    cases hc : W.cell? ⟨b, o, none⟩ with
    | none =>
      cases hd : (W.setCell ⟨b, o, none⟩ v).cell? ⟨b, o, none⟩ with
      | none => rfl
      | some u =>
        exfalso
        simp only [World.cell?, World.setCell, Array.getElem?_modify, if_true] at hc hd
        cases hh : W.heap[b]? with
        | none => simp [hh] at hd
        | some ob =>
          cases ob <;> simp [hh] at hc hd
          simp_all
    | some u => rw [World.cell?_setCell_same _ _ _ hc]; rfl
  · rw [World.cell?_setCell_other _ _ _ _ h]
theorem isSome_drew (W : World) (b o : Nat) : (W.drew.cell? ⟨b, o, none⟩).isSome = (W.cell? ⟨b, o, none⟩).isSome := rfl
theorem isSome_of {W : World} {b o : Nat} {v : Value} (h : W.cell? ⟨b, o, none⟩ = some v) : (W.cell? ⟨b, o, none⟩).isSome = true := by rw [h]; rfl

/-- the result of a function that hands out a new slice -/
def NewSl (e sz n : Nat) (cs : List Value) (w : World) (ed : Ending) (w' : World) : Prop :=
  ∃ v, ed = .returned v ∧ w'.ownsRow w.heap.size e sz v n cs ∧ Below w.heap.size w w'
def RetB (b : Bool) (w : World) (ed : Ending) (w' : World) : Prop := ed = .returned (.bool b) ∧ Below w.heap.size w w'
def RetI (i : Int) (w : World) (ed : Ending) (w' : World) : Prop := ed = .returned (.int .i64 i) ∧ Below w.heap.size w w'
end Go.Proofs.Ytlbfeoobeleobaa
