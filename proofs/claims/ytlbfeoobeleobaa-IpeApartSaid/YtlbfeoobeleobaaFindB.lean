/- tlv.Find. -/
import Derived.Test.YtlbfeoobeleobaaFind
namespace Go.Proofs.Ytlbfeoobeleobaa
open Go.RowKit
set_option linter.unusedVariables false
set_option linter.unusedSimpArgs false

def FindPost (d : Nat) (F : Nat → Prop) (w : World) (r : Option T) (e : Ending) (w' : World) : Prop :=
  match r with
  | none => e = .returned (.tuple #[.agg #[.int .i64 0, .slice none 0 0, .slice none 0 0], .bool false]) ∧ Below w.heap.size w w'
  | some t => ∃ a1 c1 a2 c2, e = .returned (.tuple #[.agg #[.int .i64 t.tag, .slice a1 t.bytes.length c1, .slice a2 t.kids.length c2], .bool true]) ∧ RepX d (fun b => F b ∨ w.heap.size ≤ b) w' ⟨t.tag, .slice a1 t.bytes.length c1, .slice a2 t.kids.length c2, t.bytes, t.kids⟩ ∧ Below w.heap.size w w'
def findTag (g : Int) (es : List T) : Option T := es.find? fun t => t.tag == g
theorem findTag_none {g : Int} {es : List T} (h : ∀ t ∈ es, (t.tag == g) = false) : findTag g es = none := by
  unfold findTag; rw [List.find?_eq_none]; intro t ht; rw [h t ht]; simp
theorem findTag_some {g : Int} {es : List T} {k : Nat} (hk : k < es.length) (hp : (es[k].tag == g) = true) (h : ∀ t ∈ es.take k, (t.tag == g) = false) : findTag g es = some es[k] := by
  unfold findTag
  rw [List.find?_eq_some_iff_getElem]
  refine ⟨hp, k, hk, rfl, fun j hj => ?_⟩
  rw [h es[j] (by rw [List.mem_take_iff_getElem]; exact ⟨j, by omega, rfl⟩)]; rfl

set_option maxHeartbeats 4000000 in
set_option maxRecDepth 100000 in
theorem find_any (d : Nat) (F : Nat → Prop) (g : Int) (v : Value) (es : List T) (w : World) (hR : RepL (d + 1) F w v es) : Calls Try.prog 40 #[.int .i64 g, v] w (FindPost d F w (findTag g es)) := by
  obtain ⟨xs, rfl, hxl, hs, hxr⟩ := hR.cut
  have hsh := hs.1.shape
  obtain ⟨a, c, rfl⟩ := hsh
  have HB0 := Lib.hid (show Below w.heap.size w (w.alloc (.cells #[.int .i64 0, .slice none 0 0, .slice none 0 0] 67)) from (by repeat' (first | exact Below.refl _ _ | refine Below.alloc ?_ (by first | omega | (simp; done) | (simp; omega)) _ | refine Below.drew ?_ | refine below_drewN ?_ _ | refine Below.setCell ?_ (by first | omega | (simp; done) | (simp; omega)) _)))
  have n0 : (w.alloc (.cells #[.int .i64 0, .slice none 0 0, .slice none 0 0] 67)).cell? ⟨w.heap.size, 0, none⟩ = some (.int .i64 0) := by go_simp
  have n1 : (w.alloc (.cells #[.int .i64 0, .slice none 0 0, .slice none 0 0] 67)).cell? ⟨w.heap.size, 1, none⟩ = some (.slice none 0 0) := by go_simp
  have n2 : (w.alloc (.cells #[.int .i64 0, .slice none 0 0, .slice none 0 0] 67)).cell? ⟨w.heap.size, 2, none⟩ = some (.slice none 0 0) := by go_simp
  have nf : ∀ j, (w.alloc (.cells #[.int .i64 0, .slice none 0 0, .slice none 0 0] 67)).frozen? ⟨w.heap.size, j, none⟩ = false := fun j => by go_simp
  have hz : w.heap.size < (w.alloc (.cells #[.int .i64 0, .slice none 0 0, .slice none 0 0] 67)).heap.size := by simp
  have HS := Lib.hid (hs.1.ofBelow HB0.out)
  have HX := Lib.hid (fun x hx => ((hxr x hx).weaken (G := fun b => F b ∧ b < w.heap.size) (fun b hb hF => ⟨hF, hb⟩)).ofBelow HB0.out)
  clear hR hs hxr
  go_enter Try.func40, Try.ntmps40
  go_wp2_with fail
  generalize w.alloc (.cells #[.int .i64 0, .slice none 0 0, .slice none 0 0] 67) = w0 at *
  go_loopw [10] (fun i wr => ∃ k : Nat, k ≤ xs.length ∧ i = .int .i64 k ∧ Hid (∀ t ∈ (xs.map EC.t).take k, (t.tag == g) = false) ∧ Below w0.heap.size w0 wr) (fun i _ => xs.length - (intOf i).toNat)
  case atStart => exact ⟨0, by omega, rfl, Lib.hid (by simp), Below.refl _ _⟩
  case round =>
    obtain ⟨k, hk, rfl, hno, hB⟩ := hrel
    have r0 := (hB.cell (p := ⟨w.heap.size, 0, none⟩) hz).trans n0
    have r1 := (hB.cell (p := ⟨w.heap.size, 1, none⟩) hz).trans n1
    have r2 := (hB.cell (p := ⟨w.heap.size, 2, none⟩) hz).trans n2
    have rf := fun j => (hB.frozen (p := ⟨w.heap.size, j, none⟩) hz).trans (nf j)
    have hwr := hB.size
    by_cases hlt : k < xs.length
    · obtain ⟨b, o, c', he, hb, hc'⟩ := ecs_at HS.out hlt
      obtain ⟨rfl, -, rfl⟩ := Value.slice.inj he
      obtain ⟨e0, e1, e2⟩ := ecs_cells HS.out hlt
      replace e0 := (hB.cell (p := ⟨b, o + k * 3, none⟩) hb).trans e0
      replace e1 := (hB.cell (p := ⟨b, o + k * 3 + 1, none⟩) hb).trans e1
      replace e2 := (hB.cell (p := ⟨b, o + k * 3 + 2, none⟩) hb).trans e2
      have hx := HX.out xs[k] (List.getElem_mem hlt)
      have hxk : (xs.map EC.t)[k]'(by simpa using hlt) = xs[k].t := by simp
      generalize xs[k] = x at *
      obtain ⟨tag, bytes, kids, ab, cb, ak, ck, rfl, hx1, hx2, hx3⟩ := hx.cut
      simp only [EC.t] at e0 e1 e2 hxk
      clear he hx1 hx2 hx3 n0 n1 n2 nf
      have rf0 := rf 0
      have rf1 := rf 1
      have rf2 := rf 2
      have hzr : w.heap.size < wr.heap.size := by omega
      have HXX := Lib.hid hx; clear hx
      have HXK := Lib.hid hxk; clear hxk
      have HB := Lib.hid hB; clear hB
      clear rf
      by_cases heq : tag = g
      · have d0 : (tag == g) = true := by simp [heq]
        clear heq
        go_wp2_with fail
        refine (copied_any d (fun b => F b ∧ b < w.heap.size) tag bytes kids ab cb ak ck _ (HXX.out.ofBelow (by repeat' (first | exact Below.refl _ _ | exact HB.out | refine Below.alloc ?_ (by first | omega | (simp; done) | (simp; omega)) _ | refine Below.drew ?_ | refine below_drewN ?_ _ | refine Below.setCell ?_ (by first | omega | (simp; done) | (simp; omega)) _)))).mono ?_
        rintro e w3 ⟨a1, c1, a2, c2, rfl, hr, hB3⟩
        have hb3 : Below wr.heap.size wr w3 := Below.trans (show Below wr.heap.size wr (wr.alloc _) from (Below.refl _ _).alloc (Nat.le_refl _) _) (hB3.mono (by simp))
        have s0 := (hb3.cell (p := ⟨w.heap.size, 0, none⟩) hzr).trans r0
        have s1 := (hb3.cell (p := ⟨w.heap.size, 1, none⟩) hzr).trans r1
        have s2 := (hb3.cell (p := ⟨w.heap.size, 2, none⟩) hzr).trans r2
        have sf0 := (hb3.frozen (p := ⟨w.heap.size, 0, none⟩) hzr).trans rf0
        have sf1 := (hb3.frozen (p := ⟨w.heap.size, 1, none⟩) hzr).trans rf1
        have sf2 := (hb3.frozen (p := ⟨w.heap.size, 2, none⟩) hzr).trans rf2
        have HRR := Lib.hid (hr.weaken (G := fun b => (F b ∨ w.heap.size ≤ b) ∧ b ≠ w.heap.size) (fun b _ hb => by
          rcases hb with hb | hb
          · exact ⟨.inl hb.1, by omega⟩
          · simp at hb; exact ⟨.inr (by omega), by omega⟩))
        have HBW := Lib.hid (HB0.out.trans ((HB.out.trans (hb3.mono hwr)).mono (by omega)))
        clear hr hB3 hb3 r0 r1 r2 rf0 rf1 rf2
        go_wp2_with fail
        have hfin := findTag_some (g := g) (es := xs.map EC.t) (k := k) (by simpa using hlt) (by rw [HXK.out]; exact d0) hno.out
        rw [hfin, HXK.out]
        refine bodyPost_ret (v := .tuple #[.agg #[.int .i64 tag, .slice a1 bytes.length c1, .slice a2 kids.length c2], .bool true]) ?_ rfl ⟨a1, c1, a2, c2, rfl, ?_, ((HBW.out.setCell (Nat.le_refl _) _).setCell (Nat.le_refl _) _).setCell (Nat.le_refl _) _⟩
        · obtain ⟨z0, z1, z2⟩ := read3 s0 s1 s2 (.int .i64 tag) (.slice a1 bytes.length c1) (.slice a2 kids.length c2)
          generalize ((w3.setCell ⟨w.heap.size, 0, none⟩ (.int .i64 tag)).setCell ⟨w.heap.size, 1, none⟩ (.slice a1 bytes.length c1)).setCell ⟨w.heap.size, 2, none⟩ (.slice a2 kids.length c2) = w5 at *
          simp [results, Try.results40, go_sem, z0, z1, z2]
        · refine (HRR.out.keep (by simp) fun b hb _ => ?_).weaken fun b _ hb => hb.1
          rw [Below.heap_setCell _ _ _ _ hb.2, Below.heap_setCell _ _ _ _ hb.2, Below.heap_setCell _ _ _ _ hb.2]
      · have d0 : (tag == g) = false := by simp [heq]
        clear heq
        go_wp2_with fail
        go_roundw
        case rel => exact ⟨k + 1, by omega, by go_num, Lib.hid (fun t ht => by
          rw [List.take_succ_eq_append_getElem (by simpa using hlt)] at ht
          rcases List.mem_append.1 ht with h | h
          · exact hno.out t h
          · rw [List.mem_singleton.1 h, HXK.out]; exact d0), (by repeat' (first | exact Below.refl _ _ | exact HB.out | refine Below.alloc ?_ (by first | omega | (simp; done) | (simp; omega)) _ | refine Below.drew ?_ | refine below_drewN ?_ _ | refine Below.setCell ?_ (by first | omega | (simp; done) | (simp; omega)) _))⟩
        case measure => simp [intOf]; omega
    · obtain rfl : k = xs.length := by omega
      have rf0 := rf 0
      have rf1 := rf 1
      have rf2 := rf 2
      clear rf n0 n1 n2 nf
      have hfin := findTag_none (g := g) (es := xs.map EC.t) (by have := hno.out; rwa [List.take_of_length_le (by simp)] at this)
      have HF := Lib.hid hfin; clear hfin
      have HBW := Lib.hid (HB0.out.trans (hB.mono (by omega)))
      clear hB
      go_wp2_with fail
      rw [HF.out]
      refine bodyPost_ret (v := .tuple #[.agg #[.int .i64 0, .slice none 0 0, .slice none 0 0], .bool false]) ?_ rfl ⟨rfl, ((HBW.out.setCell (Nat.le_refl _) _).setCell (Nat.le_refl _) _).setCell (Nat.le_refl _) _⟩
      obtain ⟨z0, z1, z2⟩ := read3 r0 r1 r2 (.int .i64 0) (.slice none 0 0) (.slice none 0 0)
      generalize ((wr.setCell ⟨w.heap.size, 0, none⟩ (.int .i64 0)).setCell ⟨w.heap.size, 1, none⟩ (.slice none 0 0)).setCell ⟨w.heap.size, 2, none⟩ (.slice none 0 0) = w5 at *
      simp [results, Try.results40, go_sem, z0, z1, z2]
end Go.Proofs.Ytlbfeoobeleobaa
