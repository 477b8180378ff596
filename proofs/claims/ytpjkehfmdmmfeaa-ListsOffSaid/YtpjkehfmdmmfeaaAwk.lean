/- awake of layer 12 answers true. -/
import Derived.Test.YtpjkehfmdmmfeaaAwake
import Derived.Test.YtpjkehfmdmmfeaaHot
namespace Go.Proofs.Ytpjkehfmdmmfeaa
open Go.RowKit
set_option linter.unusedVariables false
set_option linter.unusedSimpArgs false

def seven : Item := ⟨7, 0, 0, 0, 0⟩
theorem LAt.made (w : World) : LAt (w.alloc (.cells #[.int .i64 0, .slice none 0 0] 30)) w.heap.size 0 [] :=
  ⟨⟨.slice none 0 0, by go_simp, by go_simp, Sl.nil _ _, by simp [Value.ownBlock]⟩, by go_simp, by go_simp⟩
theorem LAt.chg {w w' : World} {h : Nat} {ver : Int} {items : List Item} {F : Nat → Prop} (H : LAt w h ver items) (hC : Chg F w w') (hh : ¬ F h) (hv : ∀ v, w.cell? ⟨h, 1, none⟩ = some v → ∀ b, v.ownBlock = some b → ¬ F b) : LAt w' h ver items := by
  have hl := H.lt
  obtain ⟨v, h0, h1, h2, h3⟩ := H.ex
  have hb := hC.block h hl hh
  exact ⟨⟨v, (World.cell?_of_block (a := ⟨h, 0, none⟩) hb).trans h0, (World.cell?_of_block (a := ⟨h, 1, none⟩) hb).trans h1, h2.keep hC.size (fun b hb' hl' => hC.block b hl' (hv v h1 b hb')), h3⟩,
    (World.frozen?_of_block (a := ⟨h, 0, none⟩) hb).trans H.f0, (World.frozen?_of_block (a := ⟨h, 1, none⟩) hb).trans H.f1⟩

set_option maxHeartbeats 4000000 in
set_option maxRecDepth 100000 in
theorem awake_true (w : World) : Calls Try.prog 6 #[] w (RetB true w) := by
  go_enter Try.func6, Try.ntmps6
  go_wp2_with fail
  have hB0 : Below w.heap.size w ((w.alloc (.cells #[.int .i64 0, .slice none 0 0] 30)).alloc (.cells #[.int .i64 7, .int .i64 0, .int .i64 0, .int .i64 0, .int .i64 0] 35)) := ((Below.refl _ _).alloc (Nat.le_refl _) _).alloc (by simp) _
  have hsl0 := sl_new (n := 1) (sz := 5) (w.alloc (.cells #[.int .i64 0, .slice none 0 0] 30)) #[.int .i64 7, .int .i64 0, .int .i64 0, .int .i64 0, .int .i64 0] 35 rfl (by simp [maxLen]) (Item.cells_one seven)
  have hL0 := (LAt.made w).ofBelow ((Below.refl _ _).alloc (Nat.le_refl _) (Obj.cells #[.int .i64 7, .int .i64 0, .int .i64 0, .int .i64 0, .int .i64 0] 35))
  simp only [World.size_alloc] at hsl0
  have hsz : ((w.alloc (.cells #[.int .i64 0, .slice none 0 0] 30)).alloc (.cells #[.int .i64 7, .int .i64 0, .int .i64 0, .int .i64 0, .int .i64 0] 35)).heap.size = w.heap.size + 2 := by simp
  generalize (w.alloc (.cells #[.int .i64 0, .slice none 0 0] 30)).alloc (.cells #[.int .i64 7, .int .i64 0, .int .i64 0, .int .i64 0, .int .i64 0] 35) = w0 at *
  have hs0 : w0.heap.size = w.heap.size + 2 := hsz
  have HS0 := Lib.hid hs0
  clear hsz hs0
  refine (hot_apply w.heap.size 0 1 [] [seven] [] _ _ w0 hL0 hsl0 (Sl.nil _ _) (by simp) (by simp) (by simp) (by omega) (by omega)).mono ?_
  rintro e w1 ⟨rfl, hC1, hL1⟩
  have e0 : applyE hotRightB 0 [] 1 [seven] [] = 0 := by decide
  rw [e0] at hL1 ⊢
  have e1 : nextItems [] [seven] [] = [seven] := by decide
  rw [if_pos rfl, if_pos rfl, e1] at hL1
  have HB1 := Lib.hid (hB0.trans (hC1.toBelow (by have := HS0.out; omega) (fun i hi e => by omega)))
  have hs1 : w.heap.size + 2 ≤ w1.heap.size := by have := hC1.size; have := HS0.out; omega
  have HL1 := Lib.hid hL1
  clear hC1 hL1 hB0 hL0 hsl0 e0 e1
  go_wp2_with fail
  refine (lists_put_six w1).mono ?_
  rintro e w2 ⟨v2, rfl, hown2, hB2⟩
  obtain ⟨a2, c2, rfl⟩ := own_shape hown2
  have HB2 := Lib.hid (HB1.out.trans (hB2.mono (by omega)))
  have HL2 := Lib.hid (HL1.out.ofBelow hB2)
  have HO2 := Lib.hid (own_sl hown2 (u8s_one six))
  have hs2 : w.heap.size + 2 ≤ w2.heap.size := by have := hB2.size; omega
  clear hown2 hB2
  go_wp2_with fail
  refine (lists_get_six _ w2 HO2.out).mono ?_
  rintro e w3 ⟨a5, c5, a6, c6, rfl, hB3⟩
  have HB3 := Lib.hid (HB2.out.trans (hB3.mono (by omega)))
  have HL3 := Lib.hid (HL2.out.ofBelow hB3)
  have hs3 : w.heap.size + 2 ≤ w3.heap.size := by have := hB3.size; omega
  clear hB3
  go_wp2_with fail
  have hB4 : Below w.heap.size w (w3.alloc (.cells #[.int .i64 1, .slice a5 0 c5, .slice a6 0 c6] 24)) := HB3.out.alloc (by omega) _
  have hL4 := HL3.out.ofBelow ((Below.refl _ _).alloc (Nat.le_refl _) (Obj.cells #[.int .i64 1, .slice a5 0 c5, .slice a6 0 c6] 24))
  have d0 : (w3.alloc (.cells #[.int .i64 1, .slice a5 0 c5, .slice a6 0 c6] 24)).cell? ⟨w3.heap.size, 0, none⟩ = some (.int .i64 1) := by go_simp
  have hs4 : (w3.alloc (.cells #[.int .i64 1, .slice a5 0 c5, .slice a6 0 c6] 24)).heap.size = w3.heap.size + 1 := by simp
  generalize w3.alloc (.cells #[.int .i64 1, .slice a5 0 c5, .slice a6 0 c6] 24) = w4 at *
  have HL4 := Lib.hid hL4
  have HB4 := Lib.hid hB4
  have HS4 := Lib.hid hs4
  have D0 := Lib.hid d0
  clear hL4 hB4 hs4 d0
  refine (hot_has w.heap.size 1 [seven] 7 2 9 w4 HL4.out (by simp)).mono ?_
  rintro e w5 ⟨rfl, hB5⟩
  have e1 : [seven].any (hasB 7 2 9) = true := by decide
  rw [e1]
  have HL5 := Lib.hid (HL4.out.ofBelow hB5)
  have D5 := Lib.hid ((hB5.cell (p := ⟨w3.heap.size, 0, none⟩) (by have := HS4.out; simp only; omega)).trans D0.out)
  have HB5 := Lib.hid (HB4.out.trans (hB5.mono (by have := HS4.out; omega)))
  have hs5 : w3.heap.size + 1 ≤ w5.heap.size := by have := hB5.size; have := HS4.out; omega
  clear hB5 e1
  go_wp2_with fail
  refine (hot_has w.heap.size 1 [seven] 8 2 9 w5 HL5.out (by simp)).mono ?_
  rintro e w6 ⟨rfl, hB6⟩
  have e1 : [seven].any (hasB 8 2 9) = false := by decide
  rw [e1]
  have HL6 := Lib.hid (HL5.out.ofBelow hB6)
  have D6 := Lib.hid ((hB6.cell (p := ⟨w3.heap.size, 0, none⟩) (by simp only; omega)).trans D5.out)
  have HB6 := Lib.hid (HB5.out.trans (hB6.mono (by omega)))
  have hs6 : w3.heap.size + 1 ≤ w6.heap.size := by have := hB6.size; omega
  clear hB6 e1
  go_wp2_with fail
  refine (hot_version w.heap.size 1 [seven] w6 HL6.out).mono ?_
  rintro e w7 ⟨rfl, hB7⟩
  have D7 := (hB7.cell (p := ⟨w3.heap.size, 0, none⟩) (by simp only; omega)).trans D6.out
  have HB7 := Lib.hid (HB6.out.trans (hB7.mono (by omega)))
  clear hB7
  go_wp2_with fail
  go_ret
  exact ⟨rfl, HB7.out⟩
end Go.Proofs.Ytpjkehfmdmmfeaa
