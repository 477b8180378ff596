/- (*lists.list).apply: what a list is behind a delta. -/
import Derived.Test.YtpjkehfmdmmfeaaItem
namespace Go.Proofs.Ytpjkehfmdmmfeaa
open Go.RowKit
set_option linter.unusedVariables false
set_option linter.unusedSimpArgs false

def keepOff (items off : List Item) : List Item := items.filter fun x => !(off.any (itemEqB x))
def addStep (n : List Item) (x : Item) : List Item := if n.any (itemEqB x) then n else n ++ [x]
def addAll (n add : List Item) : List Item := add.foldl addStep n
def nextItems (items add off : List Item) : List Item := addAll (keepOff items off) add
def applyE (p : Item → Bool) (ver : Int) (items : List Item) (to : Int) (add off : List Item) : Int :=
  if to ≤ ver then 31 else if to ≠ ver + 1 then 28 else if (add ++ off).all p then (if 64 < (nextItems items add off).length then 20 else 0) else 2

theorem keepOff_succ (items off : List Item) (k : Nat) (hk : k < items.length) : keepOff (items.take (k + 1)) off = if off.any (itemEqB items[k]) then keepOff (items.take k) off else keepOff (items.take k) off ++ [items[k]] := by
  unfold keepOff
  rw [List.take_succ_eq_append_getElem hk, List.filter_append]
  by_cases h : off.any (itemEqB items[k]) = true
  · rw [if_pos h]; simp [h]
  · rw [if_neg h]; simp [h]
theorem keepOff_le (items off : List Item) (k : Nat) : (keepOff (items.take k) off).length ≤ items.length := by
  unfold keepOff
  exact Nat.le_trans (List.length_filter_le _ _) (List.length_take_le' _ _)
theorem addAll_succ (n add : List Item) (k : Nat) (hk : k < add.length) : addAll n (add.take (k + 1)) = addStep (addAll n (add.take k)) add[k] := by
  unfold addAll
  rw [List.take_succ_eq_append_getElem hk, List.foldl_append]; rfl
theorem addStep_le (n : List Item) (x : Item) : (addStep n x).length ≤ n.length + 1 := by
  unfold addStep; split <;> simp
theorem addAll_le (n add : List Item) : (addAll n add).length ≤ n.length + add.length := by
  unfold addAll
  induction add generalizing n with
  | nil => simp
  | cons x add ih => simp only [List.foldl_cons, List.length_cons]; have := ih (addStep n x); have := addStep_le n x; omega
theorem itemCells_snoc (xs : List Item) (x : Item) : itemCells (xs ++ [x]) = itemCells xs ++ x.cells := by simp [itemCells]

/-- a list at block h: its version, its items -/
structure LAt (w : World) (h : Nat) (ver : Int) (items : List Item) : Prop where
  ex : ∃ v, w.cell? ⟨h, 0, none⟩ = some (.int .i64 ver) ∧ w.cell? ⟨h, 1, none⟩ = some v ∧ Sl 5 w v items.length (itemCells items) ∧ v.ownBlock ≠ some h
  f0 : w.frozen? ⟨h, 0, none⟩ = false
  f1 : w.frozen? ⟨h, 1, none⟩ = false

theorem LAt.lt {w : World} {h : Nat} {ver : Int} {items : List Item} (H : LAt w h ver items) : h < w.heap.size := by
  obtain ⟨v, h0, _⟩ := H.ex
  exact World.block_lt_of_cell? _ _ h0

theorem LAt.ofBelow {w w' : World} {h : Nat} {ver : Int} {items : List Item} (H : LAt w h ver items) (hB : Below w.heap.size w w') : LAt w' h ver items := by
  have hl := H.lt
  obtain ⟨v, h0, h1, h2, h3⟩ := H.ex
  exact ⟨⟨v, (hB.cell (p := ⟨h, 0, none⟩) hl).trans h0, (hB.cell (p := ⟨h, 1, none⟩) hl).trans h1, h2.ofBelow hB, h3⟩, (hB.frozen (p := ⟨h, 0, none⟩) hl).trans H.f0, (hB.frozen (p := ⟨h, 1, none⟩) hl).trans H.f1⟩

theorem LAt.store {w : World} {h : Nat} {ver : Int} {items : List Item} (H : LAt w h ver items) {to : Int} {next : List Item} {v : Value} (hs : Sl 5 w v next.length (itemCells next)) (hv : v.ownBlock ≠ some h) :
    LAt ((w.setCell ⟨h, 0, none⟩ (.int .i64 to)).setCell ⟨h, 1, none⟩ v) h to next := by
  obtain ⟨v0, h0, h1, -, -⟩ := H.ex
  refine ⟨⟨v, ?_, ?_, (hs.setCell hv _).setCell hv _, hv⟩, ?_, ?_⟩
  · rw [World.cell?_setCell_other _ _ _ _ (by simp)]
    exact World.cell?_setCell_same _ _ _ h0
  · exact World.cell?_setCell_same _ _ _ (u := v0) (by rw [World.cell?_setCell_other _ _ _ _ (by simp)]; exact h1)
  · rw [World.frozen?_setCell, World.frozen?_setCell]; exact H.f0
  · rw [World.frozen?_setCell, World.frozen?_setCell]; exact H.f1

theorem itemCells_length (xs : List Item) : (itemCells xs).length = xs.length * 5 := flat_len _ 5 Item.cells_len xs

theorem SlG.item_row {w : World} {b o : Nat} {xs : List Item} (hc : ∀ i (h : i < xs.length), ∀ j, j < 5 → w.cell? ⟨b, o + i * 5 + j, none⟩ = some (Item.g xs[i] j)) {k : Nat} (hk : k < xs.length) : Row w b (o + k * 5) xs[k].cells := by
  intro j u hu
  have hj : j < 5 := (List.getElem?_eq_some_iff.1 hu).1
  have := hc k hk j hj
  rw [Item.cells_g] at hu
  simp [List.getElem?_map, List.getElem?_range hj] at hu
  rw [← hu]; exact this

theorem Sl.items {w : World} {v : Value} {xs : List Item} (h : Sl 5 w v xs.length (itemCells xs)) : SlG 5 Item.g w v xs := h.g (by decide) Item.cells_g

/-- what apply answers and leaves -/
def ApplyPost (w : World) (h : Nat) (ver : Int) (items : List Item) (e : Int) (to : Int) (next : List Item) (ed : Ending) (w' : World) : Prop :=
  ed = .returned (.int .i64 e) ∧ Chg (fun b => b = h) w w' ∧ LAt w' h (if e = 0 then to else ver) (if e = 0 then next else items)

set_option maxHeartbeats 4000000 in
set_option maxRecDepth 100000 in
theorem apply_any (h K : Nat) (caps : Array Value) (ver to : Int) (items add off : List Item) (va vo : Value) (p : Item → Bool) (w : World)
    (hL : LAt w h ver items) (hadd : Sl 5 w va add.length (itemCells add)) (hoff : Sl 5 w vo off.length (itemCells off))
    (hlen : items.length ≤ 64) (hsum : (add.length + off.length) * 40 ≤ 140737488355328) (hal : add.length * 40 ≤ 140737488351232) (hv0 : 0 ≤ ver) (hv1 : ver ≤ 1000000) 
    (hK : ∀ args w', (callFunc K args).run Try.prog w' = .ok (.enter K args) w')
    (hp : ∀ x ∈ add ++ off, ∀ w', Below w.heap.size w w' → Calls Try.prog K (#[x.v] ++ caps) w' (RetB (p x) w')) :
    Calls Try.prog 22 #[.pointer (some ⟨h, 0, none⟩), .agg #[.int .i64 to, va, vo], .func (.func K) #[] caps] w (ApplyPost w h ver items (applyE p ver items to add off) to (nextItems items add off)) := by
  obtain ⟨v, h0, h1, h2, h3⟩ := hL.ex
  have hf0 := hL.f0
  have hf1 := hL.f1
  have hh := hL.lt
  obtain ⟨aa, ca, rfl⟩ := hadd.shape
  obtain ⟨ao, co, rfl⟩ := hoff.shape
  obtain ⟨av, cv, rfl⟩ := h2.shape
  have HL := Lib.hid hL; clear hL
  have HP := Lib.hid hp; clear hp
  have H2 := Lib.hid h2; clear h2
  have H3 := Lib.hid h3; clear h3
  have HA := Lib.hid hadd; clear hadd
  have HO := Lib.hid hoff; clear hoff
  have HS := Lib.hid hsum; clear hsum
  have HAL := Lib.hid hal; clear hal
  have HB0 := Lib.hid ((Below.refl w.heap.size w).alloc (Nat.le_refl _) (Obj.cells #[.int .i64 to, .slice aa add.length ca, .slice ao off.length co] 24))
  have hne : h ≠ w.heap.size := by omega
  go_enter Try.func22, Try.ntmps22
  by_cases c1 : to ≤ ver
  · have d1 : decide (to ≤ ver) = true := decide_eq_true c1
    go_wp2_with fail
    go_quiet (fail)
    go_wp2_with fail
    go_ret
    have e : applyE p ver items to add off = 31 := by unfold applyE; rw [if_pos c1]
    rw [e]
    exact ⟨rfl, Chg.ofBelow (below_drewN HB0.out _), by rw [if_neg (by decide), if_neg (by decide)]; exact HL.out.ofBelow (below_drewN HB0.out _)⟩
  have d1 : decide (to ≤ ver) = false := decide_eq_false c1
  by_cases c2 : to = ver + 1
  case neg =>
    have d2 : (to != ver + 1) = true := by rw [bne_iff_ne]; exact c2
    go_wp2_with fail
    go_quiet (fail)
    go_wp2_with fail
    go_quiet (fail)
    go_wp2_with fail
    go_ret
    have e : applyE p ver items to add off = 28 := by unfold applyE; rw [if_neg (by omega), if_pos c2]
    rw [e]
    exact ⟨rfl, Chg.ofBelow (below_drewN (below_drewN HB0.out _) _), by rw [if_neg (by decide), if_neg (by decide)]; exact HL.out.ofBelow (below_drewN (below_drewN HB0.out _) _)⟩
  case pos =>
    have d2 : (to != ver + 1) = false := by rw [c2]; simp
    have C2 := Lib.hid c2; clear c2
    go_wp2_with fail
    go_quiet (fail)
    go_wp2_with fail
    go_quiet (fail)
    clear d1 d2
    go_wp2_with fail
    refine (concat_Item (w.heap.size + 1) 0 2 [(.slice aa add.length ca, add.length, itemCells add), (.slice ao off.length co, off.length, itemCells off)] _ (by simp) (fun i hi => ?_) (fun x hx => ?_) (by simp) (by have := HS.out; simpa using this)).mono ?_
    · match i, hi with
      | 0, _ => go_simp
      | 1, _ => go_simp
    · simp only [List.mem_cons, List.not_mem_nil, or_false] at hx
      rcases hx with rfl | rfl
      · exact ((HA.out.alloc _).drewN _).alloc _
      · exact ((HO.out.alloc _).drewN _).alloc _
    rintro e w1 ⟨vc, rfl, hownc, hB1⟩
    have hBw : Below w.heap.size w w1 := (((below_drewN HB0.out _).alloc (by first | omega | (simp; done) | (simp; omega)) _).trans (hB1.mono (by first | omega | (simp; done) | (simp; omega))))
    obtain ⟨hcc, hff⟩ := bcell hB1
    have b0 : w1.cell? ⟨w.heap.size, 0, none⟩ = some (.int .i64 to) := by rw [hcc _ _ (by first | omega | (simp; done) | (simp; omega))]; go_simp
    have b1 : w1.cell? ⟨w.heap.size, 1, none⟩ = some (.slice aa add.length ca) := by rw [hcc _ _ (by first | omega | (simp; done) | (simp; omega))]; go_simp
    have b2 : w1.cell? ⟨w.heap.size, 2, none⟩ = some (.slice ao off.length co) := by rw [hcc _ _ (by first | omega | (simp; done) | (simp; omega))]; go_simp
    have hs1 : w.heap.size < w1.heap.size := by have := hB1.size; simp at this; omega
    have g0 : w1.cell? ⟨h, 0, none⟩ = some (.int .i64 ver) := (hBw.cell (p := ⟨h, 0, none⟩) hh).trans h0
    have g1 : w1.cell? ⟨h, 1, none⟩ = some (.slice av items.length cv) := (hBw.cell (p := ⟨h, 1, none⟩) hh).trans h1
    have gf0 : w1.frozen? ⟨h, 0, none⟩ = false := (hBw.frozen (p := ⟨h, 0, none⟩) hh).trans hf0
    have gf1 : w1.frozen? ⟨h, 1, none⟩ = false := (hBw.frozen (p := ⟨h, 1, none⟩) hh).trans hf1
    have hslc : Sl 5 w1 vc (add ++ off).length (itemCells (add ++ off)) := by
      have := own_sl hownc (by
        intro u hu
        have hu2 : u ∈ itemCells add ++ itemCells off := by simpa using hu
        exact flat_one Item.cells_one (add ++ off) u (by simpa [itemCells] using hu2))
      have e1 : (List.map (fun x : Value × Nat × List Value => x.2.1) [(.slice aa add.length ca, add.length, itemCells add), (.slice ao off.length co, off.length, itemCells off)]).sum = (add ++ off).length := by simp
      have e2 : (List.map (fun x : Value × Nat × List Value => x.2.2) [(.slice aa add.length ca, add.length, itemCells add), (.slice ao off.length co, off.length, itemCells off)]).flatten = itemCells (add ++ off) := by simp [itemCells]
      rw [e1, e2] at this
      exact this
    have hcn : (add ++ off).length ≤ 140737488355328 := by have := HS.out; simp only [List.length_append]; omega
    clear hcc hff hownc h0 h1 hf0 hf1
    have HB1 := Lib.hid hB1; clear hB1
    have HBW := Lib.hid hBw; clear hBw
    clear HB0
    obtain ⟨acx, ccx, rfl⟩ := hslc.shape
    have hslg := hslc.items; clear hslc
    generalize hall : add ++ off = all at *
    have HALL := Lib.hid hall; clear hall
    obtain ⟨ac, cc, hvc, hlc, hrow⟩ := hslg
    obtain ⟨rfl, -, rfl⟩ := Value.slice.inj hvc
    clear hvc
    have HROW := Lib.hid hrow; clear hrow
    go_wp2_with fail
    go_loopw [38] (fun i wr => ∃ k : Nat, k ≤ all.length ∧ i = .int .i64 k ∧ Below w1.heap.size w1 wr ∧ Hid (∀ x ∈ all.take k, p x = true)) (fun i _ => all.length - (intOf i).toNat)
    case atStart => exact ⟨0, by omega, rfl, Below.refl _ _, by simp [Hid]⟩
    case round =>
      obtain ⟨k, hk, rfl, hB, hyes⟩ := hrel
      have HBR := Lib.hid hB
      have hw1r : w1.heap.size ≤ wr.heap.size := hB.size
      have hwr : w.heap.size ≤ wr.heap.size := by omega
      by_cases hlt : k < all.length
      · obtain ⟨b, o, rfl, hb, hc⟩ : ∃ b o, acx = some ⟨b, o, none⟩ ∧ b < w1.heap.size ∧ ∀ i (h : i < all.length), ∀ j, j < 5 → w1.cell? ⟨b, o + i * 5 + j, none⟩ = some (Item.g all[i] j) := by
          rcases HROW.out with h | h
          · rw [h] at hlt; simp at hlt
          · exact h
        obtain ⟨x0, x1, x2, x3, x4⟩ := item_cells_at ((SlG.item_row hc hlt).keep (hB.block b hb))
        have HC := Lib.hid hc; clear hc
        have hmem := List.getElem_mem hlt
        generalize hxk : all[k] = x at *
        have HX := Lib.hid hxk; clear hxk
        clear hB
        go_wp2_with fail
        refine (HP.out x hmem _ ((HBW.out.trans (HBR.out.mono HBW.out.size)).alloc (by first | omega | (simp; done) | (simp; omega)) _)).mono ?_
        rintro e w2 ⟨rfl, hB2⟩
        have HB2 := Lib.hid (((HBR.out).alloc (by first | omega | (simp; done) | (simp; omega)) _).trans (hB2.mono (by first | omega | (simp; done) | (simp; omega)))); clear hB2
        cases hpx : p x with
        | true =>
          have HPX := Lib.hid hpx; clear hpx
          go_wp2_with fail
          go_roundw
          case rel => exact ⟨k + 1, by omega, by go_num, HB2.out, fun y hy => by
            rw [List.take_succ_eq_append_getElem hlt] at hy
            rcases List.mem_append.1 hy with h | h
            · exact hyes.out y h
            · rw [List.mem_singleton.1 h, HX.out]; exact HPX.out⟩
          case measure => simp [intOf]; omega
        | false =>
          have HPX := Lib.hid hpx; clear hpx
          go_wp2_with fail
          go_ret
          have hB3 := (HBW.out).trans (HB2.out.mono HBW.out.size)
          have e : applyE p ver items to add off = 2 := by
            unfold applyE
            rw [if_neg (by omega), if_neg (by have := C2.out; omega), if_neg]
            rw [HALL.out]
            intro hall
            have := List.all_eq_true.1 hall x hmem
            rw [HPX.out] at this; cases this
          rw [e]
          exact ⟨rfl, Chg.ofBelow hB3, by rw [if_neg (by decide), if_neg (by decide)]; exact HL.out.ofBelow hB3⟩
      · obtain rfl : k = all.length := by omega
        have HALLP := Lib.hid (show all.all p = true from List.all_eq_true.2 (fun x hx => hyes.out x (by rw [List.take_length]; exact hx)))
        clear hyes
        obtain ⟨hcc, hff⟩ := bcell hB
        have k0 : wr.cell? ⟨w.heap.size, 0, none⟩ = some (.int .i64 to) := (hcc _ _ hs1).trans b0
        have k1 : wr.cell? ⟨w.heap.size, 1, none⟩ = some (.slice aa add.length ca) := (hcc _ _ hs1).trans b1
        have k2 : wr.cell? ⟨w.heap.size, 2, none⟩ = some (.slice ao off.length co) := (hcc _ _ hs1).trans b2
        have m0 : wr.cell? ⟨h, 0, none⟩ = some (.int .i64 ver) := (hcc _ _ (by omega)).trans g0
        have m1 : wr.cell? ⟨h, 1, none⟩ = some (.slice av items.length cv) := (hcc _ _ (by omega)).trans g1
        have mf0 : wr.frozen? ⟨h, 0, none⟩ = false := (hff _ _ (by omega)).trans gf0
        have mf1 : wr.frozen? ⟨h, 1, none⟩ = false := (hff _ _ (by omega)).trans gf1
        have HBW2 := Lib.hid (HBW.out.trans (HBR.out.mono HBW.out.size))
        have hs2 : w.heap.size < wr.heap.size := by omega
        clear hcc hff hB HBR b0 b1 b2 g0 g1 gf0 gf1 HB1 HROW hs1 HBW
        have HI := Lib.hid ((H2.out.ofBelow HBW2.out).items)
        clear hw1r hwr
        obtain ⟨w2, rfl⟩ : ∃ w2 : World, w2 = wr := ⟨_, rfl⟩
        go_wp2_with fail
        go_loopw [9, 52] (fun v i wr => ∃ k : Nat, k ≤ items.length ∧ i = .int .i64 k ∧ Below w2.heap.size w2 wr ∧ Hid (wr.ownsRow w2.heap.size 35 5 v (keepOff (items.take k) off).length (itemCells (keepOff (items.take k) off)))) (fun _ i _ => items.length - (intOf i).toNat)
        case atStart => exact ⟨0, by omega, rfl, Below.refl _ _, own_none _ _ _ _⟩
        case round =>
          obtain ⟨k, hk, rfl, hB, hown⟩ := hrel
          have HBR := Lib.hid hB; clear hB
          have hwr : w2.heap.size ≤ wr.heap.size := HBR.out.size
          have HOFF := Lib.hid (((HO.out.ofBelow HBW2.out).items).ofBelow (HBR.out))
          obtain ⟨hcc, hff⟩ := bcell HBR.out
          by_cases hlt : k < items.length
          · obtain ⟨b, o, rfl, hb, hc⟩ : ∃ b o, av = some ⟨b, o, none⟩ ∧ b < w2.heap.size ∧ ∀ i (h : i < items.length), ∀ j, j < 5 → w2.cell? ⟨b, o + i * 5 + j, none⟩ = some (Item.g items[i] j) := by
              obtain ⟨a', c', hv, _, hr⟩ := HI.out
              obtain ⟨rfl, -, -⟩ := Value.slice.inj hv
              rcases hr with h | h
              · rw [h] at hlt; simp at hlt
              · exact h
            obtain ⟨x0, x1, x2, x3, x4⟩ := item_cells_at ((SlG.item_row hc hlt).keep (HBR.out.block b hb))
            have HC := Lib.hid hc; clear hc
            have HK := Lib.hid (keepOff_succ items off k hlt)
            have hle := keepOff_le items off k
            generalize hxk : items[k] = x at *
            have q0 : wr.cell? ⟨w.heap.size, 2, none⟩ = some (.slice ao off.length co) := (hcc _ _ hs2).trans k2
            clear hxk hcc hff
            have hs4 : w.heap.size < wr.heap.size := by omega
            have hs5 : w.heap.size ≠ wr.heap.size := by omega
            go_wp2_with fail
            refine (contains_Item (.slice ao off.length co) x off _ (HOFF.out.ofBelow ((Below.refl _ _).alloc (Nat.le_refl _) _)) (by have := HS.out; omega)).mono ?_
            rintro e w3 ⟨rfl, hB3⟩
            obtain ⟨hcc, hff⟩ := bcell hB3
            have z0 : w3.cell? ⟨wr.heap.size, 0, none⟩ = some (.int .i64 x.card) := by rw [hcc _ _ (by first | omega | (simp; done) | (simp; omega))]; go_simp
            have z1 : w3.cell? ⟨wr.heap.size, 1, none⟩ = some (.int .i64 x.owner) := by rw [hcc _ _ (by first | omega | (simp; done) | (simp; omega))]; go_simp
            have z2 : w3.cell? ⟨wr.heap.size, 2, none⟩ = some (.int .i64 x.id) := by rw [hcc _ _ (by first | omega | (simp; done) | (simp; omega))]; go_simp
            have z3 : w3.cell? ⟨wr.heap.size, 3, none⟩ = some (.int .i64 x.number) := by rw [hcc _ _ (by first | omega | (simp; done) | (simp; omega))]; go_simp
            have z4 : w3.cell? ⟨wr.heap.size, 4, none⟩ = some (.int .i64 x.amount) := by rw [hcc _ _ (by first | omega | (simp; done) | (simp; omega))]; go_simp
            have hs3 : wr.heap.size < w3.heap.size := by have := hB3.size; simp at this; omega
            have HOW := Lib.hid (own_ofBelow (own_alloc hown.out _) hB3)
            have HB3 := Lib.hid ((HBR.out.alloc hwr _).trans (hB3.mono (by first | omega | (simp; done) | (simp; omega))))
            clear hcc hff hB3 hown
            cases hpx : off.any (itemEqB x) with
            | true =>
              rw [hpx] at HK
              go_wp2_with fail
              go_roundw
              case rel => exact ⟨k + 1, by omega, by go_num, HB3.out, by rw [HK.out]; simp only [if_true]; exact HOW.out⟩
              case measure => simp [intOf]; omega
            | false =>
              rw [hpx] at HK
              go_wp2_with (at_builtin; refine wpList_append_sl el_Item _ rfl rfl rfl rfl (own_alloc HOW.out _) (sl_new (n := 1) w3 #[.int .i64 x.card, .int .i64 x.owner, .int .i64 x.id, .int .i64 x.number, .int .i64 x.amount] 35 rfl (by simp [maxLen]) (Item.cells_one x)) (by omega) (by simp only [maxLen]; omega) (by first | omega | (simp; done) | (simp; omega)) ?_; intro v' w4 hown4 hg4 _ _; have HO4 := Lib.hid hown4; have HG4 := Lib.hid hg4; clear hown4 hg4)
              go_roundw
              case rel => exact ⟨k + 1, by omega, by go_num, (HB3.out.alloc (by first | omega | (simp; done) | (simp; omega)) _).grown HG4.out (by first | omega | (simp; done) | (simp; omega)) (fun q hq => (HOW.out.lt q hq).1), by rw [HK.out]; simp only [Bool.false_eq_true, if_false]; rw [List.length_append, itemCells_snoc]; exact HO4.out⟩
              case measure => simp [intOf]; omega
          · obtain rfl : k = items.length := by omega
            rw [List.take_length] at hown
            have HOFF2 := Lib.hid ((HA.out.ofBelow HBW2.out).items)
            have q0 : wr.cell? ⟨w.heap.size, 1, none⟩ = some (.slice aa add.length ca) := (hcc _ _ hs2).trans k1
            clear HOFF
            have r0 : wr.cell? ⟨w.heap.size, 0, none⟩ = some (.int .i64 to) := (hcc _ _ hs2).trans k0
            have n0 : wr.cell? ⟨h, 0, none⟩ = some (.int .i64 ver) := (hcc _ _ (by omega)).trans m0
            have n1 : wr.cell? ⟨h, 1, none⟩ = some (.slice av items.length cv) := (hcc _ _ (by omega)).trans m1
            have nf0 : wr.frozen? ⟨h, 0, none⟩ = false := (hff _ _ (by omega)).trans mf0
            have nf1 : wr.frozen? ⟨h, 1, none⟩ = false := (hff _ _ (by omega)).trans mf1
            have hkl := keepOff_le items off items.length
            rw [List.take_length] at hkl
            generalize hkept : keepOff items off = kept at *
            have HKEPT := Lib.hid hkept
            have HPRE := Lib.hid (fun k => addAll_le kept (add.take k))
            clear hkept hcc hff HI
            go_wp2_with fail
            clear r0 n0 n1 nf0 nf1 q0
            go_loopw [9, 69] (fun v i wq => ∃ k : Nat, k ≤ add.length ∧ i = .int .i64 k ∧ Below w2.heap.size w2 wq ∧ Hid (wq.ownsRow w2.heap.size 35 5 v (addAll kept (add.take k)).length (itemCells (addAll kept (add.take k))))) (fun _ i _ => add.length - (intOf i).toNat)
            case atStart => exact ⟨0, by omega, rfl, HBR.out, hown⟩
            case round =>
              clear hown HBR hwr
              obtain ⟨k, hk, rfl, hB, hown⟩ := hrel
              have HBR := Lib.hid hB; clear hB
              obtain ⟨hcc, hff⟩ := bcell HBR.out
              have hwr : w2.heap.size ≤ wr.heap.size := HBR.out.size
              obtain ⟨an, cn, rfl⟩ := own_shape hown.out
              by_cases hlt : k < add.length
              · obtain ⟨b, o, rfl, hb, hc⟩ : ∃ b o, aa = some ⟨b, o, none⟩ ∧ b < w2.heap.size ∧ ∀ i (h : i < add.length), ∀ j, j < 5 → w2.cell? ⟨b, o + i * 5 + j, none⟩ = some (Item.g add[i] j) := by
                  obtain ⟨a', c', hv, _, hr⟩ := HOFF2.out
                  obtain ⟨rfl, -, -⟩ := Value.slice.inj hv
                  rcases hr with h | h
                  · rw [h] at hlt; simp at hlt
                  · exact h
                obtain ⟨x0, x1, x2, x3, x4⟩ := item_cells_at ((SlG.item_row hc hlt).keep (HBR.out.block b hb))
                have HC := Lib.hid hc; clear hc
                have HK := Lib.hid (addAll_succ kept add k hlt)
                have hle := HPRE.out k
                rw [List.length_take] at hle
                generalize hxk : add[k] = x at *
                generalize hcur : addAll kept (add.take k) = cur at *
                have hcl : cur.length ≤ 64 + add.length := by omega
                have hals := HAL.out
                have hcb : (cur.length + 1) * 40 ≤ 140737488355328 := by omega
                have HCB := Lib.hid hcb
                have hal2 : add.length ≤ 140737488355328 := by omega
                clear hle hals hcb hcl
                clear hxk hcc hff
                go_wp2_with fail
                refine (contains_Item _ x cur _ ((own_sl (own_alloc hown.out _) (flat_one Item.cells_one cur)).items) (by have := HCB.out; omega)).mono ?_
                rintro e w3 ⟨rfl, hB3⟩
                obtain ⟨hcc, hff⟩ := bcell hB3
                have z0 : w3.cell? ⟨wr.heap.size, 0, none⟩ = some (.int .i64 x.card) := by rw [hcc _ _ (by first | omega | (simp; done) | (simp; omega))]; go_simp
                have z1 : w3.cell? ⟨wr.heap.size, 1, none⟩ = some (.int .i64 x.owner) := by rw [hcc _ _ (by first | omega | (simp; done) | (simp; omega))]; go_simp
                have z2 : w3.cell? ⟨wr.heap.size, 2, none⟩ = some (.int .i64 x.id) := by rw [hcc _ _ (by first | omega | (simp; done) | (simp; omega))]; go_simp
                have z3 : w3.cell? ⟨wr.heap.size, 3, none⟩ = some (.int .i64 x.number) := by rw [hcc _ _ (by first | omega | (simp; done) | (simp; omega))]; go_simp
                have z4 : w3.cell? ⟨wr.heap.size, 4, none⟩ = some (.int .i64 x.amount) := by rw [hcc _ _ (by first | omega | (simp; done) | (simp; omega))]; go_simp
                have hs3 : wr.heap.size < w3.heap.size := by have := hB3.size; simp at this; omega
                have HOW := Lib.hid (own_ofBelow (own_alloc hown.out _) hB3)
                have HB3 := Lib.hid ((HBR.out.alloc hwr _).trans (hB3.mono (by first | omega | (simp; done) | (simp; omega))))
                clear hcc hff hB3 hown
                unfold addStep at HK
                cases hpx : cur.any (itemEqB x) with
                | true =>
                  rw [hpx] at HK
                  go_wp2_with fail
                  go_roundw
                  case rel => exact ⟨k + 1, by omega, by go_num, HB3.out, by rw [HK.out]; simp only [if_true]; exact HOW.out⟩
                  case measure => simp [intOf]; omega
                | false =>
                  rw [hpx] at HK
                  go_wp2_with (at_builtin; refine wpList_append_sl el_Item _ rfl rfl rfl rfl (own_alloc HOW.out _) (sl_new (n := 1) w3 #[.int .i64 x.card, .int .i64 x.owner, .int .i64 x.id, .int .i64 x.number, .int .i64 x.amount] 35 rfl (by simp [maxLen]) (Item.cells_one x)) (HCB.out) (by have := HCB.out; simp only [maxLen]; omega) (by first | omega | (simp; done) | (simp; omega)) ?_; intro v' w4 hown4 hg4 _ _; have HO4 := Lib.hid hown4; have HG4 := Lib.hid hg4; clear hown4 hg4)
                  go_roundw
                  case rel => exact ⟨k + 1, by omega, by go_num, (HB3.out.alloc (by first | omega | (simp; done) | (simp; omega)) _).grown HG4.out (by first | omega | (simp; done) | (simp; omega)) (fun q hq => (HOW.out.lt q hq).1), by rw [HK.out]; simp only [Bool.false_eq_true, if_false]; rw [List.length_append, itemCells_snoc]; exact HO4.out⟩
                  case measure => simp [intOf]; omega
              · obtain rfl : k = add.length := by omega
                rw [List.take_length] at hown
                have hnx : addAll kept add = nextItems items add off := by unfold nextItems; rw [HKEPT.out]
                have r0 : wr.cell? ⟨w.heap.size, 0, none⟩ = some (.int .i64 to) := (hcc _ _ hs2).trans k0
                have n0 : wr.cell? ⟨h, 0, none⟩ = some (.int .i64 ver) := (hcc _ _ (by omega)).trans m0
                have n1 : wr.cell? ⟨h, 1, none⟩ = some (.slice av items.length cv) := (hcc _ _ (by omega)).trans m1
                have nf0 : wr.frozen? ⟨h, 0, none⟩ = false := (hff _ _ (by omega)).trans mf0
                have nf1 : wr.frozen? ⟨h, 1, none⟩ = false := (hff _ _ (by omega)).trans mf1
                have HBA := Lib.hid (HBW2.out.trans (HBR.out.mono HBW2.out.size))
                have hle := HPRE.out add.length
                rw [List.take_length] at hle
                have hals := HAL.out
                have hnl : (nextItems items add off).length ≤ 140737488355328 := by rw [← hnx]; omega
                have hE : ∀ b : Bool, decide (64 < (nextItems items add off).length) = b → applyE p ver items to add off = if b then 20 else 0 := by
                  intro b hb
                  unfold applyE
                  rw [if_neg (by omega), if_neg (by have := C2.out; omega), if_pos (by rw [HALL.out]; exact HALLP.out)]
                  subst hb
                  by_cases h64 : 64 < (nextItems items add off).length
                  · rw [if_pos h64]; simp [h64]
                  · rw [if_neg h64]; simp [h64]
                rw [hnx] at hown
                have HE := Lib.hid hE
                have hal2 : add.length ≤ 140737488355328 := by omega
                clear hE hcc hff k0 k1 k2 m0 m1 mf0 mf1 hle hals
                rw [List.take_length, hnx]
                clear hnx
                generalize hN : nextItems items add off = nx at *
                have HN := Lib.hid hN; clear hN
                by_cases h64 : 64 < nx.length
                · go_wp2_with fail
                  go_ret
                  rw [HE.out true (decide_eq_true h64)]
                  exact ⟨rfl, Chg.ofBelow HBA.out, by rw [if_neg (by decide), if_neg (by decide)]; exact HL.out.ofBelow HBA.out⟩
                · go_wp2_with fail
                  go_ret
                  rw [HE.out false (decide_eq_false h64)]
                  exact ⟨rfl, ((Chg.ofBelow (F := fun b => b = h) HBA.out).setCell (p := ⟨h, 0, none⟩) rfl _).setCell (p := ⟨h, 1, none⟩) rfl _, by
                    simp only [Bool.false_eq_true, if_false, if_true]
                    exact (HL.out.ofBelow HBA.out).store (own_sl hown.out (flat_one Item.cells_one nx)) (fun e => by have := hown.out.lt h e; omega)⟩
end Go.Proofs.Ytpjkehfmdmmfeaa
