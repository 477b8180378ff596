/- Contracts of generic functions of the library at the element types of this seat: printed by wip/gen/gen.py. -/
import Derived.Test.YtlbfeoobeleobaaBase
namespace Go.Proofs.Ytlbfeoobeleobaa
open Go.RowKit
set_option linter.unusedVariables false
set_option linter.unusedSimpArgs false

theorem el_byte : El Try.prog 27 5 1 1 := El.mk' Try.underlying27 (by kernel_rfl) (by decide)
theorem el_Product : El Try.prog 74 24 14 112 := El.mk' Try.underlying74 (by kernel_rfl) (by decide)
theorem el_Elem : El Try.prog 64 67 3 56 := El.mk' Try.underlying64 (by kernel_rfl) (by decide)
set_option maxHeartbeats 400000 in
theorem clone_byte (v : Value) (n : Nat) (cs : List Value) (w : World) (h : Sl 1 w v n cs) (hb : n * 1 ≤ 140737488355328) :
    Calls Try.prog 63 #[v] w (NewSl 5 1 n cs w) := by
  have H0 := Lib.hid h; have HB := Lib.hid hb; clear hb
  obtain ⟨h1, a, c, rfl, h2, h3, h4, h5⟩ := h; clear h3 h4 h1
  have he := fun (w : World) (a : Option Addr) (n c : Nat) => Lib.run_eql_slice_nil (P := Try.prog) w 27 5 a n c 0 0 Try.underlying27
  rcases h5 with ⟨rfl, rfl, rfl⟩ | ⟨b, o, s, rfl, h5, h6⟩
  · go_enter Try.func63, Try.ntmps63
    go_wp2
    go_ret
    exact ⟨_, rfl, by
      have := H0.out.len
      obtain rfl : cs = [] := List.eq_nil_of_length_eq_zero (by simpa using this)
      exact own_none _ _ _ _, Below.refl _ _⟩
  · go_enter Try.func63, Try.ntmps63
    go_wp2_with (at_builtin; refine wpList_append_sl el_byte _ rfl rfl rfl rfl (own_new 5 1 (Nat.le_refl _)) (H0.out.alloc _) (by have := HB.out; omega) (by have := HB.out; simp only [maxLen]; omega) (by simp) ?_; intro v' w1 hown hg _ _)
    go_ret
    refine ⟨_, rfl, by simpa using hown, ((Below.refl _ _).alloc (Nat.le_refl _) _).grown hg (by simp) (fun k hk => ?_)⟩
    have : w.heap.size = k := Option.some.inj hk
    omega

set_option maxHeartbeats 400000 in
theorem clone_Elem (v : Value) (n : Nat) (cs : List Value) (w : World) (h : Sl 3 w v n cs) (hb : n * 56 ≤ 140737488355328) :
    Calls Try.prog 69 #[v] w (NewSl 67 3 n cs w) := by
  have H0 := Lib.hid h; have HB := Lib.hid hb; clear hb
  obtain ⟨h1, a, c, rfl, h2, h3, h4, h5⟩ := h; clear h3 h4 h1
  have he := fun (w : World) (a : Option Addr) (n c : Nat) => Lib.run_eql_slice_nil (P := Try.prog) w 64 67 a n c 0 0 Try.underlying64
  rcases h5 with ⟨rfl, rfl, rfl⟩ | ⟨b, o, s, rfl, h5, h6⟩
  · go_enter Try.func69, Try.ntmps69
    go_wp2
    go_ret
    exact ⟨_, rfl, by
      have := H0.out.len
      obtain rfl : cs = [] := List.eq_nil_of_length_eq_zero (by simpa using this)
      exact own_none _ _ _ _, Below.refl _ _⟩
  · go_enter Try.func69, Try.ntmps69
    go_wp2_with (at_builtin; refine wpList_append_sl el_Elem _ rfl rfl rfl rfl (own_new 67 3 (Nat.le_refl _)) (H0.out.alloc _) (by have := HB.out; omega) (by have := HB.out; simp only [maxLen]; omega) (by simp) ?_; intro v' w1 hown hg _ _)
    go_ret
    refine ⟨_, rfl, by simpa using hown, ((Below.refl _ _).alloc (Nat.le_refl _) _).grown hg (by simp) (fun k hk => ?_)⟩
    have : w.heap.size = k := Option.some.inj hk
    omega

set_option maxHeartbeats 1000000 in
theorem indexFunc_Product {α : Type} (g : α → Nat → Value) (v : Value) (K : Nat) (caps : Array Value) (xs : List α) (p : α → Bool) (w : World) (hsl : SlG 14 g w v xs)
    (hn : xs.length ≤ 140737488355328)
    (hK : ∀ args w', (callFunc K args).run Try.prog w' = .ok (.enter K args) w')
    (hp : ∀ x ∈ xs, ∀ w', Below w.heap.size w w' → Calls Try.prog K (#[.agg #[g x 0, g x 1, g x 2, g x 3, g x 4, g x 5, g x 6, g x 7, g x 8, g x 9, g x 10, g x 11, g x 12, g x 13]] ++ caps) w' (RetB (p x) w')) :
    Calls Try.prog 59 #[v, .func (.func K) #[] caps] w (RetI (idxOf p xs) w) := by
  obtain ⟨a, c, rfl, hlc, hc⟩ := hsl
  have HP := Lib.hid hp; clear hp
  rcases hc with rfl | ⟨b, o, rfl, hb, hc⟩
  · go_enter Try.func59, Try.ntmps59
    go_wp2_with fail
    go_loopw [8] (fun i wr => i = .int .i64 0 ∧ Below w.heap.size w wr) (fun _ _ => 0)
    case atStart => exact ⟨rfl, Below.refl _ _⟩
    case round =>
      obtain ⟨rfl, hB⟩ := hrel
      go_wp2_with fail
      go_ret
      exact ⟨rfl, hB⟩
  · go_enter Try.func59, Try.ntmps59
    go_wp2_with fail
    go_loopw [8] (fun i wr => ∃ k : Nat, k ≤ xs.length ∧ i = .int .i64 k ∧ Below w.heap.size w wr ∧ Hid (∀ x ∈ xs.take k, p x = false)) (fun i _ => xs.length - (intOf i).toNat)
    case atStart => exact ⟨0, by omega, rfl, Below.refl _ _, by simp [Hid]⟩
    case round =>
      obtain ⟨k, hk, rfl, hB, hno⟩ := hrel
      by_cases hlt : k < xs.length
      ·
        have c0 : wr.cell? ⟨b, o + k * 14, none⟩ = some (g xs[k] 0) := by
          have := hc k hlt 0 (by omega); rw [← hB.cell (p := ⟨b, o + k * 14 + 0, none⟩) hb] at this; simpa using this
        have c1 : wr.cell? ⟨b, o + k * 14 + 1, none⟩ = some (g xs[k] 1) := by
          have := hc k hlt 1 (by omega); rw [← hB.cell (p := ⟨b, o + k * 14 + 1, none⟩) hb] at this; exact this
        have c2 : wr.cell? ⟨b, o + k * 14 + 2, none⟩ = some (g xs[k] 2) := by
          have := hc k hlt 2 (by omega); rw [← hB.cell (p := ⟨b, o + k * 14 + 2, none⟩) hb] at this; exact this
        have c3 : wr.cell? ⟨b, o + k * 14 + 3, none⟩ = some (g xs[k] 3) := by
          have := hc k hlt 3 (by omega); rw [← hB.cell (p := ⟨b, o + k * 14 + 3, none⟩) hb] at this; exact this
        have c4 : wr.cell? ⟨b, o + k * 14 + 4, none⟩ = some (g xs[k] 4) := by
          have := hc k hlt 4 (by omega); rw [← hB.cell (p := ⟨b, o + k * 14 + 4, none⟩) hb] at this; exact this
        have c5 : wr.cell? ⟨b, o + k * 14 + 5, none⟩ = some (g xs[k] 5) := by
          have := hc k hlt 5 (by omega); rw [← hB.cell (p := ⟨b, o + k * 14 + 5, none⟩) hb] at this; exact this
        have c6 : wr.cell? ⟨b, o + k * 14 + 6, none⟩ = some (g xs[k] 6) := by
          have := hc k hlt 6 (by omega); rw [← hB.cell (p := ⟨b, o + k * 14 + 6, none⟩) hb] at this; exact this
        have c7 : wr.cell? ⟨b, o + k * 14 + 7, none⟩ = some (g xs[k] 7) := by
          have := hc k hlt 7 (by omega); rw [← hB.cell (p := ⟨b, o + k * 14 + 7, none⟩) hb] at this; exact this
        have c8 : wr.cell? ⟨b, o + k * 14 + 8, none⟩ = some (g xs[k] 8) := by
          have := hc k hlt 8 (by omega); rw [← hB.cell (p := ⟨b, o + k * 14 + 8, none⟩) hb] at this; exact this
        have c9 : wr.cell? ⟨b, o + k * 14 + 9, none⟩ = some (g xs[k] 9) := by
          have := hc k hlt 9 (by omega); rw [← hB.cell (p := ⟨b, o + k * 14 + 9, none⟩) hb] at this; exact this
        have c10 : wr.cell? ⟨b, o + k * 14 + 10, none⟩ = some (g xs[k] 10) := by
          have := hc k hlt 10 (by omega); rw [← hB.cell (p := ⟨b, o + k * 14 + 10, none⟩) hb] at this; exact this
        have c11 : wr.cell? ⟨b, o + k * 14 + 11, none⟩ = some (g xs[k] 11) := by
          have := hc k hlt 11 (by omega); rw [← hB.cell (p := ⟨b, o + k * 14 + 11, none⟩) hb] at this; exact this
        have c12 : wr.cell? ⟨b, o + k * 14 + 12, none⟩ = some (g xs[k] 12) := by
          have := hc k hlt 12 (by omega); rw [← hB.cell (p := ⟨b, o + k * 14 + 12, none⟩) hb] at this; exact this
        have c13 : wr.cell? ⟨b, o + k * 14 + 13, none⟩ = some (g xs[k] 13) := by
          have := hc k hlt 13 (by omega); rw [← hB.cell (p := ⟨b, o + k * 14 + 13, none⟩) hb] at this; exact this
        have HP1 := Lib.hid (HP.out xs[k] (List.getElem_mem hlt) wr hB); clear HP
        have HC := Lib.hid hc; clear hc
        have HN := Lib.hid hn
        go_wp2_with fail
        refine (HP1.out).mono ?_
        rintro e w' ⟨rfl, hB'⟩
        cases hpk : p xs[k] with
        | false =>
          have HX := Lib.hid hpk; clear hpk
          go_wp2_with fail
          go_roundw
          case rel => exact ⟨k + 1, by omega, by go_num, hB.trans (hB'.mono hB.size), fun x hx => by
            rw [List.take_succ_eq_append_getElem hlt] at hx
            rcases List.mem_append.1 hx with h | h
            · exact hno.out x h
            · rw [List.mem_singleton.1 h]; exact HX.out⟩
          case measure => simp [intOf]; omega
        | true =>
          have HX := Lib.hid hpk; clear hpk
          go_wp2_with fail
          go_ret
          exact ⟨by rw [idxOf_some hlt HX.out hno.out]; rfl, hB.trans (hB'.mono hB.size)⟩
      · obtain rfl : k = xs.length := by omega
        go_wp2_with fail
        go_ret
        exact ⟨by rw [idxOf_none (by have := hno.out; rwa [List.take_length] at this)]; rfl, hB⟩

set_option maxHeartbeats 400000 in
theorem containsFunc_Product {α : Type} (g : α → Nat → Value) (v : Value) (K : Nat) (caps : Array Value) (xs : List α) (p : α → Bool) (w : World) (hsl : SlG 14 g w v xs)
    (hn : xs.length ≤ 140737488355328)
    (hK : ∀ args w', (callFunc K args).run Try.prog w' = .ok (.enter K args) w')
    (hp : ∀ x ∈ xs, ∀ w', Below w.heap.size w w' → Calls Try.prog K (#[.agg #[g x 0, g x 1, g x 2, g x 3, g x 4, g x 5, g x 6, g x 7, g x 8, g x 9, g x 10, g x 11, g x 12, g x 13]] ++ caps) w' (RetB (p x) w')) :
    Calls Try.prog 36 #[v, .func (.func K) #[] caps] w (RetB (xs.any p) w) := by
  have HI := Lib.hid (indexFunc_Product g v K caps xs p w hsl hn hK hp)
  clear hsl hn hK hp
  go_enter Try.func36, Try.ntmps36
  go_wp2_with fail
  refine (HI.out).mono ?_
  rintro e w' ⟨rfl, hB⟩
  cases hx : xs.any p with
  | true =>
    have h0 : 0 ≤ idxOf p xs := (idxOf_nonneg p xs).2 hx
    have HX := Lib.hid hx; clear hx
    go_wp2_with fail
    go_ret
    exact ⟨by rw [HX.out]; first | rfl | (simp [h0]; done) | (simp; omega), hB⟩
  | false =>
    have h0 : idxOf p xs < 0 := by
      rcases Int.lt_or_le (idxOf p xs) 0 with h | h
      · exact h
      · rw [(idxOf_nonneg p xs).1 h] at hx; cases hx
    have HX := Lib.hid hx; clear hx
    go_wp2_with fail
    go_ret
    exact ⟨by rw [HX.out]; first | rfl | (simp [h0]; done) | (simp; omega), hB⟩

set_option maxHeartbeats 1000000 in
theorem indexFunc_Elem {α : Type} (g : α → Nat → Value) (v : Value) (K : Nat) (caps : Array Value) (xs : List α) (p : α → Bool) (w : World) (hsl : SlG 3 g w v xs)
    (hn : xs.length ≤ 140737488355328)
    (hK : ∀ args w', (callFunc K args).run Try.prog w' = .ok (.enter K args) w')
    (hp : ∀ x ∈ xs, ∀ w', Below w.heap.size w w' → Calls Try.prog K (#[.agg #[g x 0, g x 1, g x 2]] ++ caps) w' (RetB (p x) w')) :
    Calls Try.prog 70 #[v, .func (.func K) #[] caps] w (RetI (idxOf p xs) w) := by
  obtain ⟨a, c, rfl, hlc, hc⟩ := hsl
  have HP := Lib.hid hp; clear hp
  rcases hc with rfl | ⟨b, o, rfl, hb, hc⟩
  · go_enter Try.func70, Try.ntmps70
    go_wp2_with fail
    go_loopw [8] (fun i wr => i = .int .i64 0 ∧ Below w.heap.size w wr) (fun _ _ => 0)
    case atStart => exact ⟨rfl, Below.refl _ _⟩
    case round =>
      obtain ⟨rfl, hB⟩ := hrel
      go_wp2_with fail
      go_ret
      exact ⟨rfl, hB⟩
  · go_enter Try.func70, Try.ntmps70
    go_wp2_with fail
    go_loopw [8] (fun i wr => ∃ k : Nat, k ≤ xs.length ∧ i = .int .i64 k ∧ Below w.heap.size w wr ∧ Hid (∀ x ∈ xs.take k, p x = false)) (fun i _ => xs.length - (intOf i).toNat)
    case atStart => exact ⟨0, by omega, rfl, Below.refl _ _, by simp [Hid]⟩
    case round =>
      obtain ⟨k, hk, rfl, hB, hno⟩ := hrel
      by_cases hlt : k < xs.length
      ·
        have c0 : wr.cell? ⟨b, o + k * 3, none⟩ = some (g xs[k] 0) := by
          have := hc k hlt 0 (by omega); rw [← hB.cell (p := ⟨b, o + k * 3 + 0, none⟩) hb] at this; simpa using this
        have c1 : wr.cell? ⟨b, o + k * 3 + 1, none⟩ = some (g xs[k] 1) := by
          have := hc k hlt 1 (by omega); rw [← hB.cell (p := ⟨b, o + k * 3 + 1, none⟩) hb] at this; exact this
        have c2 : wr.cell? ⟨b, o + k * 3 + 2, none⟩ = some (g xs[k] 2) := by
          have := hc k hlt 2 (by omega); rw [← hB.cell (p := ⟨b, o + k * 3 + 2, none⟩) hb] at this; exact this
        have HP1 := Lib.hid (HP.out xs[k] (List.getElem_mem hlt) wr hB); clear HP
        have HC := Lib.hid hc; clear hc
        have HN := Lib.hid hn
        go_wp2_with fail
        refine (HP1.out).mono ?_
        rintro e w' ⟨rfl, hB'⟩
        cases hpk : p xs[k] with
        | false =>
          have HX := Lib.hid hpk; clear hpk
          go_wp2_with fail
          go_roundw
          case rel => exact ⟨k + 1, by omega, by go_num, hB.trans (hB'.mono hB.size), fun x hx => by
            rw [List.take_succ_eq_append_getElem hlt] at hx
            rcases List.mem_append.1 hx with h | h
            · exact hno.out x h
            · rw [List.mem_singleton.1 h]; exact HX.out⟩
          case measure => simp [intOf]; omega
        | true =>
          have HX := Lib.hid hpk; clear hpk
          go_wp2_with fail
          go_ret
          exact ⟨by rw [idxOf_some hlt HX.out hno.out]; rfl, hB.trans (hB'.mono hB.size)⟩
      · obtain rfl : k = xs.length := by omega
        go_wp2_with fail
        go_ret
        exact ⟨by rw [idxOf_none (by have := hno.out; rwa [List.take_length] at this)]; rfl, hB⟩

set_option maxHeartbeats 400000 in
theorem containsFunc_Elem {α : Type} (g : α → Nat → Value) (v : Value) (K : Nat) (caps : Array Value) (xs : List α) (p : α → Bool) (w : World) (hsl : SlG 3 g w v xs)
    (hn : xs.length ≤ 140737488355328)
    (hK : ∀ args w', (callFunc K args).run Try.prog w' = .ok (.enter K args) w')
    (hp : ∀ x ∈ xs, ∀ w', Below w.heap.size w w' → Calls Try.prog K (#[.agg #[g x 0, g x 1, g x 2]] ++ caps) w' (RetB (p x) w')) :
    Calls Try.prog 67 #[v, .func (.func K) #[] caps] w (RetB (xs.any p) w) := by
  have HI := Lib.hid (indexFunc_Elem g v K caps xs p w hsl hn hK hp)
  clear hsl hn hK hp
  go_enter Try.func67, Try.ntmps67
  go_wp2_with fail
  refine (HI.out).mono ?_
  rintro e w' ⟨rfl, hB⟩
  cases hx : xs.any p with
  | true =>
    have h0 : 0 ≤ idxOf p xs := (idxOf_nonneg p xs).2 hx
    have HX := Lib.hid hx; clear hx
    go_wp2_with fail
    go_ret
    exact ⟨by rw [HX.out]; first | rfl | (simp [h0]; done) | (simp; omega), hB⟩
  | false =>
    have h0 : idxOf p xs < 0 := by
      rcases Int.lt_or_le (idxOf p xs) 0 with h | h
      · exact h
      · rw [(idxOf_nonneg p xs).1 h] at hx; cases hx
    have HX := Lib.hid hx; clear hx
    go_wp2_with fail
    go_ret
    exact ⟨by rw [HX.out]; first | rfl | (simp [h0]; done) | (simp; omega), hB⟩

set_option maxHeartbeats 1000000 in
theorem indexFunc_byte {α : Type} (g : α → Nat → Value) (v : Value) (K : Nat) (caps : Array Value) (xs : List α) (p : α → Bool) (w : World) (hsl : SlG 1 g w v xs)
    (hn : xs.length ≤ 140737488355328)
    (hK : ∀ args w', (callFunc K args).run Try.prog w' = .ok (.enter K args) w')
    (hp : ∀ x ∈ xs, ∀ w', Below w.heap.size w w' → Calls Try.prog K (#[g x 0] ++ caps) w' (RetB (p x) w')) :
    Calls Try.prog 62 #[v, .func (.func K) #[] caps] w (RetI (idxOf p xs) w) := by
  obtain ⟨a, c, rfl, hlc, hc⟩ := hsl
  have HP := Lib.hid hp; clear hp
  rcases hc with rfl | ⟨b, o, rfl, hb, hc⟩
  · go_enter Try.func62, Try.ntmps62
    go_wp2_with fail
    go_loopw [8] (fun i wr => i = .int .i64 0 ∧ Below w.heap.size w wr) (fun _ _ => 0)
    case atStart => exact ⟨rfl, Below.refl _ _⟩
    case round =>
      obtain ⟨rfl, hB⟩ := hrel
      go_wp2_with fail
      go_ret
      exact ⟨rfl, hB⟩
  · go_enter Try.func62, Try.ntmps62
    go_wp2_with fail
    go_loopw [8] (fun i wr => ∃ k : Nat, k ≤ xs.length ∧ i = .int .i64 k ∧ Below w.heap.size w wr ∧ Hid (∀ x ∈ xs.take k, p x = false)) (fun i _ => xs.length - (intOf i).toNat)
    case atStart => exact ⟨0, by omega, rfl, Below.refl _ _, by simp [Hid]⟩
    case round =>
      obtain ⟨k, hk, rfl, hB, hno⟩ := hrel
      by_cases hlt : k < xs.length
      ·
        have c0 : wr.cell? ⟨b, o + k, none⟩ = some (g xs[k] 0) := by
          have := hc k hlt 0 (by omega); rw [← hB.cell (p := ⟨b, o + k * 1 + 0, none⟩) hb] at this; simpa using this
        have HP1 := Lib.hid (HP.out xs[k] (List.getElem_mem hlt) wr hB); clear HP
        have HC := Lib.hid hc; clear hc
        have HN := Lib.hid hn
        go_wp2_with fail
        refine (HP1.out).mono ?_
        rintro e w' ⟨rfl, hB'⟩
        cases hpk : p xs[k] with
        | false =>
          have HX := Lib.hid hpk; clear hpk
          go_wp2_with fail
          go_roundw
          case rel => exact ⟨k + 1, by omega, by go_num, hB.trans (hB'.mono hB.size), fun x hx => by
            rw [List.take_succ_eq_append_getElem hlt] at hx
            rcases List.mem_append.1 hx with h | h
            · exact hno.out x h
            · rw [List.mem_singleton.1 h]; exact HX.out⟩
          case measure => simp [intOf]; omega
        | true =>
          have HX := Lib.hid hpk; clear hpk
          go_wp2_with fail
          go_ret
          exact ⟨by rw [idxOf_some hlt HX.out hno.out]; rfl, hB.trans (hB'.mono hB.size)⟩
      · obtain rfl : k = xs.length := by omega
        go_wp2_with fail
        go_ret
        exact ⟨by rw [idxOf_none (by have := hno.out; rwa [List.take_length] at this)]; rfl, hB⟩

set_option maxHeartbeats 400000 in
theorem containsFunc_byte {α : Type} (g : α → Nat → Value) (v : Value) (K : Nat) (caps : Array Value) (xs : List α) (p : α → Bool) (w : World) (hsl : SlG 1 g w v xs)
    (hn : xs.length ≤ 140737488355328)
    (hK : ∀ args w', (callFunc K args).run Try.prog w' = .ok (.enter K args) w')
    (hp : ∀ x ∈ xs, ∀ w', Below w.heap.size w w' → Calls Try.prog K (#[g x 0] ++ caps) w' (RetB (p x) w')) :
    Calls Try.prog 46 #[v, .func (.func K) #[] caps] w (RetB (xs.any p) w) := by
  have HI := Lib.hid (indexFunc_byte g v K caps xs p w hsl hn hK hp)
  clear hsl hn hK hp
  go_enter Try.func46, Try.ntmps46
  go_wp2_with fail
  refine (HI.out).mono ?_
  rintro e w' ⟨rfl, hB⟩
  cases hx : xs.any p with
  | true =>
    have h0 : 0 ≤ idxOf p xs := (idxOf_nonneg p xs).2 hx
    have HX := Lib.hid hx; clear hx
    go_wp2_with fail
    go_ret
    exact ⟨by rw [HX.out]; first | rfl | (simp [h0]; done) | (simp; omega), hB⟩
  | false =>
    have h0 : idxOf p xs < 0 := by
      rcases Int.lt_or_le (idxOf p xs) 0 with h | h
      · exact h
      · rw [(idxOf_nonneg p xs).1 h] at hx; cases hx
    have HX := Lib.hid hx; clear hx
    go_wp2_with fail
    go_ret
    exact ⟨by rw [HX.out]; first | rfl | (simp [h0]; done) | (simp; omega), hB⟩

set_option maxHeartbeats 400000 in
theorem grow_byte (n : Nat) (w : World) (hb : n * 1 ≤ 140737488355328) (hm : n ≤ maxLen) :
    Calls Try.prog 66 #[.slice none 0 0, .int .i64 n] w (NewSl 5 1 0 [] w) := by
  have hi : n ≤ 9223372036854775807 := by simp only [maxLen] at hm; omega
  have HB := Lib.hid hb; have HM := Lib.hid hm; clear hb hm
  by_cases h0 : 0 < n
  · go_enter Try.func66, Try.ntmps66
    go_wp2_with (at_builtin; refine wpList_append_zeros el_byte Try.underlying3 _ rfl rfl rfl rfl h0 (HB.out) (HM.out) ?_; intro c cur hc1 hc2 hc3; have HC2 := Lib.hid hc2; have HC3 := Lib.hid hc3; clear hc2 hc3)
    go_ret
    exact ⟨_, rfl, World.ownsRow_made _ _ _ (Nat.le_refl _) HC2.out HC3.out, ((Below.refl _ _).drew).alloc (Nat.le_refl _) _⟩
  · obtain rfl : n = 0 := by omega
    go_enter Try.func66, Try.ntmps66
    go_wp2_with fail
    go_ret
    exact ⟨_, rfl, own_none _ _ _ _, Below.refl _ _⟩

set_option maxHeartbeats 1000000 in
/-- 'slices.Concat(xs, ys, ..)': vs the slices, their lengths, their cells -/
theorem concat_byte (b o c : Nat) (vs : List (Value × Nat × List Value)) (w : World) (hb : b < w.heap.size)
    (hc : ∀ i (h : i < vs.length), w.cell? ⟨b, o + i, none⟩ = some vs[i].1) (hs : ∀ x ∈ vs, Sl 1 w x.1 x.2.1 x.2.2) (hl : vs.length ≤ 1048576)
    (hsum : (vs.map (·.2.1)).sum * 1 ≤ 140737488355328) :
    Calls Try.prog 51 #[.slice (some ⟨b, o, none⟩) vs.length c] w (NewSl 5 1 (vs.map (·.2.1)).sum (vs.map (·.2.2)).flatten w) := by
  have hpre : ∀ k, ((vs.take k).map (·.2.1)).sum ≤ (vs.map (·.2.1)).sum := sum_take_le vs
  have HS := Lib.hid hs; have HM := Lib.hid hsum; have HC := Lib.hid hc; have HP := Lib.hid hpre; clear hs hsum hc hpre
  go_enter Try.func51, Try.ntmps51
  go_wp2_with fail
  go_loop [3, 11] (fun t i => ∃ k : Nat, k ≤ vs.length ∧ i = .int .i64 k ∧ t = .int .i64 (((vs.take k).map (·.2.1)).sum : Nat)) (fun _ i => vs.length - (intOf i).toNat)
  case atStart => exact ⟨0, by omega, rfl, rfl⟩
  case round =>
    obtain ⟨k, hk, rfl, rfl⟩ := hrel
    by_cases hlt : k < vs.length
    · have hck := HC.out k hlt
      obtain ⟨_, a, c', hv, _, hm1, _, _⟩ := HS.out vs[k] (List.getElem_mem hlt)
      rw [hv] at hck
      have hsum1 := sum_take_succ vs k hlt
      have hle := HP.out (k + 1)
      have hbound : ((vs.take k).map (·.2.1)).sum + vs[k].2.1 ≤ 9223372036854775807 := by have := HM.out; omega
      generalize hS : ((vs.take k).map (·.2.1)).sum = S at hbound hsum1 ⊢
      have HX := Lib.hid hsum1
      clear hsum1 hS hv hm1 hle
      go_wp2_with fail
      go_round
      case rel => exact ⟨k + 1, by omega, by go_num, by rw [HX.out]; go_num⟩
      case measure => simp [intOf]; omega
    · obtain rfl : k = vs.length := by omega
      rw [List.take_length]
      have hpl : (vs.map (·.2.1)).sum ≤ 140737488355328 := by have := HM.out; omega
      generalize hS : (vs.map (·.2.1)).sum = S at *
      have HG := Lib.hid hS; clear hS
      go_wp2_with fail
      refine (grow_byte S w (HM.out) (by simp only [maxLen]; omega)).mono ?_
      rintro e w1 ⟨v1, rfl, hown1, hB1⟩
      have HO := Lib.hid hown1; have HB1 := Lib.hid hB1; clear hown1 hB1
      go_wp2_with fail
      go_loopw [6, 27] (fun t i wr => ∃ k : Nat, k ≤ vs.length ∧ i = .int .i64 k ∧ Below w.heap.size w wr ∧ wr.ownsRow w.heap.size 5 1 t ((vs.take k).map (·.2.1)).sum ((vs.take k).map (·.2.2)).flatten) (fun _ i _ => vs.length - (intOf i).toNat)
      case atStart => exact ⟨0, by omega, rfl, HB1.out, by simpa using HO.out⟩
      case round =>
        obtain ⟨k, hk, rfl, hBr, hownr⟩ := hrel
        by_cases hlt : k < vs.length
        · have hck := HC.out k hlt
          rw [← hBr.cell (p := ⟨b, o + k, none⟩) hb] at hck
          have hsk := (HS.out vs[k] (List.getElem_mem hlt)).ofBelow hBr
          have hsum1 := sum_take_succ vs k hlt
          have hfl1 := flat_take_succ vs k hlt
          have hle := HP.out (k + 1)
          rw [hsum1] at hle
          have hbd : (((vs.take k).map (·.2.1)).sum + vs[k].2.1) * 1 ≤ 140737488355328 := by
            have := HM.out; omega
          have HOW := Lib.hid hownr; have HSK := Lib.hid hsk; have HX := Lib.hid hsum1; have HY := Lib.hid hfl1; have HBD := Lib.hid hbd
          clear hownr hsk hsum1 hfl1 hle hbd
          go_wp2_with (at_builtin; refine wpList_append_sl el_byte _ rfl rfl rfl rfl (HOW.out) (HSK.out) (HBD.out) (by have := HBD.out; simp only [maxLen]; omega) (by exact hBr.size) ?_; intro v' w2 hown2 hg2 _ _; have HO2 := Lib.hid hown2; have HG2 := Lib.hid hg2; clear hown2 hg2)
          go_roundw
          case rel => exact ⟨k + 1, by omega, by go_num, hBr.grown HG2.out hBr.size (fun q hq => (HOW.out.lt q hq).1), by rw [HX.out, HY.out]; exact HO2.out⟩
          case measure => simp [intOf]; omega
        · obtain rfl : k = vs.length := by omega
          rw [List.take_length, HG.out] at hownr
          have HOW := Lib.hid hownr; clear hownr
          go_wp2_with fail
          go_ret
          exact ⟨_, rfl, by rw [HG.out]; exact HOW.out, hBr⟩

end Go.Proofs.Ytlbfeoobeleobaa
