/- tlv.Int, the reference's Int, and slices.Equal of bytes. -/
import Derived.Test.YtlbfeoobeleobaaGet
namespace Go.Proofs.Ytlbfeoobeleobaa
open Go.RowKit
set_option linter.unusedVariables false
set_option linter.unusedSimpArgs false

def intP (bs : List Int) : Int × Int := if 7 < bs.length then (0, 11) else match bs with
  | 0 :: _ => (0, 12)
  | _ => (numOf bs, 0)

theorem or_byte (n x : Int) (h0 : 0 ≤ n) (h1 : n < 2 ^ 48) (x0 : 0 ≤ x) (x1 : x < 256) : bits BinOp.or IntKind.i64 (n * 256) x = n * 256 + x :=
  bits_join .i64 62 (by decide) (fun n a b => by rw [IntKind.wrap_i64]; omega) 8 (n * 256) x (by omega) (by omega) (by omega) x0 (by omega) (by omega)

theorem intP_short {bs : List Int} (h : bs.length ≤ 7) (h0 : ∀ r, bs ≠ 0 :: r) : intP bs = (numOf bs, 0) := by
  unfold intP
  rw [if_neg (by omega)]
  split
  · rename_i r; exact absurd rfl (h0 r)
  · rfl

theorem pow_small {n : Int} {m : Nat} (h : n < 2 ^ (8 * m)) (hm : m ≤ 6) : n < 2 ^ 48 := by
  have : m = 0 ∨ m = 1 ∨ m = 2 ∨ m = 3 ∨ m = 4 ∨ m = 5 ∨ m = 6 := by omega
  rcases this with rfl | rfl | rfl | rfl | rfl | rfl | rfl <;> simp at h <;> omega

def IntPost (w : World) (r : Int × Int) (e : Ending) (w' : World) : Prop := e = .returned (.tuple #[.int .i64 r.1, .int .i64 r.2]) ∧ w' = w

set_option maxHeartbeats 4000000 in
set_option maxRecDepth 100000 in
theorem tlv_int (v : Value) (bs : List Int) (w : World) (hs : Sl 1 w v bs.length (u8s bs)) (hb : ∀ x ∈ bs, 0 ≤ x ∧ x < 256) (hl : bs.length ≤ 140737488355328) : Calls Try.prog 41 #[v] w (IntPost w (intP bs)) := by
  obtain ⟨a, c, rfl⟩ := hs.shape
  by_cases h7 : 7 < bs.length
  · rw [show intP bs = (0, 11) by unfold intP; rw [if_pos h7]]
    clear hs hb
    go_enter Try.func41, Try.ntmps41
    go_wp2_with fail
    go_ret2
    exact ⟨rfl, rfl⟩
  · by_cases h0 : ∃ r, bs = 0 :: r
    · obtain ⟨r, rfl⟩ := h0
      rw [show intP (0 :: r) = (0, 12) by unfold intP; rw [if_neg h7]; rfl]
      obtain ⟨b, o, rfl, hbw, hc⟩ := sl_some hs (by simp)
      have c0 := u8s_at hs (i := 0) (x := 0) rfl
      simp only [Nat.add_zero] at c0
      clear hs hb
      simp only [List.length_cons] at h7 hc hl ⊢
      have h7' : r.length + 1 ≤ 7 := by omega
      clear h7
      go_enter Try.func41, Try.ntmps41
      go_wp2_with fail
      go_ret2
      exact ⟨rfl, rfl⟩
    · rw [intP_short (by omega) (fun r e => h0 ⟨r, e⟩)]
      have h7' : bs.length ≤ 7 := by omega
      clear h7
      cases bs with
      | nil =>
        clear hs hb h0
        simp only [List.length_nil] at *
        go_enter Try.func41, Try.ntmps41
        go_wp2_with fail
        go_loop [4, 23] (fun n i => n = .int .i64 0 ∧ i = .int .i64 0) (fun _ _ => 0)
        case atStart => exact ⟨rfl, rfl⟩
        case round =>
          obtain ⟨rfl, rfl⟩ := hrel
          go_wp2_with fail
          go_ret2
          exact ⟨rfl, rfl⟩
      | cons x r =>
        obtain ⟨b, o, rfl, hbw, hc⟩ := sl_some hs (by simp)
        have c0 := u8s_at hs (i := 0) (x := x) rfl
        simp only [Nat.add_zero] at c0
        have hx0 : (x == 0) = false := by
          rw [beq_eq_false_iff_ne]; intro e; exact h0 ⟨r, by rw [e]⟩
        have HAT := Lib.hid (fun i y (hy : (x :: r)[i]? = some y) => u8s_at hs hy)
        have HB := Lib.hid hb
        have hpos : 0 < (x :: r).length := by simp
        clear hs hb h0
        generalize x :: r = bs at *
        go_enter Try.func41, Try.ntmps41
        go_wp2_with fail
        go_loop [4, 23] (fun nv iv => ∃ k : Nat, k ≤ bs.length ∧ iv = .int .i64 k ∧ nv = .int .i64 (numOf (bs.take k))) (fun _ iv => bs.length - (intOf iv).toNat)
        case atStart => exact ⟨0, by omega, rfl, rfl⟩
        case round =>
          obtain ⟨k, hk, rfl, rfl⟩ := hrel
          by_cases hlt : k < bs.length
          · have ck := HAT.out k bs[k] (List.getElem?_eq_getElem hlt)
            have hy := HB.out bs[k] (List.getElem_mem hlt)
            have hr := numOf_range (bs.take k) (fun y hy => HB.out y (List.mem_of_mem_take hy))
            have hsn := numOf_snoc (bs.take k) bs[k]
            rw [← List.take_succ_eq_append_getElem hlt] at hsn
            have hr2 : numOf (bs.take k) < 2 ^ 48 := pow_small hr.2 (by simp; omega)
            have hr0 := hr.1
            have HSN := Lib.hid hsn; clear hsn
            clear hr
            generalize bs[k] = y at *
            generalize numOf (bs.take k) = n at *
            have hor := or_byte n y hr0 hr2 hy.1 hy.2
            simp only [Int.reducePow] at hr2
            go_wp2_with fail
            go_round
            case rel => exact ⟨k + 1, by omega, by go_num, by rw [HSN.out]⟩
            case measure => simp [intOf]; omega
          · obtain rfl : k = bs.length := by omega
            rw [List.take_length]
            go_wp2_with fail
            go_ret2
            exact ⟨rfl, rfl⟩
set_option maxHeartbeats 4000000 in
set_option maxRecDepth 100000 in
theorem ref_int (v : Value) (bs : List Int) (w : World) (hs : Sl 1 w v bs.length (u8s bs)) (hb : ∀ x ∈ bs, 0 ≤ x ∧ x < 256) (hl : bs.length ≤ 140737488355328) : Calls Try.prog 44 #[v] w (IntPost w (intP bs)) := by
  obtain ⟨a, c, rfl⟩ := hs.shape
  by_cases h7 : 7 < bs.length
  · rw [show intP bs = (0, 11) by unfold intP; rw [if_pos h7]]
    clear hs hb
    go_enter Try.func44, Try.ntmps44
    go_wp2_with fail
    go_ret2
    exact ⟨rfl, rfl⟩
  · by_cases h0 : ∃ r, bs = 0 :: r
    · obtain ⟨r, rfl⟩ := h0
      rw [show intP (0 :: r) = (0, 12) by unfold intP; rw [if_neg h7]; rfl]
      obtain ⟨b, o, rfl, hbw, hc⟩ := sl_some hs (by simp)
      have c0 := u8s_at hs (i := 0) (x := 0) rfl
      simp only [Nat.add_zero] at c0
      clear hs hb
      simp only [List.length_cons] at h7 hc hl ⊢
      have h7' : r.length + 1 ≤ 7 := by omega
      clear h7
      go_enter Try.func44, Try.ntmps44
      go_wp2_with fail
      go_ret2
      exact ⟨rfl, rfl⟩
    · rw [intP_short (by omega) (fun r e => h0 ⟨r, e⟩)]
      have h7' : bs.length ≤ 7 := by omega
      clear h7
      cases bs with
      | nil =>
        clear hs hb h0
        simp only [List.length_nil] at *
        go_enter Try.func44, Try.ntmps44
        go_wp2_with fail
        go_loop [4, 5] (fun n i => n = .int .i64 0 ∧ i = .int .i64 0) (fun _ _ => 0)
        case atStart => exact ⟨rfl, rfl⟩
        case round =>
          obtain ⟨rfl, rfl⟩ := hrel
          go_wp2_with fail
          go_ret2
          exact ⟨rfl, rfl⟩
      | cons x r =>
        obtain ⟨b, o, rfl, hbw, hc⟩ := sl_some hs (by simp)
        have c0 := u8s_at hs (i := 0) (x := x) rfl
        simp only [Nat.add_zero] at c0
        have hx0 : (x == 0) = false := by
          rw [beq_eq_false_iff_ne]; intro e; exact h0 ⟨r, by rw [e]⟩
        have HAT := Lib.hid (fun i y (hy : (x :: r)[i]? = some y) => u8s_at hs hy)
        have HB := Lib.hid hb
        have hpos : 0 < (x :: r).length := by simp
        clear hs hb h0
        generalize x :: r = bs at *
        go_enter Try.func44, Try.ntmps44
        go_wp2_with fail
        go_loop [4, 5] (fun nv iv => ∃ k : Nat, k ≤ bs.length ∧ iv = .int .i64 k ∧ nv = .int .i64 (numOf (bs.take k))) (fun _ iv => bs.length - (intOf iv).toNat)
        case atStart => exact ⟨0, by omega, rfl, rfl⟩
        case round =>
          obtain ⟨k, hk, rfl, rfl⟩ := hrel
          by_cases hlt : k < bs.length
          · have ck := HAT.out k bs[k] (List.getElem?_eq_getElem hlt)
            have hy := HB.out bs[k] (List.getElem_mem hlt)
            have hr := numOf_range (bs.take k) (fun y hy => HB.out y (List.mem_of_mem_take hy))
            have hsn := numOf_snoc (bs.take k) bs[k]
            rw [← List.take_succ_eq_append_getElem hlt] at hsn
            have hr2 : numOf (bs.take k) < 2 ^ 48 := pow_small hr.2 (by simp; omega)
            have hr0 := hr.1
            have HSN := Lib.hid hsn; clear hsn
            clear hr
            generalize bs[k] = y at *
            generalize numOf (bs.take k) = n at *
            have hor : IntKind.i64.wrap (256 * n) = 256 * n := by rw [IntKind.wrap_i64]; omega
            simp only [Int.reducePow] at hr2
            go_wp2_with fail
            go_round
            case rel => exact ⟨k + 1, by omega, by go_num, by rw [HSN.out, Int.mul_comm]⟩
            case measure => simp [intOf]; omega
          · obtain rfl : k = bs.length := by omega
            rw [List.take_length]
            go_wp2_with fail
            go_ret2
            exact ⟨rfl, rfl⟩

set_option maxHeartbeats 4000000 in
set_option maxRecDepth 100000 in
theorem equal_bytes (v u : Value) (xs ys : List Int) (w : World) (hv : Sl 1 w v xs.length (u8s xs)) (hu : Sl 1 w u ys.length (u8s ys)) (hl : xs.length ≤ 140737488355328) (hl2 : ys.length ≤ 140737488355328) : Calls Try.prog 42 #[v, u] w (fun e w' => e = .returned (.bool (decide (xs = ys))) ∧ ∃ n, w' = w.drewN n) := by
  obtain ⟨a, c, rfl⟩ := hv.shape
  obtain ⟨a2, c2, rfl⟩ := hu.shape
  by_cases hlen : xs.length = ys.length
  · have hne : ((xs.length : Int) != (ys.length : Int)) = false := by simp [hlen]
    have HLEN := Lib.hid hlen; clear hlen
    have HV := Lib.hid hv; clear hv
    have HU := Lib.hid hu; clear hu
    go_enter Try.func42, Try.ntmps42
    go_wp2_with fail
    go_loopw [13] (fun i wr => ∃ k : Nat, k ≤ xs.length ∧ i = .int .i64 k ∧ Hid (xs.take k = ys.take k) ∧ ∃ n, wr = w.drewN n) (fun i _ => xs.length - (intOf i).toNat)
    case atStart => exact ⟨0, by omega, rfl, Lib.hid rfl, 0, rfl⟩
    case round =>
      obtain ⟨k, hk, rfl, heq, n, rfl⟩ := hrel
      by_cases hlt : k < xs.length
      · obtain ⟨b, o, rfl, hb, hc⟩ := sl_some HV.out (by omega)
        obtain ⟨b2, o2, rfl, hb2, hc2⟩ := sl_some HU.out (by have := HLEN.out; omega)
        have hk2 : k < ys.length := by have := HLEN.out; omega
        have ck := u8s_at HV.out (i := k) (x := xs[k]) (List.getElem?_eq_getElem hlt)
        have dk := u8s_at HU.out (i := k) (x := ys[k]) (List.getElem?_eq_getElem hk2)
        have hx := List.take_succ_eq_append_getElem hlt
        have hy := List.take_succ_eq_append_getElem hk2
        have HX := Lib.hid hx; clear hx
        have HY := Lib.hid hy; clear hy
        have hne2 : xs[k] ≠ ys[k] → xs ≠ ys := fun h e => h (by simp [e])
        have HNE := Lib.hid hne2; clear hne2
        generalize xs[k] = x at *
        generalize ys[k] = y at *
        clear hne
        by_cases he : x = y
        · subst he
          have d0 : (x != x) = false := by simp
          go_wp2_with fail
          go_quiet (fail)
          go_wp2_with fail
          go_roundw
          case rel => exact ⟨k + 1, by omega, by go_num, Lib.hid (by rw [HX.out, HY.out, heq.out]), _, rfl⟩
          case measure => simp [intOf]; omega
        · have d0 : (x != y) = true := by simp [he]
          go_wp2_with fail
          go_quiet (fail)
          go_wp2_with fail
          go_ret
          exact ⟨ret_bool (decide_eq_false (HNE.out he)).symm, n + nq, by rw [World.drewN_drewN]⟩
      · obtain rfl : k = xs.length := by omega
        clear hne
        go_wp2_with fail
        go_ret
        exact ⟨ret_bool (decide_eq_true (by have := heq.out; rwa [List.take_length, HLEN.out, List.take_length] at this)).symm, _, rfl⟩
  · have hne : ((xs.length : Int) != (ys.length : Int)) = true := by simp; omega
    have hd : decide (xs = ys) = false := by simp; intro e; exact hlen (by rw [e])
    rw [hd]
    clear hv hu hd hlen
    go_enter Try.func42, Try.ntmps42
    go_wp2_with fail
    go_ret
    exact ⟨rfl, 0, rfl⟩
end Go.Proofs.Ytlbfeoobeleobaa
