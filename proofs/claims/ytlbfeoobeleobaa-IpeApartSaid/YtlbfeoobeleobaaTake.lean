/- Package bits: what a reader's Take answers, where it stands at a whole byte and reads whole bytes. -/
import Derived.Test.YtlbfeoobeleobaaReader
namespace Go.Proofs.Ytlbfeoobeleobaa
open Go.RowKit
set_option linter.unusedVariables false
set_option linter.unusedSimpArgs false

theorem el_int : El Try.prog 60 3 1 8 := El.mk' Try.underlying60 (by kernel_rfl) (by decide)

def readNums (bs : List Int) : Nat → List Nat → List Int
  | _, [] => []
  | a, M :: Ms => numOf ((bs.drop a).take M) :: readNums bs (a + M) Ms
theorem readNums_length (bs : List Int) (a : Nat) (Ms : List Nat) : (readNums bs a Ms).length = Ms.length := by
  induction Ms generalizing a with
  | nil => rfl
  | cons M Ms ih => simp [readNums, ih]
theorem readNums_snoc (bs : List Int) (a : Nat) (Ms : List Nat) (M : Nat) : readNums bs a (Ms ++ [M]) = readNums bs a Ms ++ [numOf ((bs.drop (a + Ms.sum)).take M)] := by
  induction Ms generalizing a with
  | nil => simp [readNums]
  | cons K Ms ih => simp only [List.cons_append, readNums, ih, List.sum_cons]; rw [Nat.add_assoc]
theorem take_sum_succ (Ms : List Nat) (k : Nat) (hk : k < Ms.length) : (Ms.take (k + 1)).sum = (Ms.take k).sum + Ms[k] := by
  rw [List.take_succ_eq_append_getElem hk, List.sum_append]; simp only [List.sum_cons, List.sum_nil, Nat.add_zero]
theorem take_sum_le (Ms : List Nat) (k : Nat) : (Ms.take k).sum ≤ Ms.sum := by
  induction Ms generalizing k with
  | nil => simp
  | cons M Ms ih => cases k with
    | zero => simp
    | succ k => simp only [List.take_succ_cons, List.sum_cons]; have := ih k; omega
theorem sum_le4 (Ms : List Nat) (h : ∀ M ∈ Ms, M ≤ 4) : Ms.sum ≤ 4 * Ms.length := by
  induction Ms with
  | nil => simp
  | cons M Ms ih => simp only [List.sum_cons, List.length_cons]; have := ih (fun x hx => h x (by simp [hx])); have := h M (by simp); omega

theorem Sl.blk {sz n : Nat} {w : World} {v : Value} {cs : List Value} (h : Sl sz w v n cs) (hn : 0 < n) : ∀ b, v.ownBlock = some b → b < w.heap.size := by
  obtain ⟨_, a, c, rfl, _, _, _, h5⟩ := h
  intro b hb
  rcases h5 with ⟨_, h, _⟩ | ⟨g, o, s, rfl, _, h6⟩
  · omega
  · obtain rfl := Option.some.inj hb
    exact (h6 hn).2

def TakeOk (w : World) (p : Nat) (v : Value) (bs : List Int) (a : Nat) (Ms : List Nat) (ed : Ending) (w' : World) : Prop :=
  ∃ vr, ed = .returned vr ∧ w'.ownsRow w.heap.size 3 1 vr Ms.length (i64s (readNums bs a Ms)) ∧ RAt w' p v bs (8 * (a + Ms.sum)) 0 ∧ Chg (fun x => x = p) w w'
def TakeShort (w : World) (p : Nat) (v : Value) (bs : List Int) (a : Nat) (ed : Ending) (w' : World) : Prop :=
  ed = .returned (.slice none 0 0) ∧ RAt w' p v bs (8 * a) 10 ∧ Chg (fun x => x = p) w w'

set_option maxHeartbeats 4000000 in
set_option maxRecDepth 100000 in
theorem bits_take_short (p b c a : Nat) (v : Value) (bs : List Int) (Ms : List Nat) (w : World) (hR : RAt w p v bs (8 * a) 0) (hb : b < w.heap.size)
    (hc : ∀ i (h : i < Ms.length), w.cell? ⟨b, i, none⟩ = some (.int .i64 (8 * Ms[i] : Nat))) (hM : ∀ M ∈ Ms, 1 ≤ M ∧ M ≤ 4) (hl : Ms.length ≤ 1000) (hbl : bs.length ≤ 140737488355328) (ha : a ≤ bs.length) (hs : bs.length < a + Ms.sum) :
    Calls Try.prog 49 #[.pointer (some ⟨p, 0, none⟩), .slice (some ⟨b, 0, none⟩) Ms.length c] w (TakeShort w p v bs a) := by
  have HR := Lib.hid hR
  have c2 := hR.c2
  clear hR
  have HC := Lib.hid hc; clear hc
  have HM := Lib.hid hM; clear hM
  have hsum := sum_le4 Ms (fun M h => (HM.out M h).2)
  have HTS := Lib.hid (take_sum_le Ms)
  go_enter Try.func49, Try.ntmps49
  go_wp2_with fail
  go_loop [5, 19] (fun t i => ∃ k : Nat, k ≤ Ms.length ∧ i = .int .i64 k ∧ t = .int .i64 (8 * (Ms.take k).sum : Nat)) (fun _ i => Ms.length - (intOf i).toNat)
  case atStart => exact ⟨0, by omega, rfl, rfl⟩
  case round =>
    obtain ⟨k, hk, rfl, rfl⟩ := hrel
    by_cases hlt : k < Ms.length
    · have hck := HC.out k hlt
      obtain ⟨m1, m2⟩ := HM.out Ms[k] (List.getElem_mem hlt)
      have hts := take_sum_succ Ms k hlt
      have hle := HTS.out (k + 1)
      generalize Ms[k] = M at *
      generalize hS : (Ms.take k).sum = S at *
      have HX := Lib.hid hts; clear hts hS
      have hS4 : S + M ≤ 4000 := by have := HX.out; omega
      clear hle
      go_wp2_with fail
      go_round
      case rel => exact ⟨k + 1, by omega, by go_num, by rw [HX.out]; go_num⟩
      case measure => simp [intOf]; omega
    · obtain rfl : k = Ms.length := by omega
      rw [List.take_length]
      generalize Ms.sum = S at *
      go_wp2_with fail
      refine (bits_left p v bs (8 * a) 0 w HR.out hbl (by omega)).mono ?_
      rintro e w1 ⟨rfl, hB⟩
      have hgt : decide ((8 * (bs.length : Int) - (8 * a : Nat)) < 8 * S) = true := by rw [decide_eq_true_eq]; omega
      have hgt2 : (8 * (bs.length : Int) - (8 * a : Nat)) < 8 * S := by omega
      have R1 := Lib.hid (HR.out.ofBelow hB)
      have c2' := R1.out.c2
      have f2' := R1.out.f2
      push_cast at hgt hgt2 ⊢
      go_wp2_with fail
      go_ret
      exact ⟨rfl, R1.out.setE 10, chg_setCell (F := fun x => x = p) (p := ⟨p, 2, none⟩) (Chg.ofBelow hB) (fun _ => rfl) _⟩

set_option maxHeartbeats 8000000 in
set_option maxRecDepth 100000 in
theorem bits_take (p b c a : Nat) (v : Value) (bs : List Int) (Ms : List Nat) (w : World) (hR : RAt w p v bs (8 * a) 0) (hb : b < w.heap.size) (hbp : b ≠ p)
    (hc : ∀ i (h : i < Ms.length), w.cell? ⟨b, i, none⟩ = some (.int .i64 (8 * Ms[i] : Nat))) (hM : ∀ M ∈ Ms, 1 ≤ M ∧ M ≤ 4) (hl : Ms.length ≤ 1000) (hbl : bs.length ≤ 140737488355328) (hs : a + Ms.sum ≤ bs.length) :
    Calls Try.prog 49 #[.pointer (some ⟨p, 0, none⟩), .slice (some ⟨b, 0, none⟩) Ms.length c] w (TakeOk w p v bs a Ms) := by
  have HR := Lib.hid hR
  have c2 := hR.c2
  have hpl : p < w.heap.size := hR.lt
  have HBY := Lib.hid hR.byte
  have HVB := Lib.hid (fun h => hR.sl.blk (n := bs.length) h)
  clear hR
  have HC := Lib.hid hc; clear hc
  have HM := Lib.hid hM; clear hM
  have hsum := sum_le4 Ms (fun M h => (HM.out M h).2)
  have HTS := Lib.hid (take_sum_le Ms)
  go_enter Try.func49, Try.ntmps49
  go_wp2_with fail
  go_loop [5, 19] (fun t i => ∃ k : Nat, k ≤ Ms.length ∧ i = .int .i64 k ∧ t = .int .i64 (8 * (Ms.take k).sum : Nat)) (fun _ i => Ms.length - (intOf i).toNat)
  case atStart => exact ⟨0, by omega, rfl, rfl⟩
  case round =>
    obtain ⟨k, hk, rfl, rfl⟩ := hrel
    by_cases hlt : k < Ms.length
    · have hck := HC.out k hlt
      obtain ⟨m1, m2⟩ := HM.out Ms[k] (List.getElem_mem hlt)
      have hts := take_sum_succ Ms k hlt
      have hle := HTS.out (k + 1)
      generalize Ms[k] = M at *
      generalize hS : (Ms.take k).sum = S at *
      have HX := Lib.hid hts; clear hts hS
      have hS4 : S + M ≤ 4000 := by have := HX.out; omega
      clear hle
      go_wp2_with fail
      go_round
      case rel => exact ⟨k + 1, by omega, by go_num, by rw [HX.out]; go_num⟩
      case measure => simp [intOf]; omega
    · obtain rfl : k = Ms.length := by omega
      rw [List.take_length]
      have HSUM := Lib.hid (rfl : Ms.sum = Ms.sum)
      generalize hSS : Ms.sum = S at *
      have HSS := Lib.hid hSS; clear hSS hlt hk
      go_wp2_with fail
      refine (bits_left p v bs (8 * a) 0 w HR.out hbl (by omega)).mono ?_
      rintro e w1 ⟨rfl, hB⟩
      have hle2 : 8 * S ≤ (8 * (bs.length : Int) - (8 * a : Nat)) := by omega
      have R1 := Lib.hid (HR.out.ofBelow hB)
      have HB1 := Lib.hid hB; clear hB
      clear c2
      push_cast at hle2 ⊢
      go_wp2_with fail
      go_loopw [8, 45] (fun t i wq => ∃ k : Nat, k ≤ Ms.length ∧ i = .int .i64 k ∧ RAt wq p v bs (8 * (a + (Ms.take k).sum)) 0 ∧ Chg (fun x => x = p) w wq ∧ Hid (wq.ownsRow w.heap.size 3 1 t k (i64s (readNums bs a (Ms.take k))))) (fun _ i _ => Ms.length - (intOf i).toNat)
      case atStart => exact ⟨0, by omega, rfl, by simpa using R1.out, Chg.ofBelow HB1.out, own_none _ _ _ _⟩
      case round =>
        clear R1 HB1
        obtain ⟨k, hk, rfl, hR1, hC1, hown⟩ := hrel
        by_cases hlt : k < Ms.length
        · have hck := HC.out k hlt
          have hCb : wr.heap[b]? = w.heap[b]? := hC1.block b hb (fun e => hbp e)
          rw [← World.cell?_of_block (a := ⟨b, k, none⟩) hCb] at hck
          clear hCb
          obtain ⟨m1, m2⟩ := HM.out Ms[k] (List.getElem_mem hlt)
          have hts := take_sum_succ Ms k hlt
          have hle := HTS.out (k + 1)
          have hrn : readNums bs a (Ms.take (k + 1)) = readNums bs a (Ms.take k) ++ [numOf ((bs.drop (a + (Ms.take k).sum)).take Ms[k])] := by
            rw [List.take_succ_eq_append_getElem hlt, readNums_snoc]
          have hms : (Ms.take k).sum + Ms[k] ≤ S := by omega
          generalize hMk : Ms[k] = M at *
          have HRN := Lib.hid hrn
          have HX := Lib.hid hts
          clear hrn hts hle hMk
          generalize hT : (Ms.take k).sum = T at *
          have HT := Lib.hid hT
          clear hT
          have hll : ((bs.drop (a + T)).take M).length = M := by rw [List.length_take, List.length_drop]; omega
          have HLL := Lib.hid hll; clear hll
          have HBL : Hid (∀ x ∈ (bs.drop (a + T)).take M, 0 ≤ x ∧ x < 256) := fun x hx => HBY.out x (List.mem_of_mem_drop (List.mem_of_mem_take hx))
          have HGET : Hid (∀ j, j < M → ((bs.drop (a + T)).take M)[j]? = bs[a + T + j]?) := fun j hj => by rw [List.getElem?_take_of_lt hj, List.getElem?_drop]
          generalize hl : (bs.drop (a + T)).take M = l at *
          clear hl
          have HNR := Lib.hid (numOf_range l HBL.out)
          have HR1 := Lib.hid hR1; clear hR1
          have HC1 := Lib.hid hC1; clear hC1
          obtain ⟨wo, rfl⟩ : ∃ wo : World, wo = wr := ⟨_, rfl⟩
          go_wp2_with fail
          go_loopw [11, 50] (fun t i wz => ∃ (d N : Nat), d ≤ 8 * M ∧ i = .int .i64 d ∧ t = .int .i64 (numOf l / 2 ^ (8 * M - d)) ∧ Hid (N = 8 * (a + T) + d) ∧ RAt wz p v bs N 0 ∧ Chg (fun x => x = p) wo wz) (fun _ i _ => 8 * M - (intOf i).toNat)
          case atStart =>
            refine ⟨0, 8 * (a + T), by omega, rfl, ?_, by simp [Hid], HR1.out, Chg.refl _ _⟩
            have := HNR.out
            rw [HLL.out] at this
            rw [Nat.sub_zero, Int.ediv_eq_zero_of_lt this.1 this.2]
          case round =>
            obtain ⟨d, N, hd, rfl, rfl, hN, hR2, hC2⟩ := hrel
            have HC2 := Lib.hid hC2; clear hC2
            by_cases hd1 : d < 8 * M
            · have hR2' := hR2
              obtain ⟨d0, d1, d2, df1, df2, sl, ne, _⟩ := hR2
              have hNl : N / 8 < bs.length := by have := hN.out; omega
              have hN2 : N ≤ 9000000000000000 := by omega
              obtain ⟨hsl, av, cv, hv, hcv, _, _, hrow⟩ := sl
              obtain ⟨g, o, rfl, hrw, _⟩ : ∃ g o, av = some ⟨g, o, none⟩ ∧ Row wr g o (u8s bs) ∧ (0 < bs.length → g < wr.heap.size) := by
                rcases hrow with ⟨_, h, _⟩ | ⟨g, o, s, h, hr, h6⟩
                · omega
                · obtain ⟨rfl, hb⟩ := h6 (by omega)
                  exact ⟨g, o, h, hr, fun _ => hb⟩
              have gc : wr.cell? ⟨g, o + N / 8, none⟩ = some (.int .u8 bs[N / 8]) := hrw (N / 8) _ (by simp [u8s, hNl])
              subst hv
              have hB := HBY.out bs[N / 8] (List.getElem_mem hNl)
              have hst := num_step l HBL.out d (by rw [HLL.out]; exact hd1) (B := bs[N / 8]) (by rw [HGET.out _ (by omega), List.getElem?_eq_getElem (by have := hN.out; omega)]; congr 2; have := hN.out; omega)
              rw [HLL.out] at hst
              have hrange := HNR.out
              rw [HLL.out] at hrange
              have hn0 : 0 ≤ numOf l / 2 ^ (8 * M - d) := Int.ediv_nonneg hrange.1 (by exact_mod_cast Nat.zero_le _)
              have hM40 : (2 : Int) ^ (8 * M) ≤ 2 ^ 32 := by
                have : M = 1 ∨ M = 2 ∨ M = 3 ∨ M = 4 := by omega
                rcases this with rfl | rfl | rfl | rfl <;> decide
              have hn1 : numOf l / 2 ^ (8 * M - d) < 2 ^ 32 := Int.lt_of_le_of_lt (Int.ediv_le_self _ hrange.1) (by omega)
              generalize numOf l / 2 ^ (8 * M - d) = nn at *
              generalize bs[N / 8] = B at *
              have hmod : N % 8 = d % 8 := by have := hN.out; omega
              rw [← hmod] at hst
              have HST := Lib.hid hst
              clear hst hrange hM40 hrw hrow hsl hmod
              have hb0 : 0 ≤ B / 2 ^ (7 - N % 8) := Int.ediv_nonneg hB.1 (by exact_mod_cast Nat.zero_le _)
              have hb1 : B / 2 ^ (7 - N % 8) < 256 := Int.lt_of_le_of_lt (Int.ediv_le_self _ hB.1) hB.2
              have hx0 := u8_and_one _ hb0 hb1
              have hx1 : 0 ≤ B / 2 ^ (7 - N % 8) % 2 ∧ B / 2 ^ (7 - N % 8) % 2 ≤ 1 := by omega
              generalize hxx : B / 2 ^ (7 - N % 8) % 2 = x at *
              have HXX := Lib.hid hxx; clear hxx
              have hor := or_bit nn x hn0 (by omega) hx1.1 hx1.2
              obtain ⟨hx1, hx2⟩ := hx1
              have hi0 : 0 ≤ (N : Int) / 8 := by omega
              have hi1 : (N : Int) / 8 < (bs.length : Int) := by omega
              have hix : ((N : Int) / 8).toNat = N / 8 := by omega
              have hm0 : 0 ≤ (N : Int) % 8 := by omega
              have hm1 : (N : Int) % 8 < 8 := by omega
              have hm2 : 0 ≤ 7 - (N : Int) % 8 := by omega
              have hm3 : (7 - (N : Int) % 8).toNat = 7 - N % 8 := by omega
              have hnn2 : nn * 2 + x ≤ 9000000000 := by omega
              have hw1 : IntKind.i64.wrap ((N : Int) / 8) = (N : Int) / 8 := by rw [IntKind.wrap_i64]; omega
              have hw2 : IntKind.i64.wrap (7 - (N : Int) % 8) = 7 - (N : Int) % 8 := by rw [IntKind.wrap_i64]; omega
              have hw3 : IntKind.i64.wrap (nn * 2) = nn * 2 := by rw [IntKind.wrap_i64]; omega
              have hw4 : IntKind.i64.wrap x = x := by rw [IntKind.wrap_i64]; omega
              have htm : ((N : Int)).tmod 8 = (N : Int) % 8 := Int.tmod_eq_emod_of_nonneg (by omega)
              clear hB
              go_wp2_with fail
              go_quiet (fail)
              clear hw1 hw2 hw3 hw4 htm hor hx0
              go_wp2_with fail
              go_roundw
              case rel =>
                refine ⟨d + 1, N + 1, by omega, by go_num, by rw [HST.out], by have := hN.out; show N + 1 = _; omega, ?_, ?_⟩
                · have h := (hR2'.drew nq).setN (N + 1)
                  have e : ((N + 1 : Nat) : Int) = (N : Int) + 1 := by omega
                  rw [e] at h
                  exact h
                · exact chg_setCell (F := fun x => x = p) (p := ⟨p, 1, none⟩) (chg_drewN HC2.out _) (fun _ => rfl) _
              case measure => simp [intOf]; omega
            · obtain rfl : d = 8 * M := by omega
              rw [Nat.sub_self, Int.pow_zero, Int.ediv_one]
              have HR2 := Lib.hid hR2; clear hR2
              have HOW := Lib.hid (own_keep hown.out (fun g hg hl => HC2.out.block g hl (fun e => by have := (hown.out.lt g hg).1; omega)))
              have hzs : wo.heap.size ≤ wr.heap.size := HC2.out.size
              have hws : w.heap.size ≤ wo.heap.size := HC1.out.size
              clear hown
              generalize hNN : numOf l = nn at *
              have HNN := Lib.hid hNN; clear hNN
              go_wp2_with (at_builtin; refine wpList_append_sl el_int _ rfl rfl rfl rfl (own_alloc HOW.out _) (sl_new (n := 1) wr #[.int .i64 nn] 3 rfl (by simp [maxLen]) (by intro u hu; simp at hu; subst hu; rfl)) (by omega) (by simp only [maxLen]; omega) (by first | omega | (simp; done) | (simp; omega)) ?_; intro v' w4 hown4 hg4 _ hob4; have HO4 := Lib.hid hown4; have HG4 := Lib.hid hg4; have HOB4 := Lib.hid hob4; clear hown4 hg4 hob4)
              go_roundw
              case rel =>
                have hnp : ∀ g, u8.ownBlock = some g → g < w.heap.size → False := fun g hg hl => by have := (HOW.out.lt g hg).1; omega
                have hal : Below wr.heap.size wr (wr.alloc (.cells #[.int .i64 nn] 3)) := (Below.refl _ _).alloc (Nat.le_refl _) _
                refine ⟨k + 1, by omega, by go_num, ?_, ?_, ?_⟩
                · have e : 8 * (a + (Ms.take (k + 1)).sum) = 8 * (a + T) + 8 * M := by rw [HX.out]; omega
                  rw [e]
                  have h := HR2.out
                  rw [hN.out] at h
                  refine (h.ofBelow hal).keep (HG4.out.block p (by simp; have := HR2.out.lt; omega) (fun e => hnp p e.symm hpl)) HG4.out.size (fun b' hb' hl' => HG4.out.block b' hl' (fun e => ?_))
                  have h1 := (HOW.out.lt b' e.symm).1
                  have h2 := HVB.out (by omega) b' hb'
                  omega
                · exact chg_grown (chg_alloc (HC1.out.trans ((HC2.out).weaken (fun _ _ h => h))) _) HG4.out (fun q hq hl => (hnp q hq hl).elim)
                · rw [HRN.out]
                  unfold i64s
                  rw [List.map_append]
                  exact HO4.out
              case measure => simp [intOf]; omega
        · obtain rfl : k = Ms.length := by omega
          rw [List.take_length] at hR1 hown
          go_wp2_with fail
          go_ret
          exact ⟨_, rfl, hown.out, by rw [HSS.out] at hR1 ⊢; exact hR1, hC1⟩
end Go.Proofs.Ytlbfeoobeleobaa
