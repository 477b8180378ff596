/- tlv's right, lay and Put, at elements that are right. -/
import Derived.Test.YtlbfeoobeleobaaTree
namespace Go.Proofs.Ytlbfeoobeleobaa
open Go.RowKit
set_option linter.unusedVariables false
set_option linter.unusedSimpArgs false

theorem RepL.shape {d : Nat} {F : Nat → Prop} {w : World} {v : Value} {es : List T} (h : RepL d F w v es) : ∃ a c, v = .slice a es.length c := by
  cases d with
  | zero => obtain ⟨rfl, hs⟩ := h; exact hs.shape
  | succ d => obtain ⟨xs, rfl, _, hs, _⟩ := h; rw [List.length_map]; exact hs.1.shape

theorem ecs_at {xs : List EC} {w : World} {v : Value} (h : Sl 3 w v xs.length (xs.flatMap EC.cells)) {k : Nat} (hk : k < xs.length) :
    ∃ b o c, v = .slice (some ⟨b, o, none⟩) xs.length c ∧ b < w.heap.size ∧ xs.length ≤ c := by
  obtain ⟨_, a, c, rfl, h2, _, _, h5⟩ := h
  rcases h5 with ⟨_, h, _⟩ | ⟨b, o, s, rfl, _, h6⟩
  · omega
  · obtain ⟨rfl, hb⟩ := h6 (by omega)
    exact ⟨b, o, c, rfl, hb, h2⟩
theorem ecs_cells {xs : List EC} {w : World} {b o c : Nat} (h : Sl 3 w (.slice (some ⟨b, o, none⟩) xs.length c) xs.length (xs.flatMap EC.cells)) {k : Nat} (hk : k < xs.length) :
    w.cell? ⟨b, o + k * 3, none⟩ = some (.int .i64 xs[k].tag) ∧ w.cell? ⟨b, o + k * 3 + 1, none⟩ = some xs[k].vb ∧ w.cell? ⟨b, o + k * 3 + 2, none⟩ = some xs[k].vk := by
  obtain ⟨_, a, c, he, h2, _, _, h5⟩ := h
  obtain ⟨rfl, -, rfl⟩ := Value.slice.inj he
  rcases h5 with ⟨h, _⟩ | ⟨b', o', s, he, h5, h6⟩
  · cases h
  · obtain ⟨rfl, rfl, rfl⟩ : b = b' ∧ o = o' ∧ none = s := by simpa using he
    have hr := row_get EC.cells_len h5 hk
    exact ⟨hr 0 _ rfl, hr 1 _ rfl, hr 2 _ rfl⟩

theorem RepX.cut {d : Nat} {F : Nat → Prop} {w : World} {x : EC} (h : RepX d F w x) : ∃ (tag : Int) (bytes : List Int) (kids : List T) (ab : Option Addr) (cb : Nat) (ak : Option Addr) (ck : Nat),
    x = ⟨tag, .slice ab bytes.length cb, .slice ak kids.length ck, bytes, kids⟩ ∧ bytes.length ≤ 255 ∧ SlF F 1 w (.slice ab bytes.length cb) bytes.length (u8s bytes) ∧ RepL d F w (.slice ak kids.length ck) kids := by
  obtain ⟨tag, vb, vk, bytes, kids⟩ := x
  obtain ⟨h1, h2, h3⟩ := h
  simp only at h1 h2 h3
  obtain ⟨ab, cb, rfl⟩ := h2.1.shape
  obtain ⟨ak, ck, rfl⟩ := h3.shape
  exact ⟨tag, bytes, kids, ab, cb, ak, ck, rfl, h1, h2, h3⟩

theorem rightGo_cons {inner : List T → Bool} {last : Int} {e : T} {es : List T} (h : rightGo inner last (e :: es) = true) :
    last < e.tag ∧ e.tag ≤ 255 ∧ (128 ≤ e.tag → e.bytes = []) ∧ (e.tag < 128 → e.kids = []) ∧ inner e.kids = true ∧ rightGo inner e.tag es = true := by
  simp only [rightGo, Bool.and_eq_true, decide_eq_true_eq] at h
  obtain ⟨⟨⟨⟨h1, h2⟩, h3⟩, h4⟩, h5⟩ := h
  refine ⟨h1, h2, fun h => ?_, fun h => ?_, h4, h5⟩
  · rw [if_pos h] at h3; exact List.isEmpty_iff.1 h3
  · rw [if_neg (by omega)] at h3; exact List.isEmpty_iff.1 h3

set_option maxHeartbeats 4000000 in
set_option maxRecDepth 100000 in
theorem tright_any (d : Nat) (F : Nat → Prop) : ∀ (v : Value) (es : List T) (w : World), RepL d F w v es → rightB d es = true → Calls Try.prog 57 #[v] w (RetB true w) := by
  induction d with
  | zero =>
    rintro v es w ⟨rfl, hs⟩ hr
    obtain ⟨a, c, rfl⟩ := hs.shape
    go_enter Try.func57, Try.ntmps57
    go_wp2_with fail
    go_loopw [9] (fun i wr => i = .int .i64 0 ∧ Below w.heap.size w wr) (fun _ _ => 0)
    case atStart => exact ⟨rfl, Below.refl _ _⟩
    case round =>
      obtain ⟨rfl, hB⟩ := hrel
      go_wp2_with fail
      go_ret
      exact ⟨rfl, hB⟩
  | succ d ih =>
    intro v es w hR hr
    obtain ⟨xs, rfl, hl, hs, hx⟩ := hR.cut
    have hsh := hs.1.shape
    obtain ⟨a, c, rfl⟩ := hsh
    have IH := Lib.hid ih; clear ih
    have HX := Lib.hid hx; clear hx
    have HS := Lib.hid hs; clear hs
    have hr2 : rightGo (rightB d) 0 (xs.map EC.t) = true := hr
    have HR := Lib.hid hr2; clear hr2
    clear hR hr
    go_enter Try.func57, Try.ntmps57
    go_wp2_with fail
    go_loopw [3, 9] (fun lv i wr => ∃ (k : Nat) (last : Int), k ≤ xs.length ∧ i = .int .i64 k ∧ lv = .int .i64 last ∧ Hid (rightGo (rightB d) last ((xs.drop k).map EC.t) = true) ∧ Below w.heap.size w wr) (fun _ i _ => xs.length - (intOf i).toNat)
    case atStart => exact ⟨0, 0, by omega, rfl, rfl, Lib.hid HR.out, Below.refl _ _⟩
    case round =>
      obtain ⟨k, last, hk, rfl, rfl, hg, hB⟩ := hrel
      by_cases hlt : k < xs.length
      · obtain ⟨b, o, c', he, hb, hc'⟩ := ecs_at HS.out.1 hlt
        obtain ⟨rfl, -, rfl⟩ := Value.slice.inj he
        obtain ⟨e0, e1, e2⟩ := ecs_cells HS.out.1 hlt
        replace e0 := (hB.cell (p := ⟨b, o + k * 3, none⟩) hb).trans e0
        replace e1 := (hB.cell (p := ⟨b, o + k * 3 + 1, none⟩) hb).trans e1
        replace e2 := (hB.cell (p := ⟨b, o + k * 3 + 2, none⟩) hb).trans e2
        have hxk := HX.out xs[k] (List.getElem_mem hlt)
        have hg2 := hg.out
        rw [List.drop_eq_getElem_cons hlt, List.map_cons] at hg2
        obtain ⟨q1, q2, q3, q4, q5, q6⟩ := rightGo_cons hg2
        generalize xs[k] = x at *
        obtain ⟨tag, bytes, kids, ab, cb, ak, ck, rfl, hb1, hb2, hb3⟩ := hxk.cut
        simp only [EC.t, T.tag, T.bytes, T.kids] at e0 e1 e2 q1 q2 q3 q4 q5 q6
        clear hxk
        have hBs := hB.size
        have HB := Lib.hid hB; clear hB
        have hb4 := Lib.hid (hb3.ofBelow HB.out)
        have Q5 := Lib.hid q5; clear q5
        have Q6 := Lib.hid q6; clear q6
        clear he hg hg2 hb2 hb3
        have d0 : decide (tag ≤ last) = false := by simp; omega
        have d1 : decide (255 < tag) = false := by simp; omega
        by_cases hbt : 128 ≤ tag
        · obtain rfl := q3 hbt
          clear q4 q3
          have d2 : decide (128 ≤ tag) = true := by simpa using hbt
          clear hbt
          simp only [List.length_nil] at e1
          go_wp2_with fail
          refine (IH.out _ _ _ ((hb4.out).ofBelow ((Below.refl _ _).alloc (Nat.le_refl _) _)) Q5.out).mono ?_
          rintro e w' ⟨rfl, hB2⟩
          obtain ⟨hcc, hff⟩ := bcell hB2
          have HB2 := Lib.hid ((HB.out.alloc (by first | omega | (simp; done) | (simp; omega)) _).trans (hB2.mono (by simp; omega)))
          clear hB2 d0 d1 d2
          go_wp2_with fail
          go_roundw
          case rel => exact ⟨k + 1, tag, by omega, by go_num, rfl, Q6, HB2.out⟩
          case measure => simp [intOf]; omega
        · obtain rfl := q4 (by omega)
          clear q4 q3
          have d2 : decide (128 ≤ tag) = false := by simpa using hbt
          clear hbt
          simp only [List.length_nil] at e2
          have hb5 := hb4.out
          simp only [List.length_nil] at hb5
          clear hb4
          have hb4 := Lib.hid hb5; clear hb5
          go_wp2_with fail
          refine (IH.out _ _ _ ((hb4.out).ofBelow ((Below.refl _ _).alloc (Nat.le_refl _) _)) Q5.out).mono ?_
          rintro e w' ⟨rfl, hB2⟩
          obtain ⟨hcc, hff⟩ := bcell hB2
          have HB2 := Lib.hid ((HB.out.alloc (by first | omega | (simp; done) | (simp; omega)) _).trans (hB2.mono (by simp; omega)))
          clear hB2 d0 d1 d2
          go_wp2_with fail
          go_roundw
          case rel => exact ⟨k + 1, tag, by omega, by go_num, rfl, Q6, HB2.out⟩
          case measure => simp [intOf]; omega
      · obtain rfl : k = xs.length := by omega
        have HB := Lib.hid hB; clear hB
        go_wp2_with fail
        go_ret
        exact ⟨rfl, HB.out⟩

theorem layGo_cons {inner : List T → Option (List Int)} {cur out : List Int} {e : T} {es : List T} (h : layGo inner cur (e :: es) = some out) :
    ∃ i, inner e.kids = some i ∧ (layBody e i).length ≤ 255 ∧ layGo inner (cur ++ [e.tag % 256, (layBody e i).length] ++ layBody e i) es = some out := by
  simp only [layGo] at h
  split at h
  · cases h
  · rename_i i hi
    split at h
    · cases h
    · exact ⟨i, hi, by omega, h⟩

def LayPost (w : World) (out : List Int) (e : Ending) (w' : World) : Prop := ∃ vo, e = .returned (.tuple #[vo, .bool true]) ∧ w'.ownsRow w.heap.size 5 1 vo out.length (u8s out) ∧ Below w.heap.size w w'

set_option maxHeartbeats 4000000 in
set_option maxRecDepth 100000 in
theorem lay_any (d : Nat) (F : Nat → Prop) : ∀ (v : Value) (es : List T) (out : List Int) (w : World), RepL d F w v es → layB d es = some out → Calls Try.prog 58 #[v] w (LayPost w out) := by
  induction d with
  | zero =>
    rintro v es out w ⟨rfl, hs⟩ hr
    obtain rfl : [] = out := by simpa [layB] using hr
    obtain ⟨a, c, rfl⟩ := hs.shape
    go_enter Try.func58, Try.ntmps58
    go_wp2_with fail
    go_loopw [4, 11] (fun v i wr => v = .slice none 0 0 ∧ i = .int .i64 0 ∧ Below w.heap.size w wr) (fun _ _ _ => 0)
    case atStart => exact ⟨rfl, rfl, Below.refl _ _⟩
    case round =>
      obtain ⟨rfl, rfl, hB⟩ := hrel
      go_wp2_with fail
      go_ret2
      exact ⟨_, rfl, own_none _ _ _ _, hB⟩
  | succ d ih =>
    intro v es out w hR hr
    obtain ⟨xs, rfl, hl, hs, hx⟩ := hR.cut
    have hsh := hs.1.shape
    obtain ⟨a, c, rfl⟩ := hsh
    have IH := Lib.hid ih; clear ih
    have HX := Lib.hid hx; clear hx
    have HS := Lib.hid hs; clear hs
    have hr2 : layGo (layB d) [] (xs.map EC.t) = some out := hr
    have HR := Lib.hid hr2; clear hr2
    clear hR hr
    go_enter Try.func58, Try.ntmps58
    go_wp2_with fail
    go_loopw [4, 11] (fun v i wr => ∃ (k : Nat) (cur : List Int), k ≤ xs.length ∧ i = .int .i64 k ∧ cur.length ≤ k * 257 ∧ Hid (wr.ownsRow w.heap.size 5 1 v cur.length (u8s cur)) ∧ Hid (layGo (layB d) cur ((xs.drop k).map EC.t) = some out) ∧ Below w.heap.size w wr) (fun _ i _ => xs.length - (intOf i).toNat)
    case atStart => exact ⟨0, [], by omega, rfl, by simp, Lib.hid (own_none _ _ _ _), Lib.hid HR.out, Below.refl _ _⟩
    case round =>
      obtain ⟨k, cur, hk, rfl, hcur, hown, hg, hB⟩ := hrel
      by_cases hlt : k < xs.length
      · obtain ⟨b, o, c', he, hb, hc'⟩ := ecs_at HS.out.1 hlt
        obtain ⟨rfl, -, rfl⟩ := Value.slice.inj he
        obtain ⟨e0, e1, e2⟩ := ecs_cells HS.out.1 hlt
        replace e0 := (hB.cell (p := ⟨b, o + k * 3, none⟩) hb).trans e0
        replace e1 := (hB.cell (p := ⟨b, o + k * 3 + 1, none⟩) hb).trans e1
        replace e2 := (hB.cell (p := ⟨b, o + k * 3 + 2, none⟩) hb).trans e2
        have hxk := HX.out xs[k] (List.getElem_mem hlt)
        have hg2 := hg.out
        rw [List.drop_eq_getElem_cons hlt, List.map_cons] at hg2
        obtain ⟨i, q1, q2, q3⟩ := layGo_cons hg2
        generalize xs[k] = x at *
        obtain ⟨tag, bytes, kids, ab, cb, ak, ck, rfl, hb1, hb2, hb3⟩ := hxk.cut
        simp only [EC.t, T.tag, T.bytes, T.kids] at e0 e1 e2 q1 q2 q3
        clear hxk
        have hBs := hB.size
        have HB := Lib.hid hB; clear hB
        have hb4 := Lib.hid (hb3.ofBelow HB.out)
        have HBY := Lib.hid hb2.1
        have Q1 := Lib.hid q1; clear q1
        have Q3 := Lib.hid q3; clear q3
        have HBX := Lib.hid ((Below.refl wr.heap.size wr).alloc (Nat.le_refl _) (Obj.cells #[.int .i64 tag, .slice ab bytes.length cb, .slice ak kids.length ck] 67))
        clear he hg hg2 hb2 hb3
        go_wp2_with fail
        refine (IH.out _ _ i _ ((hb4.out).ofBelow HBX.out) Q1.out).mono ?_
        rintro e w2 ⟨vo, rfl, hown2, hB2⟩
        obtain ⟨ao, co, rfl⟩ := own_shape hown2
        obtain ⟨hcc, hff⟩ := bcell hB2
        have hs2 : wr.heap.size + 1 ≤ w2.heap.size := by have := hB2.size; simpa using this
        have HB2 := Lib.hid (HBX.out.trans (hB2.mono (by simp)))
        have HO2 := Lib.hid hown2
        have HOW := Lib.hid (own_ofBelow hown.out HB2.out)
        have HBW := Lib.hid (HB.out.trans (HB2.out.mono HB.out.size))
        have hws : w.heap.size ≤ w2.heap.size := by omega
        have HLT := Lib.hid hown.out.lt
        clear hB2 hown2 hown
        by_cases hbt : tag < 128
        · have hbody : layBody (T.mk tag bytes kids) i = bytes := by simp [layBody, T.tag, T.bytes, hbt]
          rw [hbody] at q2 Q3
          clear hbody
          go_wp2_with (first | (at_builtin; refine wpList_append_sl (s := .tmp 33) (m := 2) (n := cur.length) el_byte _ rfl rfl rfl rfl (own_alloc HOW.out _) (sl_lit (n := 2) _ #[.int .u8 (tag % 256), .int .u8 (bytes.length : Int)] 5 (by rfl) rfl (by simp [maxLen]) (by intro u hu; simp at hu; rcases hu with rfl | rfl <;> rfl)) (by omega) (by simp only [maxLen]; omega) (by first | omega | (simp; done) | (simp; omega)) ?_; intro v4 w4 hown4 hg4 _ _; have HO4 := Lib.hid hown4; have HG4 := Lib.hid hg4; clear hown4 hg4; have HB4 := Lib.hid (Below.grown (show Below w.heap.size w _ from (by repeat' (first | exact Below.refl _ _ | exact HBW.out | refine Below.alloc ?_ (by first | omega | (simp; done) | (simp; omega)) _ | refine Below.drew ?_ | refine below_drewN ?_ _ | refine Below.setCell ?_ (by first | omega | (simp; done) | (simp; omega)) _))) HG4.out (by simp; omega) (fun q hq => (HOW.out.lt q hq).1))) | (at_builtin; go_must (refine wpList_append_sl (s := .tmp 41) (m := bytes.length) (n := cur.length + 2) el_byte _ rfl rfl rfl rfl HO4.out (HBY.out.ofBelow HB4.out) (by omega) (by simp only [maxLen]; omega) (by exact HB4.out.size) ?_); intro v5 w5 hown5 hg5 _ _; have HO5 := Lib.hid hown5; have HG5 := Lib.hid hg5; clear hown5 hg5))
          go_roundw
          case rel =>
            have hlen : (cur ++ [tag % 256, (bytes.length : Int)] ++ bytes).length = cur.length + 2 + bytes.length := by simp [Nat.add_assoc, Nat.add_comm, Nat.add_left_comm]
            have hcs : u8s (cur ++ [tag % 256, (bytes.length : Int)] ++ bytes) = u8s cur ++ [.int .u8 (tag % 256), .int .u8 (bytes.length : Int)] ++ u8s bytes := by simp [u8s]
            refine ⟨k + 1, cur ++ [tag % 256, (bytes.length : Int)] ++ bytes, by omega, by go_num, by simp; omega, Lib.hid ?_, Q3, Below.grown HB4.out HG5.out HB4.out.size (fun q hq => (HO4.out.lt q hq).1)⟩
            rw [hlen, hcs]; exact HO5.out
          case measure => simp [intOf]; omega
        · have hbody : layBody (T.mk tag bytes kids) i = i := by simp [layBody, T.tag, hbt]
          rw [hbody] at q2 Q3
          clear hbody
          go_wp2_with (first | (at_builtin; refine wpList_append_sl (s := .tmp 33) (m := 2) (n := cur.length) el_byte _ rfl rfl rfl rfl (own_alloc HOW.out _) (sl_lit (n := 2) _ #[.int .u8 (tag % 256), .int .u8 (i.length : Int)] 5 (by rfl) rfl (by simp [maxLen]) (by intro u hu; simp at hu; rcases hu with rfl | rfl <;> rfl)) (by omega) (by simp only [maxLen]; omega) (by first | omega | (simp; done) | (simp; omega)) ?_; intro v4 w4 hown4 hg4 _ _; have HO4 := Lib.hid hown4; have HG4 := Lib.hid hg4; clear hown4 hg4; have HB4 := Lib.hid (Below.grown (show Below w.heap.size w _ from (by repeat' (first | exact Below.refl _ _ | exact HBW.out | refine Below.alloc ?_ (by first | omega | (simp; done) | (simp; omega)) _ | refine Below.drew ?_ | refine below_drewN ?_ _ | refine Below.setCell ?_ (by first | omega | (simp; done) | (simp; omega)) _))) HG4.out (by simp; omega) (fun q hq => (HOW.out.lt q hq).1))) | (at_builtin; go_must (refine wpList_append_sl (s := .tmp 41) (m := i.length) (n := cur.length + 2) el_byte _ rfl rfl rfl rfl HO4.out (own_sl (own_keep (own_alloc HO2.out _) (fun b hb hl => HG4.out.block b hl (fun e => by have h1 := (HO2.out.lt b hb).1; have h2 := (HLT.out b e.symm).2; simp at h1; omega))) (u8s_one i)) (by omega) (by simp only [maxLen]; omega) (by exact HB4.out.size) ?_); intro v5 w5 hown5 hg5 _ _; have HO5 := Lib.hid hown5; have HG5 := Lib.hid hg5; clear hown5 hg5))
          go_roundw
          case rel =>
            have hlen : (cur ++ [tag % 256, (i.length : Int)] ++ i).length = cur.length + 2 + i.length := by simp [Nat.add_assoc, Nat.add_comm, Nat.add_left_comm]
            have hcs : u8s (cur ++ [tag % 256, (i.length : Int)] ++ i) = u8s cur ++ [.int .u8 (tag % 256), .int .u8 (i.length : Int)] ++ u8s i := by simp [u8s]
            refine ⟨k + 1, cur ++ [tag % 256, (i.length : Int)] ++ i, by omega, by go_num, by simp; omega, Lib.hid ?_, Q3, Below.grown HB4.out HG5.out HB4.out.size (fun q hq => (HO4.out.lt q hq).1)⟩
            rw [hlen, hcs]; exact HO5.out
          case measure => simp [intOf]; omega
      · obtain rfl : k = xs.length := by omega
        have hg2 := hg.out
        rw [List.drop_length] at hg2
        obtain rfl : cur = out := by simpa [layGo] using hg2
        have HB := Lib.hid hB; clear hB
        clear hg hg2
        go_wp2_with fail
        go_ret2
        exact ⟨_, rfl, hown.out, HB.out⟩

def BytesE (w : World) (out : List Int) (x : Int) (e : Ending) (w' : World) : Prop := ∃ vo, e = .returned (.tuple #[vo, .int .i64 x]) ∧ w'.ownsRow w.heap.size 5 1 vo out.length (u8s out) ∧ Below w.heap.size w w'

set_option maxHeartbeats 1000000 in
theorem tlv_put (d : Nat) (F : Nat → Prop) (v : Value) (es : List T) (out : List Int) (w : World) (hR : RepL d F w v es) (h1 : deepB d es 0 = false) (h2 : rightB d es = true) (h3 : layB d es = some out) (hd : d ≤ 100) :
    Calls Try.prog 31 #[v] w (BytesE w out 0) := by
  have HA := Lib.hid (deep_any d F v es 0 w hR (by omega) (by omega))
  rw [h1] at HA
  have HR := Lib.hid hR
  have H2 := Lib.hid h2; clear h2
  have H3 := Lib.hid h3; clear h3
  clear hR h1
  go_enter Try.func31, Try.ntmps31
  go_wp2_with fail
  refine (HA.out).mono ?_
  rintro e w1 ⟨rfl, hB1⟩
  have HB1 := Lib.hid hB1; clear hB1
  go_wp2_with fail
  refine (tright_any d F v es _ (HR.out.ofBelow HB1.out) H2.out).mono ?_
  rintro e w2 ⟨rfl, hB2⟩
  have HB2 := Lib.hid (HB1.out.trans (hB2.mono HB1.out.size)); clear hB2 HB1
  go_wp2_with fail
  refine (lay_any d F v es out _ (HR.out.ofBelow HB2.out) H3.out).mono ?_
  rintro e w3 ⟨vo, rfl, hown, hB3⟩
  have HO := Lib.hid (own_base hown HB2.out.size); clear hown
  have HB3 := Lib.hid (HB2.out.trans (hB3.mono HB2.out.size)); clear hB3
  go_wp2_with fail
  go_ret2
  exact ⟨_, rfl, HO.out, HB3.out⟩
end Go.Proofs.Ytlbfeoobeleobaa
