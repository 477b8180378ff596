/- tlv.get: what it answers, and its walk. -/
import Derived.Test.YtlbfeoobeleobaaForm
namespace Go.Proofs.Ytlbfeoobeleobaa
open Go.RowKit
set_option linter.unusedVariables false
set_option linter.unusedSimpArgs false

def getL (inner : List Int → Int × List T) (ex : Bool) : Nat → Int → List Int → List T → Int × List T
  | 0, _, _, acc => (0, acc)
  | _ + 1, _, [], acc => (0, acc)
  | _ + 1, last, [tag], acc => if ex then (15, []) else if tag ≤ last then (12, []) else (10, [])
  | f + 1, last, tag :: n :: r, acc =>
    if ex then (15, []) else if tag ≤ last then (12, []) else if (r.length : Int) < n then (10, []) else
    if tag < 128 then getL inner ex f tag (r.drop n.toNat) (acc ++ [.mk tag (r.take n.toNat) []])
    else if (inner (r.take n.toNat)).1 = 0 then getL inner ex f tag (r.drop n.toNat) (acc ++ [.mk tag [] (inner (r.take n.toNat)).2]) else ((inner (r.take n.toNat)).1, [])
def getP : Nat → List Int → Int × List T
  | 0, bs => getL (fun _ => (0, [])) true bs.length 0 bs []
  | d + 1, bs => getL (getP d) false bs.length 0 bs []

theorem getL_nil (inner : List Int → Int × List T) (ex : Bool) (f : Nat) (last : Int) (acc : List T) : getL inner ex f last [] acc = (0, acc) := by cases f <;> rfl
theorem getP_zero (b : Int) (bs : List Int) : getP 0 (b :: bs) = (15, []) := by cases bs <;> rfl

/-- 'b[l:]' of bytes -/
theorem sl_drop {w : World} {b o n c l : Nat} {cs : List Value} {a' : Option Addr} (h : Sl 1 w (.slice (some ⟨b, o, none⟩) n c) n cs) (hl : l ≤ n) (ha : a' = if c = l then some ⟨b, o, none⟩ else some ⟨b, o + l, none⟩) :
    Sl 1 w (.slice a' (n - l) (c - l)) (n - l) (cs.drop l) := by
  obtain ⟨h1, a, c', he, h2, h3, h4, h5⟩ := h
  obtain ⟨rfl, -, rfl⟩ := Value.slice.inj he
  rcases h5 with ⟨h, _⟩ | ⟨b', o', s, he, h5, h6⟩
  · cases h
  obtain ⟨rfl, rfl, rfl⟩ : b = b' ∧ o = o' ∧ none = s := by simpa using he
  refine ⟨by simp; omega, a', c - l, rfl, by omega, by omega, fun u hu => h4 u (List.mem_of_mem_drop hu), .inr ?_⟩
  by_cases hc : c = l
  · rw [if_pos hc] at ha
    refine ⟨b, o, none, ha, ?_, fun h => by omega⟩
    intro j u hu
    have : (cs.drop l)[j]? = none := by rw [List.getElem?_drop, List.getElem?_eq_none (by omega)]
    rw [this] at hu; cases hu
  · rw [if_neg hc] at ha
    refine ⟨b, o + l, none, ha, ?_, fun h => ⟨rfl, (h6 (by omega)).2⟩⟩
    intro j u hu
    rw [List.getElem?_drop] at hu
    rw [Nat.add_assoc]; exact h5 _ _ hu
/-- 'b[l:h]' of bytes -/
theorem sl_mid {w : World} {b o n c l m : Nat} {cs : List Value} {a' : Option Addr} (h : Sl 1 w (.slice (some ⟨b, o, none⟩) n c) n cs) (hl : l + m ≤ n) (ha : a' = if c = l then some ⟨b, o, none⟩ else some ⟨b, o + l, none⟩) :
    Sl 1 w (.slice a' m (c - l)) m ((cs.drop l).take m) := by
  obtain ⟨h1, a, c', he, h2, h3, h4, h5⟩ := sl_drop h (l := l) (by omega) ha
  obtain ⟨rfl, -, rfl⟩ := Value.slice.inj he
  have h0 := h.1
  refine ⟨by simp; omega, a', c - l, rfl, by omega, h3, fun u hu => h4 u (List.mem_of_mem_take hu), ?_⟩
  rcases h5 with ⟨rfl, h5, h6⟩ | ⟨b', o', s, rfl, h5, h6⟩
  · exact .inl ⟨rfl, by omega, h6⟩
  · refine .inr ⟨b', o', s, rfl, fun j u hu => ?_, fun h => h6 (by omega)⟩
    by_cases hj : j < m
    · rw [List.getElem?_take_of_lt hj] at hu; exact h5 j u hu
    · rw [List.getElem?_eq_none (by simp; omega)] at hu; cases hu
theorem u8s_drop (l : List Int) (k : Nat) : (u8s l).drop k = u8s (l.drop k) := by simp [u8s, List.map_drop]
theorem u8s_take (l : List Int) (k : Nat) : (u8s l).take k = u8s (l.take k) := by simp [u8s, List.map_take]
theorem u8s_at {w : World} {b o c : Nat} {l : List Int} (h : Sl 1 w (.slice (some ⟨b, o, none⟩) l.length c) l.length (u8s l)) {i : Nat} {x : Int} (hx : l[i]? = some x) : w.cell? ⟨b, o + i, none⟩ = some (.int .u8 x) := by
  obtain ⟨_, a, c', he, _, _, _, h5⟩ := h
  obtain ⟨rfl, -, rfl⟩ := Value.slice.inj he
  rcases h5 with ⟨h, _⟩ | ⟨b', o', s, he, h5, h6⟩
  · cases h
  obtain ⟨rfl, rfl, rfl⟩ : b = b' ∧ o = o' ∧ none = s := by simpa using he
  exact h5 i _ (by rw [u8s, List.getElem?_map, hx]; rfl)
theorem sl_some {w : World} {a : Option Addr} {n c : Nat} {cs : List Value} (h : Sl 1 w (.slice a n c) n cs) (hn : 0 < n) : ∃ b o, a = some ⟨b, o, none⟩ ∧ b < w.heap.size ∧ n ≤ c := by
  obtain ⟨_, a', c', he, h2, _, _, h5⟩ := h
  obtain ⟨rfl, -, rfl⟩ := Value.slice.inj he
  rcases h5 with ⟨_, h, _⟩ | ⟨b', o', s, rfl, h5, h6⟩
  · omega
  · obtain ⟨rfl, hb⟩ := h6 hn
    exact ⟨b', o', rfl, hb, h2⟩

theorem El.elem {P : Program} {t e sz bytes : Nat} (h : El P t e sz bytes) : P.elem t = e := by simp [Program.elem, h.und]
theorem cut_mid {P : Program} {t e bytes : Nat} (hE : El P t e 1 bytes) {w : World} {b o n c l m : Nat} {cs : List Value} (L H : Int) (h : Sl 1 w (.slice (some ⟨b, o, none⟩) n c) n cs) (hl : l + m ≤ n) (hL : L = l) (hH : H = l + m) :
    ∃ a', (∀ W, (Instr.slice t (.slice (some ⟨b, o, none⟩) n c) (some (.int .i64 L)) (some (.int .i64 H)) none).run P W = .ok (.slice a' m (c - l)) W) ∧ Sl 1 w (.slice a' m (c - l)) m ((cs.drop l).take m) := by
  refine ⟨_, fun W => ?_, sl_mid h hl rfl⟩
  obtain ⟨_, a, c', he, h2, _⟩ := h
  obtain ⟨-, -, rfl⟩ := Value.slice.inj he
  subst hL hH
  have hcell : P.cellsOf e = 1 := by obtain ⟨hu, ⟨i, z, hi, hz, hs, hb, hc⟩, hp⟩ := hE; simp [Program.cellsOf, hi, hs]
  rw [run_slice_lh W t _ n c (by rw [hE.elem]; exact hE.und) .i64 .i64 _ _ (by omega) (by omega) (by omega), hE.elem]
  obtain ⟨hu, ⟨i, z, hi, hz, hs, hb, hc⟩, hp⟩ := hE
  rw [run_sizeOf W hi, hcell]
  simp only [Result.andThen, sliced, Int.toNat_natCast, Nat.mul_one, Option.map_some, Addr.add_lit]
  rw [show ((l : Int) + m).toNat = l + m by omega, Nat.add_sub_cancel_left]
theorem cut_from {P : Program} {t e bytes : Nat} (hE : El P t e 1 bytes) {w : World} {b o n c l : Nat} {cs : List Value} (L : Int) (h : Sl 1 w (.slice (some ⟨b, o, none⟩) n c) n cs) (hl : l ≤ n) (hL : L = l) :
    ∃ a', (∀ W, (Instr.slice t (.slice (some ⟨b, o, none⟩) n c) (some (.int .i64 L)) none none).run P W = .ok (.slice a' (n - l) (c - l)) W) ∧ Sl 1 w (.slice a' (n - l) (c - l)) (n - l) (cs.drop l) := by
  refine ⟨_, fun W => ?_, sl_drop h hl rfl⟩
  subst hL
  have hcell : P.cellsOf e = 1 := by obtain ⟨hu, ⟨i, z, hi, hz, hs, hb, hc⟩, hp⟩ := hE; simp [Program.cellsOf, hi, hs]
  rw [run_slice_l W t _ n c (by rw [hE.elem]; exact hE.und) .i64 _ (by omega) (by omega), hE.elem]
  obtain ⟨hu, ⟨i, z, hi, hz, hs, hb, hc⟩, hp⟩ := hE
  rw [run_sizeOf W hi, hcell]
  simp only [Result.andThen, sliced, Int.toNat_natCast, Nat.mul_one, Option.map_some, Addr.add_lit]

theorem rep_append2 {d : Nat} {G : Nat → Prop} {xs : List EC} {w w' : World} {v v' : Value} (h : ∀ x ∈ xs, RepX d (fun b => v.ownBlock ≠ some b ∧ G b) w x) (hg : w.grownBy w' v.ownBlock) (hv : v'.ownBlock = v.ownBlock ∨ v'.ownBlock = some w.heap.size) :
    ∀ x ∈ xs, RepX d (fun b => v'.ownBlock ≠ some b ∧ G b) w' x := by
  intro x hx
  have h1 : RepX d (fun b => (v.ownBlock ≠ some b ∧ G b) ∧ b < w.heap.size) w x := (h x hx).weaken fun b hb hF => ⟨hF, hb⟩
  have h2 := h1.keep (w' := w') hg.size fun b hF hl => hg.block b hl fun e => hF.1.1 e.symm
  refine h2.weaken fun b _ hF => ⟨?_, hF.1.2⟩
  rcases hv with h | h
  · rw [h]; exact hF.1.1
  · rw [h]; intro e; have := hF.2; have := Option.some.inj e; omega

def GetPost (d : Nat) (w : World) (r : Int × List T) (e : Ending) (w' : World) : Prop :=
  ∃ v, e = .returned (.tuple #[v, .int .i64 r.1]) ∧ RepL d (fun b => w.heap.size ≤ b) w' v r.2 ∧ Below w.heap.size w w'

set_option maxHeartbeats 4000000 in
set_option maxRecDepth 100000 in
theorem get_any (d : Nat) : ∀ (i : Int) (v : Value) (bs : List Int) (w : World), i = 4 - d → d ≤ 4 → Sl 1 w v bs.length (u8s bs) → (∀ x ∈ bs, 0 ≤ x ∧ x < 256) → bs.length ≤ 140737488355328 →
    Calls Try.prog 60 #[v, .int .i64 i] w (GetPost d w (getP d bs)) := by
  induction d with
  | zero =>
    intro i v bs w hi hd hs hby hbl
    obtain rfl : i = 4 := by omega
    obtain ⟨a, c, rfl⟩ := hs.shape
    clear hi hd
    cases bs with
    | nil =>
      clear hs hby hbl
      simp only [List.length_nil]
      go_enter Try.func60, Try.ntmps60
      go_wp2_with fail
      go_loopw [0, 6, 7] (fun bv ev lv wr => bv = .slice a 0 c ∧ ev = .slice none 0 0 ∧ lv = .int .i64 0 ∧ wr = w) (fun _ _ _ _ => 0)
      case atStart => exact ⟨rfl, rfl, rfl, rfl⟩
      case round =>
        obtain ⟨rfl, rfl, rfl, rfl⟩ := hrel
        go_wp2_with fail
        go_ret2
        exact ⟨_, rfl, ⟨rfl, Sl.nil _ _⟩, Below.refl _ _⟩
    | cons x bs =>
      obtain ⟨b, o, rfl, hb, hc⟩ := sl_some hs (by simp)
      have c0 := u8s_at hs (i := 0) (x := x) rfl
      have hx := hby x (by simp)
      rw [getP_zero]
      clear hs hby
      simp only [List.length_cons] at hbl hc ⊢
      simp only [Nat.add_zero] at c0
      go_enter Try.func60, Try.ntmps60
      go_wp2_with fail
      go_loopw [0, 6, 7] (fun bv ev lv wr => bv = .slice (some ⟨b, o, none⟩) (bs.length + 1) c ∧ ev = .slice none 0 0 ∧ lv = .int .i64 0 ∧ wr = w) (fun _ _ _ _ => 0)
      case atStart => exact ⟨rfl, rfl, rfl, rfl⟩
      case round =>
        obtain ⟨rfl, rfl, rfl, rfl⟩ := hrel
        go_wp2_with fail
        go_ret2
        exact ⟨_, rfl, ⟨rfl, Sl.nil _ _⟩, Below.refl _ _⟩
  | succ d ih =>
    intro i v bs w hi hd hs hby hbl
    obtain ⟨a, c, rfl⟩ := hs.shape
    have h4 : i < 4 := by omega
    have hi0 : 0 ≤ i := by omega
    have HI := Lib.hid (show i + 1 = 4 - d by omega)
    clear hi
    have IH := Lib.hid ih; clear ih
    have HG := Lib.hid (show getL (getP d) false bs.length 0 bs [] = getP (d + 1) bs from rfl)
    have HS := Lib.hid hs; clear hs
    have HBY := Lib.hid hby; clear hby
    go_enter Try.func60, Try.ntmps60
    go_wp2_with fail
    go_loopw [0, 6, 7] (fun bv ev lv wr => ∃ (l : List Int) (f : Nat) (xs : List EC) (last : Int) (al : Option Addr) (cl : Nat), bv = .slice al l.length cl ∧ lv = .int .i64 last ∧ xs.length ≤ last ∧ last ≤ 255 ∧ l.length ≤ bs.length ∧ l.length ≤ f ∧ Hid (Sl 1 w (.slice al l.length cl) l.length (u8s l)) ∧ Hid (∀ x ∈ l, 0 ≤ x ∧ x < 256) ∧
      Hid (getL (getP d) false f last l (xs.map EC.t) = getP (d + 1) bs) ∧ Hid (wr.ownsRow w.heap.size 67 3 ev xs.length (xs.flatMap EC.cells)) ∧ Hid (∀ x ∈ xs, RepX d (fun b => ev.ownBlock ≠ some b ∧ w.heap.size ≤ b) wr x) ∧ Below w.heap.size w wr) (fun bv _ _ _ => match bv with | .slice _ n _ => n | _ => 0)
    case atStart => exact ⟨bs, bs.length, [], 0, a, c, rfl, rfl, by simp, by omega, by omega, by omega, HS, HBY, HG, Lib.hid (own_none _ _ _ _), Lib.hid (by simp), Below.refl _ _⟩
    case round =>
      obtain ⟨l, f, xs, last, al, cl, rfl, rfl, hxl, hla, hll, hlf, hsl, hbyt, hget, hown, hrep, hB⟩ := hrel
      clear HG HS HBY
      cases l with
      | nil =>
        have hg := hget.out
        rw [getL_nil] at hg
        have HG := Lib.hid hg; clear hg
        have HB := Lib.hid hB; clear hB
        clear hget hsl hbyt
        simp only [List.length_nil]
        go_wp2_with fail
        go_ret2
        rw [← HG.out]
        exact ⟨_, rfl, RepL.mk (by omega) ⟨own_sl hown.out (ec_cells_one hrep.out), fun _ b hb => (hown.out.lt b hb).1⟩ (fun x hx => (hrep.out x hx).weaken fun b _ hF => hF.2), HB.out⟩
      | cons tag l =>
        obtain ⟨b, o, rfl, hb, hc⟩ := sl_some hsl.out (by simp)
        have c0 := u8s_at hsl.out (i := 0) (x := tag) rfl
        simp only [Nat.add_zero] at c0
        have hx := hbyt.out tag (by simp)
        replace c0 := (hB.cell (p := ⟨b, o, none⟩) hb).trans c0
        obtain ⟨f, rfl⟩ : ∃ q, f = q + 1 := ⟨f - 1, by simp at hlf; omega⟩
        by_cases ht : tag ≤ last
        · have hg : getP (d + 1) bs = (12, []) := by
            rw [← hget.out]
            cases l <;> simp [getL, ht]
          rw [hg]
          clear hg hget hsl hbyt hown hrep
          have HB := Lib.hid hB; clear hB
          simp only [List.length_cons] at hc hll hlf ⊢
          go_wp2_with fail
          go_ret2
          exact ⟨_, rfl, RepL.mk (xs := []) (by simp) (SlF.nil _ _ _) (by simp), HB.out⟩
        · cases l with
          | nil =>
            have hg : getP (d + 1) bs = (10, []) := by rw [← hget.out]; simp [getL, ht]
            rw [hg]
            clear hg hget hsl hbyt hown hrep
            have HB := Lib.hid hB; clear hB
            simp only [List.length_cons, List.length_nil] at hc hll hlf ⊢
            go_wp2_with fail
            go_ret2
            exact ⟨_, rfl, RepL.mk (xs := []) (by simp) (SlF.nil _ _ _) (by simp), HB.out⟩
          | cons n l =>
            have c1 := u8s_at hsl.out (i := 1) (x := n) rfl
            have hn := hbyt.out n (by simp)
            replace c1 := (hB.cell (p := ⟨b, o + 1, none⟩) hb).trans c1
            by_cases hnl : (l.length : Int) < n
            · have hg : getP (d + 1) bs = (10, []) := by rw [← hget.out]; simp [getL, ht, hnl]
              rw [hg]
              clear hg hget hsl hbyt hown hrep
              have HB := Lib.hid hB; clear hB
              simp only [List.length_cons] at hc hll hlf ⊢
              go_wp2_with fail
              go_ret2
              exact ⟨_, rfl, RepL.mk (xs := []) (by simp) (SlF.nil _ _ _) (by simp), HB.out⟩
            · obtain ⟨m, rfl⟩ : ∃ m : Nat, n = m := ⟨n.toNat, by omega⟩
              have hm : m ≤ l.length := by omega
              have hm2 : m < 256 := by omega
              obtain ⟨a1, hr1, hbody⟩ := cut_mid el_byte 2 (2 + m) hsl.out (l := 2) (m := m) (by simp; omega) (by omega) (by omega)
              obtain ⟨a2, hr2, hrest⟩ := cut_from el_byte (2 + m) hsl.out (l := 2 + m) (by simp; omega) (by omega)
              rw [u8s_drop, u8s_take, show (tag :: (m : Int) :: l).drop 2 = l from rfl] at hbody
              have hN : (tag :: (m : Int) :: l).length - (2 + m) = (l.drop m).length := by simp; omega
              rw [hN] at hr2 hrest
              rw [u8s_drop, show (tag :: (m : Int) :: l).drop (2 + m) = l.drop m by rw [Nat.add_comm]; rfl] at hrest
              clear hN
              have HBO := Lib.hid hbody; clear hbody
              have HRE := Lib.hid hrest; clear hrest
              have hg := hget.out
              clear hget hsl hnl hn
              simp only [List.length_cons] at hc hll hlf hb hr1 hr2 ⊢
              have hBs := hB.size
              have hb2 : b < wr.heap.size := by omega
              by_cases hlt : tag < 128
              · rw [getL, if_neg (by decide), if_neg ht, if_neg (by omega), if_pos hlt, Int.toNat_natCast] at hg
                have HG := Lib.hid hg; clear hg
                have HB := Lib.hid hB; clear hB
                go_wp2_with fail
                refine (clone_byte _ m (u8s (l.take m)) _ (HBO.out.ofBelow (by repeat' (first | exact Below.refl _ _ | exact HB.out | refine Below.alloc ?_ (by first | omega | (simp; done) | (simp; omega)) _ | refine Below.drew ?_ | refine below_drewN ?_ _ | refine Below.setCell ?_ (by first | omega | (simp; done) | (simp; omega)) _))) (by omega)).mono ?_
                rintro ed w3 ⟨v3, rfl, hown3, hB3⟩
                obtain ⟨a3, c3, rfl⟩ := own_shape hown3
                have hs3 : wr.heap.size < w3.heap.size := by have := hB3.size; simp at this; omega
                obtain ⟨hcc, hff⟩ := bcell hB3
                have HBR := Lib.hid (show Below wr.heap.size wr (w3.setCell ⟨wr.heap.size, 1, none⟩ (.slice a3 m c3)) from ((((Below.refl _ _).alloc (Nat.le_refl _) _).trans (hB3.mono (by simp))).setCell (Nat.le_refl _) _))
                have HO3 := Lib.hid hown3
                have HOW := Lib.hid (own_ofBelow hown.out HBR.out)
                have HLT := Lib.hid hown.out.lt
                have HBW := Lib.hid (HB.out.trans (HBR.out.mono HB.out.size))
                have HEC := Lib.hid (show Sl 1 (w3.setCell ⟨wr.heap.size, 1, none⟩ (.slice a3 m c3)) (.slice a3 m c3) m (u8s (l.take m)) from (own_sl hown3 (u8s_one _)).setCell (fun e => by have := (hown3.lt _ e).1; simp at this; omega) _)
                have hlen : (l.take m).length = m := by simp; omega
                have HLEN := Lib.hid hlen; clear hlen
                have HRP := Lib.hid (show ∀ x ∈ xs ++ [⟨tag, .slice a3 m c3, .slice none 0 0, l.take m, []⟩], RepX d (fun b => u6.ownBlock ≠ some b ∧ w.heap.size ≤ b) (w3.setCell ⟨wr.heap.size, 1, none⟩ (.slice a3 m c3)) x from fun x hx => by
                  rcases List.mem_append.1 hx with hx | hx
                  · exact (hrep.out x hx).ofBelow HBR.out
                  · rw [List.mem_singleton.1 hx]
                    refine ⟨show (l.take m).length ≤ 255 by rw [HLEN.out]; omega, ⟨by rw [HLEN.out]; exact HEC.out, fun _ b hb => ?_⟩, ?_⟩
                    · have h1 := (HO3.out.lt b hb).1
                      simp at h1
                      exact ⟨fun e => by have h2 := (HLT.out b e).2; omega, by omega⟩
                    · cases d with
                      | zero => exact ⟨rfl, Sl.nil _ _⟩
                      | succ d => exact RepL.mk (xs := []) (by simp) (SlF.nil _ _ _) (by simp))
                clear hB3 hown hrep hown3
                go_wp2_with (at_builtin; go_must (refine wpList_append_sl (m := 1) (n := xs.length) el_Elem _ rfl rfl rfl rfl (own_alloc HOW.out _) (sl_lit (n := 1) _ #[.int .i64 tag, .slice a3 m c3, .slice none 0 0] 67 (by first | rfl | (simp; done)) rfl (by simp [maxLen]) (by intro u hu; simp at hu; rcases hu with rfl | rfl | rfl <;> rfl)) (by omega) (by simp only [maxLen]; omega) (by first | omega | (simp; done) | (simp; omega)) ?_); intro v4 w4 hown4 hg4 _ hv4; have HO4 := Lib.hid hown4; have HG4 := Lib.hid hg4; have HV4 := Lib.hid hv4; clear hown4 hg4 hv4)
                go_quiet (fail)
                go_wp2_with fail
                go_roundw
                case rel =>
                  refine ⟨l.drop m, f, xs ++ [⟨tag, .slice a3 m c3, .slice none 0 0, l.take m, []⟩], tag, a2, cl - (2 + m), by rw [List.length_drop], rfl, by simp; omega, by omega, by simp; omega, by simp; omega, HRE, Lib.hid (fun x hx => hbyt.out x (by have := List.mem_of_mem_drop hx; simp [this])), Lib.hid (by rw [List.map_append]; exact HG.out), Lib.hid ?_, Lib.hid ?_, below_drewN (Below.grown (show Below w.heap.size w _ from (by repeat' (first | exact Below.refl _ _ | exact HBW.out | refine Below.alloc ?_ (by first | omega | (simp; done) | (simp; omega)) _ | refine Below.drew ?_ | refine below_drewN ?_ _ | refine Below.setCell ?_ (by first | omega | (simp; done) | (simp; omega)) _))) HG4.out (by simp; omega) (fun q hq => (HOW.out.lt q hq).1)) _⟩
                  · rw [List.length_append, List.length_singleton, List.flatMap_append]; exact HO4.out
                  · exact fun x hx => (rep_append2 (w' := w4) (v := u6) (fun x hx => (HRP.out x hx).ofBelow ((Below.refl _ _).alloc (Nat.le_refl _) _)) HG4.out HV4.out x hx).keep (Nat.le_refl _) (fun _ _ _ => rfl)
                case measure => simp; omega
              · have hlen : (l.take m).length = m := by simp; omega
                have hb6 : Sl 1 w (.slice a1 (l.take m).length (cl - 2)) (l.take m).length (u8s (l.take m)) := by rw [hlen]; exact HBO.out
                rw [getL, if_neg (by decide), if_neg ht, if_neg (by omega), if_neg hlt, Int.toNat_natCast] at hg
                have HB := Lib.hid hB; clear hB
                have HBX := Lib.hid (show Below wr.heap.size wr (wr.alloc (.cells #[.int .i64 tag, .slice none 0 0, .slice none 0 0] 67)) from (Below.refl _ _).alloc (Nat.le_refl _) _)
                have hi5 : i + 1 ≤ 9223372036854775807 := by omega
                have hcall := IH.out (i + 1) (.slice a1 (l.take m).length (cl - 2)) (l.take m) (wr.alloc (.cells #[.int .i64 tag, .slice none 0 0, .slice none 0 0] 67)) (HI.out) (by omega) (hb6.ofBelow (HB.out.trans (HBX.out.mono HB.out.size))) (fun x hx => hbyt.out x (by have := List.mem_of_mem_take hx; simp [this])) (by omega)
                rw [hlen] at hcall
                clear hb6
                generalize getP d (l.take m) = r at *
                obtain ⟨e1, kids⟩ := r
                have HCALL := Lib.hid hcall; clear hcall
                have HLEN := Lib.hid hlen; clear hlen
                simp only at hg
                by_cases he : e1 = 0
                · rw [if_pos he] at hg
                  subst he
                  have HG := Lib.hid hg; clear hg
                  go_wp2_with fail
                  refine (HCALL.out).mono ?_
                  rintro ed w3 ⟨v3, rfl, hrep3, hB3⟩
                  obtain ⟨a3, c3, rfl⟩ := hrep3.shape
                  have hs3 : wr.heap.size < w3.heap.size := by have := hB3.size; simp at this; omega
                  obtain ⟨hcc, hff⟩ := bcell hB3
                  have HBR := Lib.hid (show Below wr.heap.size wr (w3.setCell ⟨wr.heap.size, 2, none⟩ (.slice a3 kids.length c3)) from (((HBX.out).trans (hB3.mono (by simp))).setCell (Nat.le_refl _) _))
                  have HOW := Lib.hid (own_ofBelow hown.out HBR.out)
                  have HLT := Lib.hid hown.out.lt
                  have HBW := Lib.hid (HB.out.trans (HBR.out.mono HB.out.size))
                  have HRP := Lib.hid (show ∀ x ∈ xs ++ [⟨tag, .slice none 0 0, .slice a3 kids.length c3, [], kids⟩], RepX d (fun b => u6.ownBlock ≠ some b ∧ w.heap.size ≤ b) (w3.setCell ⟨wr.heap.size, 2, none⟩ (.slice a3 kids.length c3)) x from fun x hx => by
                    rcases List.mem_append.1 hx with hx | hx
                    · exact (hrep.out x hx).ofBelow HBR.out
                    · rw [List.mem_singleton.1 hx]
                      refine ⟨by simp, SlF.nil _ _ _, ?_⟩
                      refine (hrep3.keep (w' := w3.setCell ⟨wr.heap.size, 2, none⟩ (.slice a3 kids.length c3)) (by simp) (fun b hF _ => Below.heap_setCell _ _ _ _ (fun e => by simp at hF e; omega))).weaken (fun b _ hF => ?_)
                      simp at hF
                      exact ⟨fun e => by have h2 := (HLT.out b e).2; omega, by omega⟩)
                  clear hB3 hown hrep hrep3
                  go_wp2_with (at_builtin; go_must (refine wpList_append_sl (m := 1) (n := xs.length) el_Elem _ rfl rfl rfl rfl (own_alloc HOW.out _) (sl_lit (n := 1) _ #[.int .i64 tag, .slice none 0 0, .slice a3 kids.length c3] 67 (by first | rfl | (simp; done)) rfl (by simp [maxLen]) (by intro u hu; simp at hu; rcases hu with rfl | rfl | rfl <;> rfl)) (by omega) (by simp only [maxLen]; omega) (by first | omega | (simp; done) | (simp; omega)) ?_); intro v4 w4 hown4 hg4 _ hv4; have HO4 := Lib.hid hown4; have HG4 := Lib.hid hg4; have HV4 := Lib.hid hv4; clear hown4 hg4 hv4)
                  go_quiet (fail)
                  go_wp2_with fail
                  go_roundw
                  case rel =>
                    refine ⟨l.drop m, f, xs ++ [⟨tag, .slice none 0 0, .slice a3 kids.length c3, [], kids⟩], tag, a2, cl - (2 + m), by rw [List.length_drop], rfl, by simp; omega, by omega, by simp; omega, by simp; omega, HRE, Lib.hid (fun x hx => hbyt.out x (by have := List.mem_of_mem_drop hx; simp [this])), Lib.hid (by rw [List.map_append]; exact HG.out), Lib.hid ?_, Lib.hid ?_, below_drewN (Below.grown (show Below w.heap.size w _ from (by repeat' (first | exact Below.refl _ _ | exact HBW.out | refine Below.alloc ?_ (by first | omega | (simp; done) | (simp; omega)) _ | refine Below.drew ?_ | refine below_drewN ?_ _ | refine Below.setCell ?_ (by first | omega | (simp; done) | (simp; omega)) _))) HG4.out (by simp; omega) (fun q hq => (HOW.out.lt q hq).1)) _⟩
                    · rw [List.length_append, List.length_singleton, List.flatMap_append]; exact HO4.out
                    · exact fun x hx => (rep_append2 (w' := w4) (v := u6) (fun x hx => (HRP.out x hx).ofBelow ((Below.refl _ _).alloc (Nat.le_refl _) _)) HG4.out HV4.out x hx).keep (Nat.le_refl _) (fun _ _ _ => rfl)
                  case measure => simp; omega
                · rw [if_neg he] at hg
                  rw [← hg]
                  have d0 : (e1 != 0) = true := by simp [he]
                  clear hg
                  have HE := Lib.hid he; clear he
                  go_wp2_with fail
                  refine (HCALL.out).mono ?_
                  rintro ed w3 ⟨v3, rfl, hrep3, hB3⟩
                  have HBW := Lib.hid (HB.out.trans ((HBX.out.trans (hB3.mono (by simp))).mono HB.out.size))
                  clear hB3 hrep3
                  go_wp2_with fail
                  go_ret2
                  exact ⟨_, rfl, RepL.mk (xs := []) (by simp) (SlF.nil _ _ _) (by simp), HBW.out⟩

set_option maxHeartbeats 1000000 in
theorem tlv_get (v : Value) (bs : List Int) (w : World) (hs : Sl 1 w v bs.length (u8s bs)) (hb : ∀ x ∈ bs, 0 ≤ x ∧ x < 256) (hl : bs.length ≤ 140737488355328) :
    Calls Try.prog 38 #[v] w (GetPost 4 w (getP 4 bs)) := by
  have HC := Lib.hid (get_any 4 0 v bs w (by omega) (by omega) hs hb hl)
  clear hs hb
  generalize getP 4 bs = r at *
  go_enter Try.func38, Try.ntmps38
  go_wp2_with fail
  refine (HC.out).mono ?_
  rintro e w' ⟨v', rfl, hr, hB⟩
  have HR := Lib.hid hr; clear hr
  go_wp2_with fail
  go_ret2
  exact ⟨_, rfl, HR.out, hB⟩
end Go.Proofs.Ytlbfeoobeleobaa
