/- Package bits: the writer and the reader. -/
import Derived.Test.YtlbfeoobeleobaaGen
import Derived.Test.YtlbfeoobeleobaaBytes
import Derived.StillTailTactics
namespace Go.Proofs.Ytlbfeoobeleobaa
open Go.RowKit
set_option linter.unusedVariables false
set_option linter.unusedSimpArgs false

theorem shr_zero {v : Int} {k : Nat} (h0 : 0 ≤ v) (h1 : v < 2 ^ k) : v / 2 ^ k = 0 := Int.ediv_eq_zero_of_lt h0 h1

set_option maxHeartbeats 1000000 in
theorem bits_right (wd v : Int) (w : World) (h1 : 1 ≤ wd) (h2 : wd ≤ 32) (h3 : 0 ≤ v) (h4 : v < 2 ^ wd.toNat) :
    Calls Try.prog 65 #[.agg #[.int .i64 wd, .int .i64 v]] w (RetB true w) := by
  have H4 := Lib.hid h4; clear h4
  have h0 : 0 ≤ wd := by omega
  go_enter Try.func65, Try.ntmps65
  go_wp2
  go_ret
  exact ⟨ret_bool (by rw [Int.ediv_eq_zero_of_lt h3 H4.out]; rfl), (Below.refl _ _).alloc (Nat.le_refl _) _⟩

/-- a writer at block p: its bytes in the row v, how many bits it has -/
structure WAt (w : World) (p : Nat) (v : Value) (bytes : List Int) (n : Nat) : Prop where
  c0 : w.cell? ⟨p, 0, none⟩ = some v
  c1 : w.cell? ⟨p, 1, none⟩ = some (.int .i64 n)
  f0 : w.frozen? ⟨p, 0, none⟩ = false
  f1 : w.frozen? ⟨p, 1, none⟩ = false
  own : w.ownsRow 0 5 1 v bytes.length (bytes.map (Value.int .u8))
  ne : v.ownBlock ≠ some p

theorem WAt.lt {w : World} {p : Nat} {v : Value} {bytes : List Int} {n : Nat} (H : WAt w p v bytes n) : p < w.heap.size := World.block_lt_of_cell? _ _ H.c0
theorem WAt.keep {w w' : World} {p : Nat} {v : Value} {bytes : List Int} {n : Nat} (H : WAt w p v bytes n) (hp : w'.heap[p]? = w.heap[p]?) (hv : ∀ b, v.ownBlock = some b → b < w.heap.size → w'.heap[b]? = w.heap[b]?) : WAt w' p v bytes n :=
  ⟨(World.cell?_of_block (a := ⟨p, 0, none⟩) hp).trans H.c0, (World.cell?_of_block (a := ⟨p, 1, none⟩) hp).trans H.c1, (World.frozen?_of_block (a := ⟨p, 0, none⟩) hp).trans H.f0, (World.frozen?_of_block (a := ⟨p, 1, none⟩) hp).trans H.f1, own_keep H.own hv, H.ne⟩
theorem WAt.ofBelow {w w' : World} {p : Nat} {v : Value} {bytes : List Int} {n : Nat} (H : WAt w p v bytes n) (hB : Below w.heap.size w w') : WAt w' p v bytes n :=
  H.keep (hB.block p H.lt) fun b _ hl => hB.block b hl

theorem WAt.drew {w : World} {p : Nat} {v : Value} {bytes : List Int} {n : Nat} (H : WAt w p v bytes n) : WAt w.drew p v bytes n := ⟨H.c0, H.c1, H.f0, H.f1, H.own, H.ne⟩

/-- behind 'w.b = append(w.b, 0)' -/
theorem WAt.append {w w3 : World} {p : Nat} {v v3 : Value} {bytes : List Int} {n : Nat} (H : WAt w p v bytes n) (o : Obj) (hown : w3.ownsRow 0 5 1 v3 (bytes.length + 1) (bytes.map (Value.int .u8) ++ [.int .u8 0])) (hg : (w.alloc o).grownBy w3 v.ownBlock)
    (hv : v3.ownBlock = v.ownBlock ∨ v3.ownBlock = some (w.alloc o).heap.size) : WAt (w3.setCell ⟨p, 0, none⟩ v3) p v3 (bytes ++ [0]) n := by
  have hlt := H.lt
  have hp : w3.heap[p]? = w.heap[p]? := (hg.block p (by simp; omega) (fun e => H.ne e.symm)).trans (Below.heap_alloc w o p hlt)
  have hne : v3.ownBlock ≠ some p := by
    rcases hv with h | h
    · rw [h]; exact H.ne
    · rw [h]; simp; omega
  have c0 : w3.cell? ⟨p, 0, none⟩ = some v := (World.cell?_of_block (a := ⟨p, 0, none⟩) hp).trans H.c0
  refine ⟨World.cell?_setCell_same _ _ _ c0, ?_, ?_, ?_, ?_, hne⟩
  · rw [World.cell?_setCell_other _ _ _ _ (by simp)]
    exact (World.cell?_of_block (a := ⟨p, 1, none⟩) hp).trans H.c1
  · rw [World.frozen?_setCell]; exact (World.frozen?_of_block (a := ⟨p, 0, none⟩) hp).trans H.f0
  · rw [World.frozen?_setCell]; exact (World.frozen?_of_block (a := ⟨p, 1, none⟩) hp).trans H.f1
  · refine own_keep (w := w3) ?_ fun b hb _ => Below.heap_setCell _ _ _ _ (fun e => hne (by rw [hb, e]))
    simpa using hown

/-- behind 'w.b[i] = x; w.n = m' -/
theorem WAt.bit {w : World} {p g m i : Nat} {v : Value} {bytes : List Int} {n c : Nat} (H : WAt w p v bytes n) (x : Int) (hv : v = .slice (some ⟨g, 0, none⟩) bytes.length c) (hi : i < bytes.length) :
    WAt ((w.setCell ⟨g, i, none⟩ (.int .u8 x)).setCell ⟨p, 1, none⟩ (.int .i64 m)) p v (bytes.set i x) m := by
  obtain ⟨c0, c1, f0, f1, own, ne⟩ := H
  obtain ⟨g', c', hv', _, _, hg, gc, gf, gs⟩ := own_cell own (i := i) (by simpa using hi)
  rw [hv] at hv'
  obtain ⟨hg', -, -⟩ := Value.slice.inj hv'
  obtain rfl : g = g' := by have := Option.some.inj hg'; exact (Addr.mk.inj this).1
  have hgp : g ≠ p := fun e => ne (by rw [hv]; simp [Value.ownBlock, e])
  have d0 : (w.setCell ⟨g, i, none⟩ (.int .u8 x)).cell? ⟨p, 0, none⟩ = some v := by rw [World.cell?_setCell_other _ _ _ _ (by simp [hgp])]; exact c0
  have d1 : (w.setCell ⟨g, i, none⟩ (.int .u8 x)).cell? ⟨p, 1, none⟩ = some (.int .i64 n) := by rw [World.cell?_setCell_other _ _ _ _ (by simp [hgp])]; exact c1
  refine ⟨?_, World.cell?_setCell_same _ _ _ d1, ?_, ?_, ?_, ne⟩
  · rw [World.cell?_setCell_other _ _ _ _ (by simp)]; exact d0
  · rw [World.frozen?_setCell, World.frozen?_setCell]; exact f0
  · rw [World.frozen?_setCell, World.frozen?_setCell]; exact f1
  · refine own_keep (w := w.setCell ⟨g, i, none⟩ (.int .u8 x)) ?_ fun b hb _ => Below.heap_setCell _ _ _ _ (fun e => ne (by rw [hb, e]))
    have := gs (.int .u8 x)
    rw [List.length_set, List.map_set]; exact this

/-- what a call of Put leaves -/
def PutPost (w : World) (p : Nat) (v : Value) (bytes : List Int) (ed : Ending) (w' : World) : Prop :=
  ed = .returned (.int .i64 0) ∧ Chg (fun x => x = p ∨ v.ownBlock = some x) w w' ∧ ∃ v', WAt w' p v' bytes (8 * bytes.length) ∧ (v'.ownBlock = v.ownBlock ∨ ∃ g, v'.ownBlock = some g ∧ w.heap.size ≤ g)

def fieldsBytes (fs : List (Nat × Int)) : List Int := fs.flatMap fun f => be f.1 f.2
theorem fieldsBytes_succ (fs : List (Nat × Int)) (k : Nat) (hk : k < fs.length) : fieldsBytes (fs.take (k + 1)) = fieldsBytes (fs.take k) ++ be fs[k].1 fs[k].2 := by
  unfold fieldsBytes
  rw [List.take_succ_eq_append_getElem hk, List.flatMap_append, List.flatMap_singleton]
theorem fieldsBytes_le (fs : List (Nat × Int)) (h : ∀ f ∈ fs, f.1 ≤ 4) : (fieldsBytes fs).length ≤ 4 * fs.length := by
  induction fs with
  | nil => simp [fieldsBytes]
  | cons f fs ih =>
    have h1 := h f (by simp)
    have h2 := ih (fun g hg => h g (by simp [hg]))
    simp only [fieldsBytes, List.flatMap_cons, List.length_append, be_length, List.length_cons] at h2 ⊢
    omega

theorem chg_grown {F : Nat → Prop} {a w w' : World} {row : Option Nat} (h : Chg F a w) (hg : w.grownBy w' row) (hr : ∀ k, row = some k → k < a.heap.size → F k) : Chg F a w' :=
  ⟨hg.os.trans h.os, hg.tape.trans h.tape, hg.output.trans h.output, Nat.le_trans h.size hg.size, fun k hk hn => (hg.block k (Nat.lt_of_lt_of_le hk h.size) (fun e => hn (hr k e.symm hk))).trans (h.block k hk hn)⟩
theorem chg_alloc {F : Nat → Prop} {a w : World} (h : Chg F a w) (o : Obj) : Chg F a (w.alloc o) :=
  h.trans ⟨rfl, rfl, rfl, by simp, fun k hk _ => Below.heap_alloc w o k hk⟩
theorem chg_drew {F : Nat → Prop} {a w : World} (h : Chg F a w) : Chg F a w.drew := ⟨h.os, h.tape, h.output, h.size, h.block⟩
theorem chg_setCell {F : Nat → Prop} {a w : World} (h : Chg F a w) {p : Addr} (hp : p.block < a.heap.size → F p.block) (u : Value) : Chg F a (w.setCell p u) :=
  ⟨h.os, h.tape, h.output, by simp [World.setCell]; exact h.size, fun k hk hn => (Below.heap_setCell _ _ _ _ (fun e => hn (by rw [e]; exact hp (by rw [← e]; exact hk)))).trans (h.block k hk hn)⟩

set_option maxHeartbeats 8000000 in
set_option maxRecDepth 100000 in
theorem bits_put (p b c : Nat) (v : Value) (fs : List (Nat × Int)) (bytes : List Int) (w : World)
    (hW : WAt w p v bytes (8 * bytes.length)) (hfs : ∀ i (h : i < fs.length), w.cell? ⟨b, i * 2, none⟩ = some (.int .i64 (8 * fs[i].1 : Nat)) ∧ w.cell? ⟨b, i * 2 + 1, none⟩ = some (.int .i64 fs[i].2)) (hb : b < w.heap.size)
    (hbp : b ≠ p) (hbv : v.ownBlock ≠ some b) (hlen : fs.length ≤ 1000)
    (hr : ∀ f ∈ fs, 1 ≤ f.1 ∧ f.1 ≤ 4 ∧ 0 ≤ f.2 ∧ f.2 < 2 ^ (8 * f.1)) (hn : bytes.length ≤ 1000000000) :
    Calls Try.prog 50 #[.pointer (some ⟨p, 0, none⟩), .slice (some ⟨b, 0, none⟩) fs.length c] w (PutPost w p v (bytes ++ fieldsBytes fs)) := by
  have HF := Lib.hid hfs; clear hfs
  have HR := Lib.hid hr; clear hr
  have HW := Lib.hid hW; clear hW
  have hpl : p < w.heap.size := HW.out.lt
  have HBV := Lib.hid hbv; clear hbv
  go_enter Try.func50, Try.ntmps50
  go_wp2_with fail
  go_loopw [12] (fun i wr => ∃ k : Nat, k ≤ fs.length ∧ i = .int .i64 k ∧ Below w.heap.size w wr) (fun i _ => fs.length - (intOf i).toNat)
  case atStart => exact ⟨0, by omega, rfl, Below.refl _ _⟩
  case round =>
    obtain ⟨k, hk, rfl, hB⟩ := hrel
    have hws : w.heap.size ≤ wr.heap.size := hB.size
    by_cases hlt : k < fs.length
    · obtain ⟨c0, c1⟩ := HF.out k hlt
      rw [← hB.cell (p := ⟨b, _, none⟩) hb] at c0 c1
      obtain ⟨r1, r2, r3, r4⟩ := HR.out fs[k] (List.getElem_mem hlt)
      generalize fs[k] = f at *
      obtain ⟨wd, vl⟩ := f
      have R4 := Lib.hid r4; clear r4
      have HB := Lib.hid hB; clear hB
      simp only at c0 c1 r1 r2 r3
      go_wp2_with fail
      refine (bits_right _ vl _ (by omega) (by omega) r3 (by rw [show (8 * (wd : Int)).toNat = 8 * wd by omega]; exact R4.out)).mono ?_
      rintro e w2 ⟨rfl, hB2⟩
      go_wp2_with fail
      go_roundw
      case rel => exact ⟨k + 1, by omega, by go_num, (HB.out.alloc hws _).trans (hB2.mono (by first | omega | (simp; done) | (simp; omega)))⟩
      case measure => simp [intOf]; omega
    · obtain rfl : k = fs.length := by omega
      have HB1 := Lib.hid hB; clear hB
      clear hlt hk
      go_wp2_with fail
      go_loopw [22] (fun i wq => ∃ (k : Nat) (v1 : Value), k ≤ fs.length ∧ i = .int .i64 k ∧ WAt wq p v1 (bytes ++ fieldsBytes (fs.take k)) (8 * (bytes ++ fieldsBytes (fs.take k)).length) ∧ Chg (fun x => x = p ∨ v.ownBlock = some x) w wq ∧ Hid (v1.ownBlock = v.ownBlock ∨ ∃ g, v1.ownBlock = some g ∧ w.heap.size ≤ g)) (fun i _ => fs.length - (intOf i).toNat)
      case atStart => exact ⟨0, v, by omega, rfl, by simpa [fieldsBytes] using HW.out.ofBelow HB1.out, Chg.ofBelow HB1.out, .inl rfl⟩
      case round =>
        clear hws HB1
        obtain ⟨k, v1, hk, rfl, hW1, hC1, hv1⟩ := hrel
        by_cases hlt : k < fs.length
        · obtain ⟨c0, c1⟩ := HF.out k hlt
          have hCb : wr.heap[b]? = w.heap[b]? := hC1.block b hb (fun h => h.elim hbp HBV.out)
          rw [← World.cell?_of_block (a := ⟨b, k * 2, none⟩) hCb] at c0
          rw [← World.cell?_of_block (a := ⟨b, k * 2 + 1, none⟩) hCb] at c1
          obtain ⟨r1, r2, r3, r4⟩ := HR.out fs[k] (List.getElem_mem hlt)
          have hfb : bytes ++ fieldsBytes (fs.take (k + 1)) = (bytes ++ fieldsBytes (fs.take k)) ++ be fs[k].1 fs[k].2 := by
            rw [fieldsBytes_succ fs k hlt, List.append_assoc]
          have hbl : (bytes ++ fieldsBytes (fs.take k)).length ≤ 1000004000 := by
            have := fieldsBytes_le (fs.take k) (fun f hf => (HR.out f (List.mem_of_mem_take hf)).2.1)
            rw [List.length_take] at this
            rw [List.length_append]; omega
          generalize bytes ++ fieldsBytes (fs.take k) = bytes1 at *
          have HFB := Lib.hid hfb; clear hfb
          generalize fs[k] = f at *
          obtain ⟨M, vl⟩ := f
          simp only at c0 c1 r1 r2 r3 r4
          have R5 := Lib.hid (show vl < 2 ^ 62 from Int.lt_of_lt_of_le r4 (by
            have : M = 1 ∨ M = 2 ∨ M = 3 ∨ M = 4 := by omega
            rcases this with rfl | rfl | rfl | rfl <;> decide))
          have R4 := Lib.hid r4; clear r4
          obtain ⟨q, hq⟩ : ∃ q : Nat, q + 1 = 8 * M := ⟨8 * M - 1, by omega⟩
          rw [← hq] at c0
          have HQ := Lib.hid hq
          have hq32 : q ≤ 31 := by omega
          clear hq r1 r2
          have HW1 := Lib.hid hW1; clear hW1
          have HC1 := Lib.hid hC1; clear hC1
          have hws2 : w.heap.size ≤ wr.heap.size := HC1.out.size
          clear hCb
          obtain ⟨wo, rfl⟩ : ∃ wo : World, wo = wr := ⟨_, rfl⟩
          go_wp2_with fail
          go_loopw [9] (fun i wz => ∃ (d N : Nat) (v2 : Value), d ≤ q + 1 ∧ i = .int .i64 (q - d) ∧ Hid (N = 8 * bytes1.length + d) ∧ WAt wz p v2 (bytes1 ++ laid vl q d) N ∧ Chg (fun x => x = p ∨ v.ownBlock = some x) w wz ∧ Hid (v2.ownBlock = v.ownBlock ∨ ∃ g, v2.ownBlock = some g ∧ w.heap.size ≤ g) ∧ Hid (v2.ownBlock ≠ some wo.heap.size) ∧ wo.heap.size + 1 ≤ wz.heap.size ∧ wz.cell? ⟨wo.heap.size, 1, none⟩ = some (.int .i64 vl)) (fun i _ => (intOf i + 1).toNat)
          case atStart =>
            refine ⟨0, 8 * bytes1.length, v1, by omega, by simp, by simp [Hid], ?_, chg_alloc HC1.out _, hv1, ?_, by simp, by go_simp⟩
            · rw [laid_zero, List.append_nil]; exact HW1.out.ofBelow ((Below.refl _ _).alloc (Nat.le_refl _) _)
            · intro e; have := HW1.out.own.lt _ e; omega
          case round =>
            obtain ⟨d, N, v2, hd, rfl, hN, hW2, hC2, hv2, hvo, hs2, cv⟩ := hrel
            have HC2 := Lib.hid hC2; clear hC2
            by_cases hd1 : d ≤ q
            · have hN2 : N ≤ 9000000000 := by have := hN.out; omega
              have hwlt := hW2.lt
              have hbl2 : (bytes1 ++ laid vl q d).length = (N + 7) / 8 := by rw [List.length_append, laid_length]; have := hN.out; omega
              have hpo : p ≠ wo.heap.size := by omega
              by_cases h8 : N % 8 = 0
              · have h8d : d % 8 = 0 := by have := hN.out; omega
                have hnew := laid_new vl q d hd1 h8d
                have d8 : ((N : Int) % 8 == 0) = true := by rw [beq_iff_eq]; omega
                have c0' := hW2.c0
                have c1' := hW2.c1
                have f0' := hW2.f0
                have f1' := hW2.f1
                have HPB0 := Lib.hid (fun B => put_new bytes1 vl q d N hN.out hd1 h8 (B := B))
                generalize bytes1 ++ laid vl q d = bs at *
                obtain ⟨av, cv', rfl⟩ := own_shape hW2.own
                have hpz : p ≠ wr.heap.size := by omega
                have hbl3 : bs.length ≤ 2000000000 := by omega
                have HBL := Lib.hid hbl2; clear hbl2
                have HNEW := Lib.hid hnew; clear hnew
                go_wp2_with (at_builtin; refine wpList_append_sl el_byte _ rfl rfl rfl rfl (own_alloc hW2.own _) (sl_new (n := 1) wr #[.int .u8 0] 5 rfl (by simp [maxLen]) (by intro u hu; simp at hu; subst hu; rfl)) (by omega) (by simp only [maxLen]; omega) (Nat.zero_le _) ?_; intro v3 w3 hown3 hg3 _ hob3; have hg4 : (wr.alloc (.cells #[.int .u8 0] 5)).grownBy w3 (Value.slice av bs.length cv').ownBlock := hg3; have hob4 : v3.ownBlock = (Value.slice av bs.length cv').ownBlock ∨ v3.ownBlock = some (wr.alloc (.cells #[.int .u8 0] 5)).heap.size := hob3; obtain ⟨a3, c3, rfl⟩ := own_shape hown3; have hp3 : w3.heap[p]? = wr.heap[p]? := (hg4.block p (by simp; omega) (fun e => hW2.ne e.symm)).trans (Below.heap_alloc wr _ p hwlt); have e0 : w3.cell? ⟨p, 0, none⟩ = some (.slice av bs.length cv') := (World.cell?_of_block (a := ⟨p, 0, none⟩) hp3).trans c0'; have e2 : w3.frozen? ⟨p, 0, none⟩ = false := (World.frozen?_of_block (a := ⟨p, 0, none⟩) hp3).trans f0'; have HOWN3 := Lib.hid hown3; have HG3 := Lib.hid hg4; have HOB3 := Lib.hid hob4; clear hown3 hg3 hob3 hg4 hob4 hp3)
                have HW4 := Lib.hid (hW2.append _ (by simpa using HOWN3.out) HG3.out HOB3.out)
                have hBne : (Value.slice av bs.length cv').ownBlock ≠ some wo.heap.size := hvo.out
                have hBw4 : w3.heap[wo.heap.size]? = wr.heap[wo.heap.size]? := (HG3.out.block _ (by first | omega | (simp; done) | (simp; omega)) (fun e => hBne e.symm)).trans (Below.heap_alloc wr _ _ (by omega))
                have cv4 : (w3.setCell ⟨p, 0, none⟩ (.slice a3 (bs.length + 1) c3)).cell? ⟨wo.heap.size, 1, none⟩ = some (.int .i64 vl) := by
                  rw [World.cell?_setCell_other _ _ _ _ (by intro e; exact hpo (Addr.mk.inj e).1)]
                  exact (World.cell?_of_block (a := ⟨wo.heap.size, 1, none⟩) hBw4).trans cv
                have hsz : (wr.alloc (.cells #[.int .u8 0] 5)).heap.size = wr.heap.size + 1 := by simp
                have HC3 := Lib.hid (chg_setCell (p := ⟨p, 0, none⟩) (chg_grown (chg_alloc HC2.out _) HG3.out (fun k hk hl => by
                  rcases hv2.out with h | ⟨g, h, hh⟩
                  · right; rw [← h, hk]
                  · rw [h] at hk; obtain rfl := Option.some.inj hk; omega)) (fun _ => .inl rfl) (.slice a3 (bs.length + 1) c3))
                have hs4 : wo.heap.size + 1 ≤ (w3.setCell ⟨p, 0, none⟩ (.slice a3 (bs.length + 1) c3)).heap.size := by
                  have := HG3.out.size; rw [hsz] at this; rw [World.size_setCell]; omega
                have HV4 : Hid ((Value.slice a3 (bs.length + 1) c3).ownBlock = v.ownBlock ∨ ∃ g, (Value.slice a3 (bs.length + 1) c3).ownBlock = some g ∧ w.heap.size ≤ g) := by
                  rcases HOB3.out with h | h
                  · rw [h]; exact hv2.out
                  · rw [hsz] at h; exact .inr ⟨_, h, by omega⟩
                have HVO4 : Hid ((Value.slice a3 (bs.length + 1) c3).ownBlock ≠ some wo.heap.size) := by
                  rcases HOB3.out with h | h
                  · rw [h]; exact hvo.out
                  · rw [hsz] at h; rw [h]; intro e; have := Option.some.inj e; omega
                clear hsz e0 e2 HG3 HOB3 HOWN3 hBw4 hBne hW2 HC2 c0' c1' f0' f1' hv2 hvo cv hs2
                generalize w3.setCell ⟨p, 0, none⟩ (.slice a3 (bs.length + 1) c3) = w4 at *
                have hi4 : N / 8 < (bs ++ [0]).length := by have := HBL.out; rw [List.length_append, List.length_singleton]; omega
                have hbl4 : (bs ++ [0]).length = bs.length + 1 := by simp
                generalize bs ++ [0] = bs4 at *
                obtain ⟨c0, c1, f0, f1, own, ne⟩ := HW4.out
                obtain ⟨g, c', hvv, hc', _, hg, gc, gf, -⟩ := own_cell own (i := N / 8) (by rw [List.length_map]; exact hi4)
                have hvv2 := hvv
                obtain ⟨rfl, -, rfl⟩ := Value.slice.inj hvv2
                rw [List.getElem_map] at gc
                have HPB := Lib.hid (HPB0.out _ (List.getElem?_eq_getElem hi4))
                generalize hB0 : bs4[N / 8] = B0 at gc HPB
                have HC4 := Lib.hid hc'
                have HOWN := Lib.hid own; clear own
                have hgp : g ≠ p := fun e => ne (by simp [Value.ownBlock, e])
                have hpg : p ≠ g := fun e => hgp e.symm
                have NE := Lib.hid ne; clear ne
                clear hB0 hvv hvv2
                have hi1 : (N : Int) / 8 < (bs.length : Int) + 1 := by omega
                have HBL4 := Lib.hid hbl4; clear hbl4
                have hm0 : 0 ≤ (N : Int) % 8 := by omega
                have hm1 : (N : Int) % 8 < 8 := by omega
                have hi0 : 0 ≤ (N : Int) / 8 := by omega
                have hix : ((N : Int) / 8).toNat = N / 8 := by omega
                have hdq : 0 ≤ (q : Int) - d := by omega
                have hm2 : 0 ≤ 7 - (N : Int) % 8 := by omega
                have hqn : ((q : Int) - d).toNat = q - d := by omega
                have hdq2 : (q : Int) - d ≤ 64 := by omega
                have hvl0 : 0 ≤ vl / 2 ^ (q - d) := Int.ediv_nonneg r3 (by exact_mod_cast Nat.zero_le _)
                have hvl1 : vl / 2 ^ (q - d) < 2 ^ 62 := Int.lt_of_le_of_lt (Int.ediv_le_self _ r3) R5.out
                have hx0 := bits_and_one _ hvl0 hvl1
                have hx2 : 0 ≤ vl / 2 ^ (q - d) % 2 := by omega
                have hx3 : vl / 2 ^ (q - d) % 2 ≤ 1 := by omega
                have hx1 : IntKind.u8.wrap (vl / 2 ^ (q - d) % 2) = vl / 2 ^ (q - d) % 2 := by rw [IntKind.wrap_u8]; omega
                have hw1 : IntKind.i64.wrap ((N : Int) / 8) = (N : Int) / 8 := by rw [IntKind.wrap_i64]; omega
                have hw2 : IntKind.i64.wrap (7 - (N : Int) % 8) = 7 - (N : Int) % 8 := by rw [IntKind.wrap_i64]; omega
                have htm : ((N : Int)).tmod 8 = (N : Int) % 8 := Int.tmod_eq_emod_of_nonneg (by omega)
                clear hvl0 hvl1
                generalize hxx : vl / 2 ^ (q - d) % 2 = x at hx0 hx1 hx2 hx3 HPB
                clear hxx
                go_still_tail 26, (by kernel_rfl)
                change wpList _ _ _ _ _ w4.drew
                clear hw1 hw2 htm hx0 hx1
                have hq2 : (q : Int) - d - 1 = q - (d + 1 : Nat) := by omega
                have HQ2 := Lib.hid hq2; clear hq2
                go_wp2_with fail
                go_roundw
                case rel =>
                  refine ⟨d + 1, N + 1, _, by omega, by rw [HQ2.out], by have := hN.out; show N + 1 = _; omega, ?_, ?_, HV4.out, HVO4.out, ?_, ?_⟩
                  · have hb := HW4.out.bit (m := N + 1) (g := g) (i := N / 8) (c := c3) (bits BinOp.or IntKind.u8 B0 (IntKind.u8.wrap (x * 2 ^ (7 - (N : Int) % 8).toNat))) (by rw [HBL4.out]) hi4
                    rw [HPB.out] at hb
                    rw [show IntKind.u8.wrap (x * 2 ^ (7 - (N : Int) % 8).toNat) = x * 128 % 256 by rw [IntKind.wrap_u8, show (7 - (N : Int) % 8).toNat = 7 by omega]; rfl] at hb
                    have e : ((N + 1 : Nat) : Int) = (N : Int) + 1 := by omega
                    rw [e] at hb
                    exact hb.drew
                  · refine chg_drew (chg_setCell (chg_setCell HC3.out (p := ⟨g, N / 8, none⟩) (fun hl => ?_) _) (p := ⟨p, 1, none⟩) (fun _ => .inl rfl) _)
                    rcases HV4.out with h | ⟨g', h, hh⟩
                    · exact .inr h.symm
                    · have := Option.some.inj h; simp only at this hl; omega
                  · show _ ≤ ((w4.setCell _ _).setCell _ _).heap.size
                    rw [World.size_setCell, World.size_setCell]; exact hs4
                  · show ((w4.setCell _ _).setCell _ _).cell? _ = _
                    rw [World.cell?_setCell_other _ _ _ _ (by intro e; exact hpo (Addr.mk.inj e).1), World.cell?_setCell_other _ _ _ _ (by intro e; exact HVO4.out (by simp only [Value.ownBlock]; rw [(Addr.mk.inj e).1]))]
                    exact cv4
                case measure => simp [intOf]; omega
              · have d8 : ((N : Int) % 8 == 0) = false := by rw [beq_eq_false_iff_ne]; omega
                have HPB0 := Lib.hid (fun B => put_more bytes1 vl q d N hN.out hd1 h8 (B := B))
                have c0 := hW2.c0
                have c1 := hW2.c1
                generalize bytes1 ++ laid vl q d = bs4 at *
                obtain ⟨a3, c3, rfl⟩ := own_shape hW2.own
                have hi4 : N / 8 < bs4.length := by omega
                have HBL := Lib.hid hbl2; clear hbl2
                have HW4 := Lib.hid hW2; clear hW2
                have HC3 := Lib.hid HC2.out; clear HC2
                have HV4 := Lib.hid hv2.out; clear hv2
                have HVO4 := Lib.hid hvo.out; clear hvo
                have hs4 := hs2
                have cv4 := cv
                clear cv hs2
                obtain ⟨w4, rfl⟩ : ∃ w4 : World, w4 = wr := ⟨_, rfl⟩
                go_wp2_with fail
                clear c0 c1
                obtain ⟨c0, c1, f0, f1, own, ne⟩ := HW4.out
                obtain ⟨g, c', hvv, hc', _, hg, gc, gf, -⟩ := own_cell own (i := N / 8) (by rw [List.length_map]; exact hi4)
                have hvv2 := hvv
                obtain ⟨rfl, -, rfl⟩ := Value.slice.inj hvv2
                rw [List.getElem_map] at gc
                have HPB := Lib.hid (HPB0.out _ (List.getElem?_eq_getElem hi4))
                generalize hB0 : bs4[N / 8] = B0 at gc HPB
                have HC4 := Lib.hid hc'
                have HOWN := Lib.hid own; clear own
                have hgp : g ≠ p := fun e => ne (by simp [Value.ownBlock, e])
                have hpg : p ≠ g := fun e => hgp e.symm
                have NE := Lib.hid ne; clear ne
                clear hB0 hvv hvv2
                have hi1 : (N : Int) / 8 < (bs4.length : Int) := by omega
                have hm0 : 0 ≤ (N : Int) % 8 := by omega
                have hm1 : (N : Int) % 8 < 8 := by omega
                have hi0 : 0 ≤ (N : Int) / 8 := by omega
                have hix : ((N : Int) / 8).toNat = N / 8 := by omega
                have hdq : 0 ≤ (q : Int) - d := by omega
                have hm2 : 0 ≤ 7 - (N : Int) % 8 := by omega
                have hqn : ((q : Int) - d).toNat = q - d := by omega
                have hdq2 : (q : Int) - d ≤ 64 := by omega
                have hvl0 : 0 ≤ vl / 2 ^ (q - d) := Int.ediv_nonneg r3 (by exact_mod_cast Nat.zero_le _)
                have hvl1 : vl / 2 ^ (q - d) < 2 ^ 62 := Int.lt_of_le_of_lt (Int.ediv_le_self _ r3) R5.out
                have hx0 := bits_and_one _ hvl0 hvl1
                have hx2 : 0 ≤ vl / 2 ^ (q - d) % 2 := by omega
                have hx3 : vl / 2 ^ (q - d) % 2 ≤ 1 := by omega
                have hx1 : IntKind.u8.wrap (vl / 2 ^ (q - d) % 2) = vl / 2 ^ (q - d) % 2 := by rw [IntKind.wrap_u8]; omega
                have hw1 : IntKind.i64.wrap ((N : Int) / 8) = (N : Int) / 8 := by rw [IntKind.wrap_i64]; omega
                have hw2 : IntKind.i64.wrap (7 - (N : Int) % 8) = 7 - (N : Int) % 8 := by rw [IntKind.wrap_i64]; omega
                have htm : ((N : Int)).tmod 8 = (N : Int) % 8 := Int.tmod_eq_emod_of_nonneg (by omega)
                clear hvl0 hvl1
                generalize hxx : vl / 2 ^ (q - d) % 2 = x at hx0 hx1 hx2 hx3 HPB
                clear hxx
                go_still_tail 26, (by kernel_rfl)
                change wpList _ _ _ _ _ w4.drew
                clear hw1 hw2 htm hx0 hx1
                have hq2 : (q : Int) - d - 1 = q - (d + 1 : Nat) := by omega
                have HQ2 := Lib.hid hq2; clear hq2
                go_wp2_with fail
                go_roundw
                case rel =>
                  refine ⟨d + 1, N + 1, _, by omega, by rw [HQ2.out], by have := hN.out; show N + 1 = _; omega, ?_, ?_, HV4.out, HVO4.out, ?_, ?_⟩
                  · have hb := HW4.out.bit (m := N + 1) (g := g) (i := N / 8) (c := c3) (bits BinOp.or IntKind.u8 B0 (IntKind.u8.wrap (x * 2 ^ (7 - (N : Int) % 8).toNat))) (rfl) hi4
                    rw [HPB.out] at hb
                    rw [show IntKind.u8.wrap (x * 2 ^ (7 - (N : Int) % 8).toNat) = x * 2 ^ (7 - N % 8) % 256 by rw [IntKind.wrap_u8, show (7 - (N : Int) % 8).toNat = 7 - N % 8 by omega]] at hb
                    have e : ((N + 1 : Nat) : Int) = (N : Int) + 1 := by omega
                    rw [e] at hb
                    exact hb.drew
                  · refine chg_drew (chg_setCell (chg_setCell HC3.out (p := ⟨g, N / 8, none⟩) (fun hl => ?_) _) (p := ⟨p, 1, none⟩) (fun _ => .inl rfl) _)
                    rcases HV4.out with h | ⟨g', h, hh⟩
                    · exact .inr h.symm
                    · have := Option.some.inj h; simp only at this hl; omega
                  · show _ ≤ ((w4.setCell _ _).setCell _ _).heap.size
                    rw [World.size_setCell, World.size_setCell]; exact hs4
                  · show ((w4.setCell _ _).setCell _ _).cell? _ = _
                    rw [World.cell?_setCell_other _ _ _ _ (by intro e; exact hpo (Addr.mk.inj e).1), World.cell?_setCell_other _ _ _ _ (by intro e; exact HVO4.out (by simp only [Value.ownBlock]; rw [(Addr.mk.inj e).1]))]
                    exact cv4
                case measure => simp [intOf]; omega
            · obtain rfl : d = q + 1 := by omega
              have hneg : (q : Int) - ((q + 1 : Nat) : Int) = -1 := by omega
              rw [hneg]
              have HNEG := Lib.hid hneg; clear hneg
              clear cv
              go_wp2_with fail
              go_roundw
              case rel =>
                refine ⟨k + 1, v2, by omega, by go_num, ?_, HC2.out, hv2⟩
                rw [laid_all vl q M HQ.out] at hW2
                rw [HFB.out]
                have e : 8 * (bytes1 ++ be M vl).length = N := by rw [List.length_append, be_length]; have := hN.out; have := HQ.out; omega
                rw [e]; exact hW2
              case measure => simp [intOf]; omega
        · obtain rfl : k = fs.length := by omega
          rw [List.take_length] at hW1
          have HW1 := Lib.hid hW1; clear hW1
          have HC1 := Lib.hid hC1; clear hC1
          go_wp2_with fail
          go_ret
          exact ⟨rfl, HC1.out, v1, HW1.out, hv1.out⟩
end Go.Proofs.Ytlbfeoobeleobaa
