/- Package bits: what a writer's Bytes and a reader answer. -/
import Derived.Test.YtlbfeoobeleobaaBits
namespace Go.Proofs.Ytlbfeoobeleobaa
open Go.RowKit
set_option linter.unusedVariables false
set_option linter.unusedSimpArgs false

def u8s (l : List Int) : List Value := l.map (Value.int .u8)
def i64s (l : List Int) : List Value := l.map (Value.int .i64)
theorem u8s_one (l : List Int) : ∀ u ∈ u8s l, u.oneCell' = true := by intro u hu; obtain ⟨x, _, rfl⟩ := List.mem_map.1 hu; rfl
theorem i64s_one (l : List Int) : ∀ u ∈ i64s l, u.oneCell' = true := by intro u hu; obtain ⟨x, _, rfl⟩ := List.mem_map.1 hu; rfl

set_option maxHeartbeats 400000 in
theorem bits_bytes (p : Nat) (v : Value) (bytes : List Int) (n : Nat) (w : World) (hW : WAt w p v bytes n) (hl : bytes.length ≤ 140737488355328) :
    Calls Try.prog 52 #[.pointer (some ⟨p, 0, none⟩)] w (NewSl 5 1 bytes.length (u8s bytes) w) := by
  have c0 := hW.c0
  have HS := Lib.hid (own_sl hW.own (u8s_one bytes))
  clear hW
  go_enter Try.func52, Try.ntmps52
  go_wp2_with fail
  refine (clone_byte _ _ _ _ HS.out (by omega)).mono ?_
  rintro e w' ⟨v', rfl, hown, hB⟩
  have HO := Lib.hid hown; clear hown
  go_wp2_with fail
  go_ret
  exact ⟨_, rfl, HO.out, hB⟩

/-- a reader at block p: its bytes in the slice v, how many bits it has read, its error -/
structure RAt (w : World) (p : Nat) (v : Value) (bs : List Int) (n : Nat) (e : Int) : Prop where
  c0 : w.cell? ⟨p, 0, none⟩ = some v
  c1 : w.cell? ⟨p, 1, none⟩ = some (.int .i64 n)
  c2 : w.cell? ⟨p, 2, none⟩ = some (.int .i64 e)
  f1 : w.frozen? ⟨p, 1, none⟩ = false
  f2 : w.frozen? ⟨p, 2, none⟩ = false
  sl : Sl 1 w v bs.length (u8s bs)
  ne : v.ownBlock ≠ some p
  byte : ∀ x ∈ bs, 0 ≤ x ∧ x < 256

theorem RAt.lt {w : World} {p : Nat} {v : Value} {bs : List Int} {n : Nat} {e : Int} (H : RAt w p v bs n e) : p < w.heap.size := World.block_lt_of_cell? _ _ H.c0
theorem RAt.keep {w w' : World} {p : Nat} {v : Value} {bs : List Int} {n : Nat} {e : Int} (H : RAt w p v bs n e) (hp : w'.heap[p]? = w.heap[p]?) (hs : w.heap.size ≤ w'.heap.size) (hv : ∀ b, v.ownBlock = some b → b < w.heap.size → w'.heap[b]? = w.heap[b]?) : RAt w' p v bs n e :=
  ⟨(World.cell?_of_block (a := ⟨p, 0, none⟩) hp).trans H.c0, (World.cell?_of_block (a := ⟨p, 1, none⟩) hp).trans H.c1, (World.cell?_of_block (a := ⟨p, 2, none⟩) hp).trans H.c2, (World.frozen?_of_block (a := ⟨p, 1, none⟩) hp).trans H.f1, (World.frozen?_of_block (a := ⟨p, 2, none⟩) hp).trans H.f2, H.sl.keep hs hv, H.ne, H.byte⟩
theorem RAt.ofBelow {w w' : World} {p : Nat} {v : Value} {bs : List Int} {n : Nat} {e : Int} (H : RAt w p v bs n e) (hB : Below w.heap.size w w') : RAt w' p v bs n e :=
  H.keep (hB.block p H.lt) hB.size fun b _ hl => hB.block b hl
theorem RAt.drew {w : World} {p : Nat} {v : Value} {bs : List Int} {n : Nat} {e : Int} (H : RAt w p v bs n e) (k : Nat) : RAt (w.drewN k) p v bs n e := ⟨H.c0, H.c1, H.c2, H.f1, H.f2, H.sl, H.ne, H.byte⟩
theorem RAt.setN {w : World} {p : Nat} {v : Value} {bs : List Int} {n : Nat} {e : Int} (H : RAt w p v bs n e) (m : Nat) : RAt (w.setCell ⟨p, 1, none⟩ (.int .i64 m)) p v bs m e := by
  refine ⟨?_, World.cell?_setCell_same _ _ _ H.c1, ?_, ?_, ?_, H.sl.setCell H.ne _, H.ne, H.byte⟩
  · rw [World.cell?_setCell_other _ _ _ _ (by simp)]; exact H.c0
  · rw [World.cell?_setCell_other _ _ _ _ (by simp)]; exact H.c2
  · rw [World.frozen?_setCell]; exact H.f1
  · rw [World.frozen?_setCell]; exact H.f2
theorem RAt.setE {w : World} {p : Nat} {v : Value} {bs : List Int} {n : Nat} {e : Int} (H : RAt w p v bs n e) (m : Int) : RAt (w.setCell ⟨p, 2, none⟩ (.int .i64 m)) p v bs n m := by
  refine ⟨?_, ?_, World.cell?_setCell_same _ _ _ H.c2, ?_, ?_, H.sl.setCell H.ne _, H.ne, H.byte⟩
  · rw [World.cell?_setCell_other _ _ _ _ (by simp)]; exact H.c0
  · rw [World.cell?_setCell_other _ _ _ _ (by simp)]; exact H.c1
  · rw [World.frozen?_setCell]; exact H.f1
  · rw [World.frozen?_setCell]; exact H.f2

def ReadPost (bs : List Int) (w : World) (ed : Ending) (w' : World) : Prop :=
  ∃ p v, ed = .returned (.pointer (some ⟨p, 0, none⟩)) ∧ w.heap.size ≤ p ∧ RAt w' p v bs 0 0 ∧ (∀ b, v.ownBlock = some b → w.heap.size ≤ b) ∧ Below w.heap.size w w'

set_option maxHeartbeats 400000 in
theorem bits_read (v : Value) (bs : List Int) (w : World) (h : Sl 1 w v bs.length (u8s bs)) (hb : ∀ x ∈ bs, 0 ≤ x ∧ x < 256) (hl : bs.length ≤ 140737488355328) :
    Calls Try.prog 48 #[v] w (ReadPost bs w) := by
  have HS := Lib.hid h; clear h
  have HBY := Lib.hid hb; clear hb
  go_enter Try.func48, Try.ntmps48
  go_wp2_with fail
  refine (clone_byte _ _ _ _ HS.out (by omega)).mono ?_
  rintro e w' ⟨v', rfl, hown, hB⟩
  have HO := Lib.hid hown; clear hown
  obtain ⟨a, c, rfl⟩ := own_shape HO.out
  go_wp2_with fail
  go_ret
  refine ⟨w'.heap.size, _, rfl, hB.size, ⟨by go_simp, by go_simp, by go_simp, by go_simp, by go_simp, (own_sl HO.out (u8s_one bs)).alloc _, fun e => by have := HO.out.lt _ e; omega, HBY.out⟩, fun b hb => (HO.out.lt b hb).1, hB.alloc hB.size _⟩


set_option maxHeartbeats 400000 in
theorem bits_left (p : Nat) (v : Value) (bs : List Int) (n : Nat) (e : Int) (w : World) (h : RAt w p v bs n e) (hl : bs.length ≤ 140737488355328) (hn : n ≤ 8 * bs.length) :
    Calls Try.prog 64 #[.pointer (some ⟨p, 0, none⟩)] w (RetI (8 * bs.length - n) w) := by
  have c0 := h.c0
  have c1 := h.c1
  obtain ⟨a, c, rfl⟩ := h.sl.shape
  clear h
  have hw1 : IntKind.i64.wrap (8 * (bs.length : Int)) = 8 * bs.length := by rw [IntKind.wrap_i64]; omega
  have hw2 : IntKind.i64.wrap (8 * (bs.length : Int) - n) = 8 * bs.length - n := by rw [IntKind.wrap_i64]; omega
  go_enter Try.func64, Try.ntmps64
  go_wp2_with fail
  go_quiet (fail)
  go_wp2_with fail
  go_ret
  exact ⟨rfl, below_drewN (Below.refl _ _) _⟩
end Go.Proofs.Ytlbfeoobeleobaa
