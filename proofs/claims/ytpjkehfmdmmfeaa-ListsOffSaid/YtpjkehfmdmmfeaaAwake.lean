/- The document's examples of layer 12: lists.Put and lists.Get at a delta without items. -/
import Derived.Test.YtpjkehfmdmmfeaaTake
import Derived.Test.YtpjkehfmdmmfeaaItem
import Derived.Deep.RegionHeld3
import Derived.Laws.MakeOwn
namespace Go.Proofs.Ytpjkehfmdmmfeaa
open Go.RowKit
set_option linter.unusedVariables false
set_option linter.unusedSimpArgs false

theorem WAt.made (w : World) : WAt (w.alloc (.cells #[.slice none 0 0, .int .i64 0] 85)) w.heap.size (.slice none 0 0) [] 0 :=
  ⟨by go_simp, by go_simp, by go_simp, by go_simp, own_none _ _ _ _, by simp [Value.ownBlock]⟩

def six : List Int := [0, 0, 0, 1, 0, 0]

def PutSix (w : World) (ed : Ending) (w' : World) : Prop :=
  ∃ v, ed = .returned (.tuple #[v, .int .i64 0]) ∧ w'.ownsRow w.heap.size 5 1 v 6 (u8s six) ∧ Below w.heap.size w w'

set_option maxHeartbeats 4000000 in
set_option maxRecDepth 100000 in
theorem lists_put_six (w : World) : Calls Try.prog 20 #[.agg #[.int .i64 1, .slice none 0 0, .slice none 0 0]] w (PutSix w) := by
  go_enter Try.func20, Try.ntmps20
  go_wp2_with fail
  refine (concat_Item (w.heap.size + 1) 0 2 [(.slice none 0 0, 0, []), (.slice none 0 0, 0, [])] _ (by simp) (fun i hi => ?_) (fun x hx => ?_) (by simp) (by simp)).mono ?_
  · match i, hi with
    | 0, _ => go_simp
    | 1, _ => go_simp
  · simp only [List.mem_cons, List.not_mem_nil, or_false, or_self] at hx
    rw [hx]; exact Sl.nil _ _
  rintro e w1 ⟨vc, rfl, hownc, hB1⟩
  have hown0 : w1.ownsRow (w.heap.size + 2) 35 5 vc 0 [] := by simpa using hownc
  obtain ⟨ac, cc, rfl⟩ := own_shape hown0
  clear hownc
  have HO := Lib.hid hown0; clear hown0
  obtain ⟨hcc, hff⟩ := bcell hB1
  have b0 : w1.cell? ⟨w.heap.size, 0, none⟩ = some (.int .i64 1) := by rw [hcc _ _ (by simp; omega)]; go_simp
  have b1 : w1.cell? ⟨w.heap.size, 1, none⟩ = some (.slice none 0 0) := by rw [hcc _ _ (by simp; omega)]; go_simp
  have b2 : w1.cell? ⟨w.heap.size, 2, none⟩ = some (.slice none 0 0) := by rw [hcc _ _ (by simp; omega)]; go_simp
  have hs1 : w.heap.size + 2 ≤ w1.heap.size := by have := hB1.size; simp at this; omega
  have hsn : w.heap.size < w1.heap.size := by omega
  have hsn2 : w.heap.size ≠ w1.heap.size := by omega
  have HBW := Lib.hid ((((Below.refl w.heap.size w).alloc (Nat.le_refl _) _).alloc (by simp) _).trans (hB1.mono (by simp; omega)))
  clear hcc hff hB1
  go_wp2_with fail
  go_loop [26] (fun i => i = .int .i64 0) (fun _ => 0)
  case atStart => rfl
  case round =>
    obtain rfl := hrel
    go_wp2_with fail
    have HPUT := Lib.hid (bits_put w1.heap.size (w1.heap.size + 1) 3 (.slice none 0 0) [(4, 1), (1, 0), (1, 0)] [])
    refine (HPUT.out _ ((WAt.made w1).ofBelow ((Below.refl _ _).alloc (Nat.le_refl _) _)) ?_ (by simp) (by omega) (by simp [Value.ownBlock]) (by simp) ?_ (by simp)).mono ?_
    · intro i hi
      match i, hi with
      | 0, _ => constructor <;> go_simp <;> rfl
      | 1, _ => constructor <;> go_simp <;> rfl
      | 2, _ => constructor <;> go_simp <;> rfl
    · intro f hf
      simp only [List.mem_cons, List.not_mem_nil, or_false] at hf
      rcases hf with rfl | rfl | rfl <;> decide
    rintro e w2 ⟨rfl, hC2, v2, hW2, hv2⟩
    have HW2 := Lib.hid hW2; clear hW2 hv2
    have HC2 := Lib.hid hC2; clear hC2
    go_wp2_with fail
    go_loop [60] (fun i => i = .int .i64 0) (fun _ => 0)
    case atStart => rfl
    case round =>
      obtain rfl := hrel
      go_wp2_with fail
      refine (bits_bytes _ _ _ _ _ HW2.out (by simp [fieldsBytes, be])).mono ?_
      rintro e w3 ⟨v3, rfl, hown3, hB3⟩
      have HO3 := Lib.hid hown3; clear hown3
      obtain ⟨a3, c3, rfl⟩ := own_shape HO3.out
      go_wp2_with fail
      go_ret2
      have hC := HC2.out
      have hB12 := hC.toBelow (B := w.heap.size) (by simp; omega) (fun i hi h => by
        rcases h with h | h
        · omega
        · simp [Value.ownBlock] at h)
      have hs2 := hC.size
      have hBa := ((HBW.out.alloc (by omega) (Obj.cells #[.slice none 0 0, .int .i64 0] 85)).alloc (by simp; omega) _).trans hB12
      have hs0 := hBa.size
      have hBall := hBa.trans (hB3.mono hs0)
      refine ⟨.slice a3 6 c3, rfl, own_base (HO3.out) hs0, hBall⟩

theorem sl_empty (sz : Nat) (w : World) (b o c : Nat) (hc : c ≤ maxLen) : Sl sz w (.slice (some ⟨b, o, none⟩) 0 c) 0 [] :=
  ⟨by simp, _, c, rfl, Nat.zero_le _, hc, by simp, .inr ⟨b, o, none, rfl, fun j u hu => by simp at hu, fun h => by omega⟩⟩

theorem clone_kept (g r : Nat) (w0 W : World) (v : Value) (hv : Sl 5 W v 0 []) (hS : W.cell? ⟨g, 0, none⟩ = some (.int .i64 1) ∧ W.cell? ⟨g, 1, none⟩ = some (.int .i64 0) ∧ W.cell? ⟨r, 0, none⟩ = some (cv W r 0) ∧ W.cell? ⟨r, 1, none⟩ = some (cv W r 1) ∧ W.cell? ⟨r, 2, none⟩ = some (cv W r 2) ∧ W.frozen? ⟨r, 0, none⟩ = false ∧ W.frozen? ⟨r, 1, none⟩ = false ∧ W.frozen? ⟨r, 2, none⟩ = false ∧ Below r w0 W) :
    Calls Try.prog 25 #[v] W fun e w' => ∃ a c, e = .returned (.slice a 0 c) ∧ (w'.cell? ⟨g, 0, none⟩ = some (.int .i64 1) ∧ w'.cell? ⟨g, 1, none⟩ = some (.int .i64 0) ∧ w'.cell? ⟨r, 0, none⟩ = some (cv w' r 0) ∧ w'.cell? ⟨r, 1, none⟩ = some (cv w' r 1) ∧ w'.cell? ⟨r, 2, none⟩ = some (cv w' r 2) ∧ w'.frozen? ⟨r, 0, none⟩ = false ∧ w'.frozen? ⟨r, 1, none⟩ = false ∧ w'.frozen? ⟨r, 2, none⟩ = false ∧ Below r w0 w') := by
  refine (clone_Item v 0 [] W hv (by simp)).mono ?_
  rintro e w' ⟨v', rfl, hown, hB⟩
  obtain ⟨a, c, rfl⟩ := own_shape hown
  obtain ⟨s0, s1, s2, s3, s4, s5, s6, s7, s8⟩ := hS
  have hg := World.block_lt_of_cell? _ _ s0
  have hr := World.block_lt_of_cell? _ _ s2
  exact ⟨a, c, rfl, (hB.cell (p := ⟨g, 0, none⟩) hg).trans s0, (hB.cell (p := ⟨g, 1, none⟩) hg).trans s1, cv_eq (isSome_of ((hB.cell (p := ⟨r, 0, none⟩) hr).trans s2)), cv_eq (isSome_of ((hB.cell (p := ⟨r, 1, none⟩) hr).trans s3)), cv_eq (isSome_of ((hB.cell (p := ⟨r, 2, none⟩) hr).trans s4)),
    (hB.frozen (p := ⟨r, 0, none⟩) hr).trans s5, (hB.frozen (p := ⟨r, 1, none⟩) hr).trans s6, (hB.frozen (p := ⟨r, 2, none⟩) hr).trans s7, s8.trans (hB.mono (Nat.le_of_lt hr))⟩

def six0 : List Int := [1, 0, 0]
def DeltaOne (w : World) (ed : Ending) (w' : World) : Prop :=
  ∃ a1 c1 a2 c2, ed = .returned (.tuple #[.agg #[.int .i64 1, .slice a1 0 c1, .slice a2 0 c2], .int .i64 0]) ∧ Below w.heap.size w w'

set_option maxHeartbeats 4000000 in
set_option maxRecDepth 100000 in
theorem lists_get_six (v : Value) (w : World) (hs : Sl 1 w v 6 (u8s six)) : Calls Try.prog 21 #[v] w (DeltaOne w) := by
  have HS := Lib.hid hs; clear hs
  go_enter Try.func21, Try.ntmps21
  go_wp2_with fail
  refine (bits_read v six _ (HS.out.alloc _) (by decide) (by decide)).mono ?_
  rintro e w1 ⟨p, vr, rfl, hp, hR, hvr, hB⟩
  have hs1 := hB.size
  simp only [World.size_alloc] at hp hs1
  obtain ⟨hcc, hff⟩ := bcell hB
  have r0 : w1.cell? ⟨w.heap.size, 0, none⟩ = some (.int .i64 0) := by rw [hcc _ _ (by simp)]; go_simp
  have r1 : w1.cell? ⟨w.heap.size, 1, none⟩ = some (.slice none 0 0) := by rw [hcc _ _ (by simp)]; go_simp
  have r2 : w1.cell? ⟨w.heap.size, 2, none⟩ = some (.slice none 0 0) := by rw [hcc _ _ (by simp)]; go_simp
  have f0 : w1.frozen? ⟨w.heap.size, 0, none⟩ = false := by rw [hff _ _ (by simp)]; go_simp
  have f1 : w1.frozen? ⟨w.heap.size, 1, none⟩ = false := by rw [hff _ _ (by simp)]; go_simp
  have f2 : w1.frozen? ⟨w.heap.size, 2, none⟩ = false := by rw [hff _ _ (by simp)]; go_simp
  have HB1 := Lib.hid (((Below.refl w.heap.size w).alloc (Nat.le_refl _) _).trans (hB.mono (by simp)))
  have HR1 := Lib.hid hR
  clear hcc hff hB hR hvr
  have hp1 := HR1.out.lt
  go_wp2_with fail
  refine (bits_take p w1.heap.size 3 0 vr six [4, 1, 1] _ (HR1.out.ofBelow ((Below.refl _ _).alloc (Nat.le_refl _) _)) (by simp) (by omega) (fun i hi => ?_) (by decide) (by decide) (by decide) (by decide)).mono ?_
  · match i, hi with
    | 0, _ => go_simp
    | 1, _ => go_simp
    | 2, _ => go_simp
  rintro e w2 ⟨vn, rfl, hown, hR2, hC2⟩
  have hs2 := hC2.size
  simp only [World.size_alloc] at hs2
  have hk2 : ∀ k, k < w1.heap.size → k ≠ p → w2.heap[k]? = w1.heap[k]? := fun k hk hne => (hC2.block k (by simp; omega) (fun e => hne e)).trans (Below.heap_alloc w1 _ k hk)
  have hwp : w.heap.size ≠ p := by omega
  have hwb := hk2 w.heap.size (by omega) hwp
  have q0 : w2.cell? ⟨w.heap.size, 0, none⟩ = some (.int .i64 0) := (World.cell?_of_block (a := ⟨w.heap.size, 0, none⟩) hwb).trans r0
  have q1 : w2.cell? ⟨w.heap.size, 1, none⟩ = some (.slice none 0 0) := (World.cell?_of_block (a := ⟨w.heap.size, 1, none⟩) hwb).trans r1
  have q2 : w2.cell? ⟨w.heap.size, 2, none⟩ = some (.slice none 0 0) := (World.cell?_of_block (a := ⟨w.heap.size, 2, none⟩) hwb).trans r2
  have g0 : w2.frozen? ⟨w.heap.size, 0, none⟩ = false := (World.frozen?_of_block (a := ⟨w.heap.size, 0, none⟩) hwb).trans f0
  have g1 : w2.frozen? ⟨w.heap.size, 1, none⟩ = false := (World.frozen?_of_block (a := ⟨w.heap.size, 1, none⟩) hwb).trans f1
  have g2 : w2.frozen? ⟨w.heap.size, 2, none⟩ = false := (World.frozen?_of_block (a := ⟨w.heap.size, 2, none⟩) hwb).trans f2
  have hB2 : Below w.heap.size w w2 := (HB1.out.alloc (by omega) (Obj.cells #[.int .i64 32, .int .i64 8, .int .i64 8] 3)).trans (hC2.toBelow (by simp; omega) (fun i hi e => by omega))
  have HB2 := Lib.hid hB2; clear hB2
  obtain ⟨g, cg, rfl, hcg, hg1, hg2, n0, -, -⟩ := own_cell hown (i := 0) (by decide)
  obtain ⟨g', cg', hv', -, -, -, n1, -, -⟩ := own_cell hown (i := 1) (by decide)
  obtain ⟨rfl, -, -⟩ : g = g' ∧ True ∧ True := by
    obtain ⟨h, -, -⟩ := Value.slice.inj hv'
    exact ⟨(Addr.mk.inj (Option.some.inj h)).1, trivial, trivial⟩
  clear hv'
  obtain ⟨g', cg', hv', -, -, -, n2, -, -⟩ := own_cell hown (i := 2) (by decide)
  obtain ⟨rfl, -, -⟩ : g = g' ∧ True ∧ True := by
    obtain ⟨h, -, -⟩ := Value.slice.inj hv'
    exact ⟨(Addr.mk.inj (Option.some.inj h)).1, trivial, trivial⟩
  clear hv'
  have N0 : w2.cell? ⟨g, 0, none⟩ = some (.int .i64 1) := n0
  have N1 : w2.cell? ⟨g, 1, none⟩ = some (.int .i64 0) := n1
  have N2 : w2.cell? ⟨g, 2, none⟩ = some (.int .i64 0) := n2
  have HR2 := Lib.hid hR2
  clear n0 n1 n2 hown hwb hk2 hC2 r0 r1 r2 f0 f1 f2 hR2 hwp
  have hwg : w.heap.size ≠ g := by simp at hg1; omega
  clear hg1
  have h6 : six.length ≤ 140737488355328 := by decide
  go_wp2_with fail
  refine (bits_err p vr six _ 0 w2 HR2.out).mono ?_
  rintro e w3 ⟨rfl, hB3⟩
  obtain ⟨hcc, hff⟩ := bcell hB3
  have hs3 := hB3.size
  have q0' : w3.cell? ⟨w.heap.size, 0, none⟩ = some (.int .i64 0) := (hcc _ _ (by omega)).trans q0
  have q1' : w3.cell? ⟨w.heap.size, 1, none⟩ = some (.slice none 0 0) := (hcc _ _ (by omega)).trans q1
  have q2' : w3.cell? ⟨w.heap.size, 2, none⟩ = some (.slice none 0 0) := (hcc _ _ (by omega)).trans q2
  have g0' : w3.frozen? ⟨w.heap.size, 0, none⟩ = false := (hff _ _ (by omega)).trans g0
  have g1' : w3.frozen? ⟨w.heap.size, 1, none⟩ = false := (hff _ _ (by omega)).trans g1
  have g2' : w3.frozen? ⟨w.heap.size, 2, none⟩ = false := (hff _ _ (by omega)).trans g2
  have N0' : w3.cell? ⟨g, 0, none⟩ = some (.int .i64 1) := (hcc _ _ (by omega)).trans N0
  have N1' : w3.cell? ⟨g, 1, none⟩ = some (.int .i64 0) := (hcc _ _ (by omega)).trans N1
  have N2' : w3.cell? ⟨g, 2, none⟩ = some (.int .i64 0) := (hcc _ _ (by omega)).trans N2
  have HB3 := Lib.hid (HB2.out.trans (hB3.mono (by omega)))
  have HR3 := Lib.hid (HR2.out.ofBelow hB3)
  clear hcc hff hB3 q0 q1 q2 g0 g1 g2 N0 N1 N2
  go_wp2_with fail
  go_still_tail 7, (by kernel_rfl)
  change wpList _ _ _ _ _ w3.drew
  go_wp2_with (at_make; refine wpList_make_sl el_Item _ rfl rfl (w.heap.size) _ _ 0 0 0 rfl rfl rfl rfl (by simp) (by simp [maxLen]) (by simp; omega) ?_; intro w4 zs hown4 hg4; have HO4 := Lib.hid hown4; have HG4 := Lib.hid hg4; clear hown4 hg4)
  have hB34 : Below w3.heap.size w3 w4 := (Below.refl _ _).drew.grown HG4.out (by simp) (fun k hk => by cases hk)
  have hs4 := hB34.size
  refine (bits_left p vr six _ 0 w4 (HR3.out.ofBelow hB34) h6 (by decide)).mono ?_
  rintro e w5 ⟨rfl, hB45⟩
  have hs5 := hB45.size
  have HB45 := Lib.hid hB45
  go_wp2_with fail
  refine (bits_left p vr six _ 0 w5 ((HR3.out.ofBelow hB34).ofBelow hB45) h6 (by decide)).mono ?_
  rintro e w6 ⟨rfl, hB56⟩
  have hs6 := hB56.size
  have hB36 : Below w3.heap.size w3 w6 := (hB34.trans (hB45.mono hs4)).trans (hB56.mono (by omega))
  obtain ⟨hcc, hff⟩ := bcell hB36
  have Q0 : w6.cell? ⟨w.heap.size, 0, none⟩ = some (.int .i64 0) := (hcc _ _ (by omega)).trans q0'
  have Q1 : w6.cell? ⟨w.heap.size, 1, none⟩ = some (.slice none 0 0) := (hcc _ _ (by omega)).trans q1'
  have Q2 : w6.cell? ⟨w.heap.size, 2, none⟩ = some (.slice none 0 0) := (hcc _ _ (by omega)).trans q2'
  have G0 : w6.frozen? ⟨w.heap.size, 0, none⟩ = false := (hff _ _ (by omega)).trans g0'
  have G1 : w6.frozen? ⟨w.heap.size, 1, none⟩ = false := (hff _ _ (by omega)).trans g1'
  have G2 : w6.frozen? ⟨w.heap.size, 2, none⟩ = false := (hff _ _ (by omega)).trans g2'
  have M0 : w6.cell? ⟨g, 0, none⟩ = some (.int .i64 1) := (hcc _ _ (by omega)).trans N0'
  have M1 : w6.cell? ⟨g, 1, none⟩ = some (.int .i64 0) := (hcc _ _ (by omega)).trans N1'
  have hgl : g < w6.heap.size := by omega
  have hwl : w.heap.size < w6.heap.size := by omega
  have HB6 := Lib.hid (HB3.out.trans (hB36.mono (by omega)))
  clear hcc hff hB34 HB45 hB45 hB56 hB36 q0' q1' q2' g0' g1' g2' N0' N1' N2' hs4 hs5 hs6
  go_wp2_with fail
  go_loop [68] (fun i => i = .int .i64 0) (fun _ => 0)
  case atStart => rfl
  case round =>
    obtain rfl := hrel
    go_wp2_with fail
    have HBB := HB6.out
    have Q0' := cv_eq (isSome_of Q0)
    have Q1' := cv_eq (isSome_of Q1)
    have Q2' := cv_eq (isSome_of Q2)
    clear Q0 Q1 Q2
    have HS0 : w6.drew.cell? ⟨g, 0, none⟩ = some (.int .i64 1) ∧ w6.drew.cell? ⟨g, 1, none⟩ = some (.int .i64 0) ∧ w6.drew.cell? ⟨w.heap.size, 0, none⟩ = some (cv w6.drew w.heap.size 0) ∧ w6.drew.cell? ⟨w.heap.size, 1, none⟩ = some (cv w6.drew w.heap.size 1) ∧ w6.drew.cell? ⟨w.heap.size, 2, none⟩ = some (cv w6.drew w.heap.size 2) ∧ w6.drew.frozen? ⟨w.heap.size, 0, none⟩ = false ∧ w6.drew.frozen? ⟨w.heap.size, 1, none⟩ = false ∧ w6.drew.frozen? ⟨w.heap.size, 2, none⟩ = false ∧ Below w.heap.size w w6.drew := ⟨M0, M1, Q0', Q1', Q2', G0, G1, G2, Below.drew HBB⟩
    clear M0 M1 Q0' Q1' Q2' G0 G1 G2 HBB
    go_region_held3 (fun w' => w'.cell? ⟨g, 0, none⟩ = some (.int .i64 1) ∧ w'.cell? ⟨g, 1, none⟩ = some (.int .i64 0) ∧ w'.cell? ⟨w.heap.size, 0, none⟩ = some (cv w' w.heap.size 0) ∧ w'.cell? ⟨w.heap.size, 1, none⟩ = some (cv w' w.heap.size 1) ∧ w'.cell? ⟨w.heap.size, 2, none⟩ = some (cv w' w.heap.size 2) ∧ w'.frozen? ⟨w.heap.size, 0, none⟩ = false ∧ w'.frozen? ⟨w.heap.size, 1, none⟩ = false ∧ w'.frozen? ⟨w.heap.size, 2, none⟩ = false ∧ Below w.heap.size w w')
      (first | (with_reducible exact HS0) | (with_reducible exact hS') | (exact ⟨(by rw [World.cell?_setCell_other _ _ _ _ (by intro e; exact hwg (Addr.mk.inj e).1), World.cell?_setCell_other _ _ _ _ (by intro e; exact hwg (Addr.mk.inj e).1), World.cell?_setCell_other _ _ _ _ (by intro e; exact hwg (Addr.mk.inj e).1)]; exact hS'.1), (by rw [World.cell?_setCell_other _ _ _ _ (by intro e; exact hwg (Addr.mk.inj e).1), World.cell?_setCell_other _ _ _ _ (by intro e; exact hwg (Addr.mk.inj e).1), World.cell?_setCell_other _ _ _ _ (by intro e; exact hwg (Addr.mk.inj e).1)]; exact hS'.2.1), cv_eq (by simp only [isSome_setCell, isSome_drew]; exact isSome_of hS'.2.2.1), cv_eq (by simp only [isSome_setCell, isSome_drew]; exact isSome_of hS'.2.2.2.1), cv_eq (by simp only [isSome_setCell, isSome_drew]; exact isSome_of hS'.2.2.2.2.1), (by simp only [World.frozen?_setCell, World.frozen?_drew]; exact hS'.2.2.2.2.2.1), (by simp only [World.frozen?_setCell, World.frozen?_drew]; exact hS'.2.2.2.2.2.2.1), (by simp only [World.frozen?_setCell, World.frozen?_drew]; exact hS'.2.2.2.2.2.2.2.1), ((Below.setCell (Below.setCell (Below.setCell hS'.2.2.2.2.2.2.2.2 (Nat.le_refl _) _) (Nat.le_refl _) _) (Nat.le_refl _) _))⟩) | fail)
      (first | (go_at_call 25; refine (clone_kept g w.heap.size w _ _ ?_ ?_).mono ?_; (refine sl_empty _ _ _ _ _ ?_; simp [maxLen]); (first | (with_reducible exact HS0) | (with_reducible exact hS') | (exact ⟨(by rw [World.cell?_setCell_other _ _ _ _ (by intro e; exact hwg (Addr.mk.inj e).1), World.cell?_setCell_other _ _ _ _ (by intro e; exact hwg (Addr.mk.inj e).1), World.cell?_setCell_other _ _ _ _ (by intro e; exact hwg (Addr.mk.inj e).1)]; exact hS'.1), (by rw [World.cell?_setCell_other _ _ _ _ (by intro e; exact hwg (Addr.mk.inj e).1), World.cell?_setCell_other _ _ _ _ (by intro e; exact hwg (Addr.mk.inj e).1), World.cell?_setCell_other _ _ _ _ (by intro e; exact hwg (Addr.mk.inj e).1)]; exact hS'.2.1), cv_eq (by simp only [isSome_setCell, isSome_drew]; exact isSome_of hS'.2.2.1), cv_eq (by simp only [isSome_setCell, isSome_drew]; exact isSome_of hS'.2.2.2.1), cv_eq (by simp only [isSome_setCell, isSome_drew]; exact isSome_of hS'.2.2.2.2.1), (by simp only [World.frozen?_setCell, World.frozen?_drew]; exact hS'.2.2.2.2.2.1), (by simp only [World.frozen?_setCell, World.frozen?_drew]; exact hS'.2.2.2.2.2.2.1), (by simp only [World.frozen?_setCell, World.frozen?_drew]; exact hS'.2.2.2.2.2.2.2.1), ((Below.setCell (Below.setCell (Below.setCell hS'.2.2.2.2.2.2.2.2 (Nat.le_refl _) _) (Nat.le_refl _) _) (Nat.le_refl _) _))⟩) | fail); rintro e w' ⟨a', c', rfl, hS'⟩))
    obtain ⟨s0, s1, s2, s3, s4, s5, s6, s7, s8⟩ := hS'
    have HS8 := Lib.hid s8; clear s8 HS0
    rename_i wq a1 c1 hq1
    go_wp2_with fail
    all_goals
      refine bodyPost_ret (v := .tuple #[.agg #[.int .i64 1, .slice a1 0 c1, .slice a' 0 c'], .int .i64 0]) ?_ rfl ⟨_, _, _, _, rfl, Below.setCell (Below.setCell (Below.setCell HS8.out (Nat.le_refl _) _) (Nat.le_refl _) _) (Nat.le_refl _) _⟩
      simp [results, Try.results21, go_sem, s2, s3, s4]
end Go.Proofs.Ytpjkehfmdmmfeaa
