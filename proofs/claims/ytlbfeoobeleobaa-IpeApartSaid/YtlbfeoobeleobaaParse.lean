/- ipe.Parse. -/
import Derived.Test.YtlbfeoobeleobaaBox
import Derived.StillTailTactics
namespace Go.Proofs.Ytlbfeoobeleobaa
open Go.RowKit
set_option linter.unusedVariables false
set_option linter.unusedSimpArgs false

def ProdE (w : World) (r : Prod × Int) (e : Ending) (w' : World) : Prop := e = .returned (.tuple #[r.1.v, .int .i64 r.2]) ∧ Below w.heap.size w w'

set_option maxHeartbeats 4000000 in
set_option maxRecDepth 100000 in
theorem parse_err (v : Value) (bs : List Int) (w : World) (hs : Sl 1 w v bs.length (u8s bs)) (hb : BytesOk bs) (hl : bs.length ≤ 140737488355328) (he : (getP 4 bs).1 ≠ 0) : Calls Try.prog 20 #[v] w (ProdE w (Prod.zero, (getP 4 bs).1)) := by
  have HG := fun W (hB : Below w.heap.size w W) => Lib.hid (tlv_get v bs W (hs.ofBelow hB) hb hl)
  have HGG := Lib.hid HG
  obtain ⟨a, c, rfl⟩ := hs.shape
  clear hs hb HG
  generalize getP 4 bs = r at *
  obtain ⟨e1, es⟩ := r
  simp only at he ⊢
  have d0 : (e1 != 0) = true := by simp [he]
  clear he
  have hblk : PB w.heap.size Prod.zero (w.alloc (.cells Prod.zero.cells.toArray 24)) := heap_alloc_new w _
  simp only [Prod.zero, Prod.cells] at hblk
  go_enter Try.func20, Try.ntmps20
  go_wp2_with fail
  refine ((HGG.out _ (by exact (Below.refl _ _).alloc (Nat.le_refl _) _)).out).mono ?_
  rintro e w1 ⟨v1, rfl, hr, hB⟩
  have hblk1 : PB w.heap.size Prod.zero w1 := (hB.block w.heap.size (by simp)).trans hblk
  have HB1 := Lib.hid (show Below w.heap.size w w1 from Below.trans ((Below.refl _ _).alloc (Nat.le_refl _) _) (hB.mono (by simp)))
  clear hB hblk hr
  have cs := hblk1.cs
  have fs := hblk1.fs
  have HPB := Lib.hid hblk1; clear hblk1
  go_wp2_with fail
  refine bodyPost_ret (v := .tuple #[Prod.zero.v, .int .i64 e1]) ?_ rfl ⟨rfl, stP_below Prod.zero HB1.out (Nat.le_refl _)⟩
  have hp := HPB.out.store Prod.zero
  change (results _ _).run _ (stP w.heap.size Prod.zero w1) = .ok _ (stP w.heap.size Prod.zero w1)
  generalize stP w.heap.size Prod.zero w1 = w5 at *
  have cs := hp.cs
  simp [results, Try.results20, go_sem, cs, Prod.v]
end Go.Proofs.Ytlbfeoobeleobaa
