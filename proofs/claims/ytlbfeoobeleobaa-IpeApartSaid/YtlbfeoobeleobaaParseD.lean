/- ipe.Parse, whatever the bytes. -/
import Derived.Test.YtlbfeoobeleobaaParseC
namespace Go.Proofs.Ytlbfeoobeleobaa
open Go.RowKit
set_option linter.unusedVariables false
set_option linter.unusedSimpArgs false

theorem parse_any (v : Value) (bs : List Int) (w : World) (hs : Sl 1 w v bs.length (u8s bs)) (hb : BytesOk bs) (hl : bs.length ≤ 140737488355328) : Calls Try.prog 20 #[v] w (ProdE w (parseP bs)) := by
  by_cases he : (getP 4 bs).1 = 0
  · have hg : getP 4 bs = (0, (getP 4 bs).2) := by rw [← he]
    have hp : parseP bs = parse2 (getP 4 bs).2 bs := by
      unfold parseP parse2
      rw [if_neg (by simp [he])]
    rw [hp]
    cases hft : findTag 224 (getP 4 bs).2 with
    | none => exact parse_none v bs w hs hb hl _ hg hft
    | some t => exact parse_some v bs w hs hb hl _ hg t hft
  · rw [show parseP bs = (Prod.zero, (getP 4 bs).1) by unfold parseP; rw [if_pos he]]
    exact parse_err v bs w hs hb hl he
end Go.Proofs.Ytlbfeoobeleobaa
