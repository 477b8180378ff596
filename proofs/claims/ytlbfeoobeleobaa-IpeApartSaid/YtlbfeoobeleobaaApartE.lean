/- IpeApart answers true. -/
import Derived.Test.YtlbfeoobeleobaaApartB
import Derived.Test.YtlbfeoobeleobaaApartC
import Derived.Test.YtlbfeoobeleobaaApartD
namespace Go.Proofs.Ytlbfeoobeleobaa
theorem apart_true (p q : Prod) (w : World) : Calls Try.prog 3 #[p.v, q.v] w (RetB true w) := by
  cases hpr : p.right with
  | false => exact apart_1 p q w hpr
  | true =>
    cases hqr : q.right with
    | false => exact apart_2 p q w hpr hqr
    | true =>
      by_cases hpq : p = q
      · exact apart_3 p q w hpr hqr hpq
      · rcases Nat.lt_trichotomy p.form.length q.form.length with h | h | h
        · exact apart_4 p q w hpr hqr hpq h
        · exact apart_5 p q w hpr hqr hpq h
        · exact apart_6 p q w hpr hqr hpq h
end Go.Proofs.Ytlbfeoobeleobaa
