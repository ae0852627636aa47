/- Package ref33: zero, Prec, Ord, Result, in abstract values. Package ref33: Result, in abstract values. -/
import Derived.Test.YtajhaoapcapgeaaGreatDoorRfD
import Derived.Test.YtajhaoapcapgeaaGreatDoorSerC
set_option linter.all false
namespace Ab
open Go Go.RowKit Go.Proofs Hp
set_option maxRecDepth 100000

theorem rprec_p {s : Int} {es : List AV} (h0 : -100 ≤ s) (h1 : s ≤ 1000) (h2 : (es.length : Int) ≤ 1000 - s) : PC Tryz.prog 35 [serA s es] (.p (.int .i64 (s + es.length))) := by
  refine pc_body1 true Tryz.func35 rfl rfl rfl (Nat.le_of_ble_eq_true rfl) CellT.tmp ?_
  refine goA ?_
  exact rfl
end Ab
namespace Ab
open Go Go.RowKit Go.Proofs Hp
set_option maxRecDepth 100000

end Ab
