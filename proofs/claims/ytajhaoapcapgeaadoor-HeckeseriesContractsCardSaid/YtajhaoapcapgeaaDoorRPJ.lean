/- Package ref33: zero, Prec, Ord, Result, in abstract values. Package ref33: Result, in abstract values. -/
import Derived.Test.YtajhaoapcapgeaaDoorRfD
import Derived.Test.YtajhaoapcapgeaaDoorSerC
set_option linter.all false
namespace Ab
open Go Go.RowKit Go.Proofs Hp
set_option maxRecDepth 100000

theorem num_zero {q : Rat} : decide (q.num.natAbs = 0) = decide (q = 0) := by
  rw [decide_eq_decide]
  constructor
  · intro h
    have h2 : q.num = 0 := by omega
    exact Rat.num_eq_zero.1 h2
  · intro h; rw [h]; rfl
theorem rprec_p {s : Int} {es : List AV} (h0 : -100 ≤ s) (h1 : s ≤ 1000) (h2 : (es.length : Int) ≤ 1000 - s) : PC Tryd.prog 12 [serA s es] (.p (.int .i64 (s + es.length))) := by
  refine pc_body1 true Tryd.func12 rfl rfl rfl (Nat.le_of_ble_eq_true rfl) CellT.tmp ?_
  refine goA ?_
  exact rfl
theorem lead_step {l : List Rat} {j : Nat} (h : ∀ i, i < j → l[i]? = some 0) : j ≤ l.length := by
  by_cases hj : j ≤ l.length
  · exact hj
  · have := h l.length (by omega)
    rw [List.getElem?_eq_none (Nat.le_refl _)] at this
    cases this
end Ab
namespace Ab
open Go Go.RowKit Go.Proofs Hp
set_option maxRecDepth 100000

end Ab
