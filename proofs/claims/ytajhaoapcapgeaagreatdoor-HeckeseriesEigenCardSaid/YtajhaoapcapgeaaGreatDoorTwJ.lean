/- Twist of package series, in abstract values. Theta, Sieve and Twist of the document, in abstract values. Sieve and Contract of the document, in abstract values. Contract and Expand of the document, in abstract values. -/
import Derived.Test.YtajhaoapcapgeaaGreatDoorArZ
import Derived.Test.YtajhaoapcapgeaaGreatDoorSJ
import Derived.Test.YtajhaoapcapgeaaGreatDoorZJ
set_option linter.all false
namespace Ab
open Go Go.RowKit Go.Proofs Hp
set_option maxRecDepth 100000

theorem kron_bd {d n : Int} (hn : n.natAbs < 1000) : Bn 1 (Kr.kron d n) := by
  rw [← Kr.kro_eq hn]
  unfold Kr.kroA Bn
  have := sy_cases (Kr.jac 14 (d % ((n.natAbs >>> Kr.tz n.natAbs : Nat) : Int)).toNat (n.natAbs >>> Kr.tz n.natAbs) 0)
  generalize Kr.sy (Kr.jac 14 (d % ((n.natAbs >>> Kr.tz n.natAbs : Nat) : Int)).toNat (n.natAbs >>> Kr.tz n.natAbs) 0) = J at *
  have ho : (if n < 0 ∧ d < 0 then (-1 : Int) else 1) = 1 ∨ (if n < 0 ∧ d < 0 then (-1 : Int) else 1) = -1 := by split <;> simp
  generalize (if n < 0 ∧ d < 0 then (-1 : Int) else 1) = o at *
  split
  · split <;> omega
  · split
    · omega
    · split <;> rcases ho with rfl | rfl <;> rcases this with rfl | rfl | rfl <;> decide
end Ab
namespace Ab
open Go Go.RowKit Go.Proofs Hp
set_option maxRecDepth 100000

end Ab
namespace Ab
open Go Go.RowKit Go.Proofs Hp
set_option maxRecDepth 100000

end Ab
namespace Ab
open Go Go.RowKit Go.Proofs Hp
set_option maxRecDepth 100000

end Ab
