/- Twist of package series, in abstract values. Theta, Sieve and Twist of the document, in abstract values. Sieve and Contract of the document, in abstract values. Contract and Expand of the document, in abstract values. -/
import Derived.Test.YtajhaoapcapgeaaDoorArZ
import Derived.Test.YtajhaoapcapgeaaDoorSJ
import Derived.Test.YtajhaoapcapgeaaDoorZJ
set_option linter.all false
namespace Ab
open Go Go.RowKit Go.Proofs Hp
set_option maxRecDepth 100000

def twL (s : Int) (l : List Rat) (d : Int) : List Rat := tk (fun i => ((Kr.kron d (s + i) : Int) : Rat) * l.getD i 0) l.length
def twE (s : Int) (l : List Rat) (d : Int) : AV := if ValidP s l.length = true then (if (decide (d.natAbs ≤ 1000) && frefB d) = true then serE (nrm s (twL s l d)) else .tup [serA 0 [], .p (.int .i64 15)]) else serE none
theorem kron_bd {d n : Int} (hn : n.natAbs < 1000) : Bn 1 (Kr.kron d n) := by
  rw [← Kr.kro_eq hn]
  unfold Kr.kroA Bn
  have := sy_cases (Kr.jac 14 (d % ((n.natAbs >>> Kr.tz n.natAbs : Nat) : Int)).toNat (n.natAbs >>> Kr.tz n.natAbs) 0)
  generalize Kr.sy (Kr.jac 14 (d % ((n.natAbs >>> Kr.tz n.natAbs : Nat) : Int)).toNat (n.natAbs >>> Kr.tz n.natAbs) 0) = J at *
  have ho : (if n < 0 ∧ d < 0 then (-1 : Int) else 1) = 1 ∨ (if n < 0 ∧ d < 0 then (-1 : Int) else 1) = -1 := by split <;> simp
  generalize (if n < 0 ∧ d < 0 then (-1 : Int) else 1) = o at *
  split
  · split <;> omega
  · split
    · omega
    · split <;> rcases ho with rfl | rfl <;> rcases this with rfl | rfl | rfl <;> decide
end Ab
namespace Ab
open Go Go.RowKit Go.Proofs Hp
set_option maxRecDepth 100000

end Ab
namespace Ab
open Go Go.RowKit Go.Proofs Hp
set_option maxRecDepth 100000

theorem sie_iff {x m r : Int} (hm : 1 ≤ m) : ((x - r.tmod m).tmod m = 0) ↔ (x % m = r % m) := by
  have h1 : m ∣ r.tmod m - r := by
    have := Int.tmod_add_mul_tdiv r m
    exact ⟨-(r.tdiv m), by rw [Int.mul_neg]; omega⟩
  rw [Int.emod_eq_emod_iff_emod_sub_eq_zero]
  constructor
  · intro h
    have h2 := Int.dvd_of_tmod_eq_zero h
    refine Int.emod_eq_zero_of_dvd ?_
    have := Int.dvd_add h2 h1
    rwa [show x - r.tmod m + (r.tmod m - r) = x - r by omega] at this
  · intro h
    have h2 := Int.dvd_of_emod_eq_zero h
    refine Int.tmod_eq_zero_of_dvd ?_
    have := Int.dvd_sub h2 h1
    rwa [show x - r - (r.tmod m - r) = x - r.tmod m by omega] at this
end Ab
namespace Ab
open Go Go.RowKit Go.Proofs Hp
set_option maxRecDepth 100000

theorem ceil_eq {n d : Int} (hd : 1 ≤ d) : (n + (-n) % d).tdiv d = upv n d := by
  have h1 := Int.mul_ediv_add_emod (-n) d
  have h0 := Int.emod_nonneg (-n) (show d ≠ 0 by omega)
  have h2 := Int.emod_lt_of_pos (-n) (show 0 < d by omega)
  obtain ⟨u1, u2⟩ := upv_spec (n := n) hd
  have e : n + (-n) % d = d * (-((-n) / d)) := by rw [Int.mul_neg]; omega
  rw [e, Int.mul_tdiv_cancel_left _ (by omega)]
  generalize (-n) / d = q at *
  generalize (-n) % d = t at *
  generalize upv n d = u at *
  have e2 : n = (-q) * d - t := by
    have : (-q) * d = -(d * q) := by rw [Int.neg_mul, Int.mul_comm]
    omega
  have a1 : (u - 1) * d < (-q) * d := by omega
  have a2 : (-q - 1) * d < u * d := by rw [Int.sub_mul]; omega
  have b1 := Int.lt_of_mul_lt_mul_right a1 (by omega)
  have b2 := Int.lt_of_mul_lt_mul_right a2 (by omega)
  omega
theorem upv_bd {n d : Int} (hd : 1 ≤ d) (hn : -1000 ≤ n ∧ n ≤ 2000) : -1000 ≤ upv n d ∧ upv n d ≤ 2000 := by
  obtain ⟨u1, u2⟩ := upv_spec (n := n) hd
  constructor
  · refine Int.not_lt.1 fun h => ?_
    have : upv n d * d ≤ -1001 * d := Int.mul_le_mul_of_nonneg_right (by omega) (by omega)
    omega
  · refine Int.not_lt.1 fun h => ?_
    have : 2000 * d ≤ (upv n d - 1) * d := Int.mul_le_mul_of_nonneg_right (by omega) (by omega)
    omega
end Ab
