/- Package ref01: word, below, plus, minus, in abstract values. Package ref01: plus, minus, in abstract values. Package ref01: split, shifted, Bits, in abstract values. -/
import Derived.Test.YtmohfcpjgcgogaaGreatDoorRfA
set_option linter.all false
namespace Ab
open Go Go.RowKit Go.Proofs Hp
set_option maxRecDepth 100000
end Ab
namespace Ab
open Go Go.RowKit Go.Proofs Hp
set_option maxRecDepth 100000
end Ab
namespace Ab
open Go Go.RowKit Go.Proofs Hp
set_option maxRecDepth 100000
theorem pw_two (q : Nat) : pw q = 2 ^ (32 * q) := by
 induction q with
 | zero => rfl
 | succ q ih => rw [pw_succ, ih, show 32 * (q + 1) = 32 * q + 32 by omega, Int.pow_add]; rfl
theorem two_split (n : Nat) : (2 : Int) ^ n = 2 ^ (n % 32) * pw (n / 32) := by
 rw [pw_two, ← Int.pow_add]
 congr 1
 omega
theorem two_pos (n : Nat) : (0 : Int) < 2 ^ n := Int.pow_pos (by decide)
end Ab
