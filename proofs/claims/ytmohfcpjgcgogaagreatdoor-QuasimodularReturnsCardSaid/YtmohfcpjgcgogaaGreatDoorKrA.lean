/- The symbol of Jacobi and Kronecker for numbers below 1000: the algorithm, and the product over the prime factors; no condition. -/
import Derived.Lib.TrailingZeros
set_option linter.all false
namespace Kr
def legc (a p : Nat) : Nat := bif Nat.beq (a ^ ((p - 1) / 2) % p) (p - 1) then 2 else bif Nat.ble (a ^ ((p - 1) / 2) % p) 1 then a ^ ((p - 1) / 2) % p else 9
def prc : List (Nat × Nat) → Nat → Nat → Nat
 | [], _, c => c
 | (p, e) :: l, a, c => bif Nat.ble (legc (a % p) p) 2 then prc l a (c * legc (a % p) p ^ e % 3) else 8
end Kr
