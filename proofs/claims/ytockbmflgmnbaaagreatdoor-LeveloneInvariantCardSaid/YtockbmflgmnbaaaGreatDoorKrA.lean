/- The symbol of Jacobi and Kronecker for numbers below 1000: the algorithm, and the product over the prime factors; no condition. -/
import Derived.Lib.TrailingZeros
set_option linter.all false
namespace Kr
def pull : Nat → Nat → Nat → Nat × Nat
 | 0, n, _ => (0, n)
 | k + 1, n, p => bif Nat.beq (n % p) 0 then ((pull k (n / p) p).1 + 1, (pull k (n / p) p).2) else (0, n)
def facB : Nat → Nat → Nat → List (Nat × Nat)
 | 0, _, n => bif Nat.ble n 1 then [] else [(n, 1)]
 | k + 1, d, n => bif Nat.ble (d * d) n then (match pull 63 n d with
   | (0, m) => facB k (d + 1) m
   | (e + 1, m) => (d, e + 1) :: facB k (d + 1) m) else (bif Nat.ble n 1 then [] else [(n, 1)])
def okB : Nat → Nat → Nat → Bool
 | 0, d, n => !Nat.ble (d * d) n
 | k + 1, d, n => bif Nat.ble (d * d) n then okB k (d + 1) (pull 63 n d).2 else true
def legc (a p : Nat) : Nat := bif Nat.beq (a ^ ((p - 1) / 2) % p) (p - 1) then 2 else bif Nat.ble (a ^ ((p - 1) / 2) % p) 1 then a ^ ((p - 1) / 2) % p else 9
def prc : List (Nat × Nat) → Nat → Nat → Nat
 | [], _, c => c
 | (p, e) :: l, a, c => bif Nat.ble (legc (a % p) p) 2 then prc l a (c * legc (a % p) p ^ e % 3) else 8
def allB : Nat → (Nat → Bool) → Bool
 | 0, _ => true
 | n + 1, f => f n && allB n f
theorem allB_at {f : Nat → Bool} : ∀ {n i : Nat}, allB n f = true → i < n → f i = true
  | n + 1, i, h, hi => by
    unfold allB at h
    rw [Bool.and_eq_true] at h
    by_cases e : i = n
    · rw [e]; exact h.1
    · exact allB_at h.2 (by omega)
end Kr
