/- The axioms of a ring, by coefficients. -/
import Derived.Test.YtalcdpjpapojeaaGreatDoorOCG
import Derived.Test.YtalcdpjpapojeaaGreatDoorIB
set_option linter.all false
namespace Ab
open Hp
def nc (a b : Nat → Rat) (k : Nat) : Rat := su (fun j => a j * b (k - j)) (k + 1)
theorem su_front (f : Nat → Rat) (n : Nat) : su f (n + 1) = f 0 + su (fun j => f (j + 1)) n := by
 rw [Nat.add_comm, su_split]
 show (0 : Rat) + f 0 + _ = _
 rw [Rat.zero_add]
 congr 1
 exact Zbk fun j _ => by rw [Nat.add_comm]
theorem su_rev (f : Nat → Rat) : ∀ n, su (fun j => f (n - 1 - j)) n = su f n
  | 0 => rfl
  | n + 1 => by
    rw [su_front]
    show f (n + 1 - 1 - 0) + _ = su f n + f n
    rw [show n + 1 - 1 - 0 = n by omega, Rat.add_comm]
    congr 1
    rw [← su_rev f n]
    exact Zbk fun j _ => by rw [show n + 1 - 1 - (j + 1) = n - 1 - j by omega]
theorem nc_comm (a b : Nat → Rat) (k : Nat) : nc a b k = nc b a k := by
 unfold nc
 rw [← su_rev]
 refine Zbk fun j hj => ?_
 rw [show k + 1 - 1 - j = k - j by omega, show k - (k - j) = j by omega, Rat.mul_comm]
theorem tri (F : Nat → Nat → Rat) : ∀ n, su (fun i => su (fun j => F i j) (i + 1)) n = su (fun j => su (fun i => F (i + j) j) (n - j)) n
  | 0 => rfl
  | n + 1 => by
    show su _ n + su (fun j => F n j) (n + 1) = su _ n + su (fun i => F (i + n) n) (n + 1 - n)
    rw [tri F n, show n + 1 - n = 0 + 1 by omega]
    show _ + (su (fun j => F n j) n + F n n) = _ + ((0 : Rat) + F (0 + n) n)
    rw [Rat.zero_add, Nat.zero_add, ← Rat.add_assoc]
    congr 1
    rw [← su_add]
    refine Zbk fun j hj => ?_
    rw [show n + 1 - j = (n - j) + 1 by omega]
    show _ = su (fun i => F (i + j) j) (n - j) + F (n - j + j) j
    rw [show n - j + j = n by omega]
theorem su_mulr (c : Rat) (f : Nat → Rat) (n : Nat) : su f n * c = su (fun j => f j * c) n := by
 rw [Rat.mul_comm, ← Zf0]
 exact Zbk fun j _ => Rat.mul_comm _ _
theorem nc_assoc (a b c : Nat → Rat) (k : Nat) : nc (nc a b) c k = nc a (nc b c) k := by
 have h1 : nc (nc a b) c k = su (fun i => su (fun j => a j * b (i - j) * c (k - i)) (i + 1)) (k + 1) := Zbk fun i _ => su_mulr _ _ _
 have h2 : nc a (nc b c) k = su (fun j => su (fun i => a j * b (i + j - j) * c (k - (i + j))) (k + 1 - j)) (k + 1) := Zbk fun j hj => by
  unfold nc
  rw [← Zf0, show k + 1 - j = k - j + 1 by omega]
  refine Zbk fun i hi => ?_
  rw [show i + j - j = i by omega, show k - (i + j) = k - j - i by omega, Rat.mul_assoc]
 rw [h1, h2]
 exact tri (fun i j => a j * b (i - j) * c (k - i)) (k + 1)
theorem norm_eq {s t : Int} {l m : List Rat} (h1 : lead l = 0) (h2 : lead m = 0) (hp : s + l.length = t + m.length) (hf : ∀ n, n < s + l.length → cf s l n = cf t m n) : s = t ∧ l = m := by
 have key : ∀ {s t : Int} {l m : List Rat}, lead m = 0 → s + l.length = t + m.length → (∀ n, n < s + l.length → cf s l n = cf t m n) → s ≤ t := fun {s t l m} h2 hp hf => by
  by_cases h : s ≤ t
  ·exact h
  ·exfalso
   have hlen : 0 < m.length := oM
   have hx := hf t oM
   rw [Zg1 oM] at hx
   have hy : cf t m t = m[0] := by unfold cf; rw [if_neg oM, Int.sub_self]; simp [hlen]
   exact Zga m m[0] (by rw [h2]; exact List.getElem?_eq_getElem hlen) (by rw [← hy, ← hx])
 have e : s = t := by
  have a := key h2 hp hf
  have b := key h1 hp.symm (fun n hn => (hf n oM).symm)
  omega
 subst e
 have hl : l.length = m.length := oM
 refine ⟨rfl, List.ext_getElem hl fun i h3 h4 => ?_⟩
 have := hf (s + i) oM
 unfold cf at this
 rw [if_neg oM, if_neg oM, show (s + (i : Int) - s).toNat = i by omega] at this
 simpa [h3, h4] using this
end Ab
namespace Ab
open Go Go.RowKit Go.Proofs Hp
set_option maxRecDepth 100000
def tdy (s : Int) (l : List Rat) : Int × List Rat := (s + lead l, l.drop (lead l))
def norR (s : Int) (l : List Rat) : Option (Int × List Rat) := if Zap s l.length then some (tdy s l) else none
theorem normal_p {s : Int} {es : List AV} {l : List Rat} {K : Nat} (h : Zap s es.length = true → IsL es K l) (hle : es.length = l.length) (hr : InR s es.length) (hK : 1 ≤ K ∧ K ≤ 268435456) : PC Tryz.prog 63 [serA s es] (serE (norR s l)) := by
  obtain ⟨i1, i2, i3⟩ := hr
  have hva := Zdt i1 i2 i3
  rw [Zbm]
  unfold norR
  rw [← hle]
  cases h1 : Zap s es.length with
  | false =>
    rw [h1] at hva
    refine pb2 Tryz.func63 (Zac.agg Zaj) Zac.tmp ?_
    refine goA ?_
    refine clG hva ?_
    exact rfl
  | true =>
    rw [h1] at hva
    obtain ⟨a0, a1, a2⟩ := Za2.1 h1
    have ht := tidy_p (h h1) oM a0 a1 a2
    refine pb2 Tryz.func63 (Zac.agg Zaj) Zac.tmp ?_
    refine goA ?_
    refine clG hva ?_
    refine clG ht ?_
    exact rfl
def cutS (s : Int) (l : List Rat) (p : Int) : Int × List Rat := if s + l.length ≤ p then tdy s l else if p ≤ s then (p, []) else tdy s (l.take (p - s).toNat)
def cutR (s : Int) (l : List Rat) (p : Int) : Option (Int × List Rat) := if Zap s l.length && decide (-100 ≤ p) then some (cutS s l p) else none
end Ab
namespace Ab
open Hp
theorem ht_getD {l : List Rat} {K : Nat} (hK : 1 ≤ K) (h : ∀ q, q ∈ l → Ht q K) (i : Nat) : Ht (l.getD i 0) K := by
 rw [List.getD_eq_getElem?_getD]
 cases e : l[i]? with
 | none => exact ht0 hK
 | some q => exact h q (List.mem_of_getElem? e)
end Ab
