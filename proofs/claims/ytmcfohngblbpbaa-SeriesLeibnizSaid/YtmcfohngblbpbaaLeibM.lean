/- The rule for products: by coefficients; plain. -/
import Derived.Test.YtmcfohngblbpbaaGood
namespace Ab
open Hp
def th (A : Int → Rat) : Int → Rat := fun n => (n : Rat) * A n
theorem cv_th (A B : Int → Rat) (n : Int) : (n : Rat) * cv A B n = cv (th A) B n + cv A (th B) n := by
  unfold cv
  rw [← su_mul, ← su_add]
  refine su_congr fun j _ => ?_
  unfold th
  have e : (n : Rat) = (((j : Int) - 100 : Int) : Rat) + ((n - ((j : Int) - 100) : Int) : Rat) := by
    rw [← Rat.intCast_add]
    congr 1
    omega
  generalize (((j : Int) - 100 : Int) : Rat) = x at *
  generalize ((n - ((j : Int) - 100) : Int) : Rat) = y at *
  generalize A ((j : Int) - 100) = a
  generalize B (n - ((j : Int) - 100)) = b
  rw [e]
  grind
theorem th_cf {s : Int} {l : List Rat} {u : Int} {c : List Rat} (h1 : u + c.length = s + l.length) (h2 : ∀ n, n < s + l.length → cf u c n = (n : Rat) * cf s l n) : cf u c = th (cf s l) := funext fun n => by
  unfold th
  by_cases h : n < s + l.length
  · exact h2 n h
  · rw [cf_ge (s := u) (by omega), cf_ge (s := s) (by omega), Rat.mul_zero]
/-- all that the rule for products needs -/
theorem leib {s t : Int} {l m : List Rat} (hv : ValidP s l.length = true) (hw : ValidP t m.length = true) (hs0 : -8 ≤ s) (hs1 : s ≤ 40) (ht0 : -8 ≤ t) (ht1 : t ≤ 40) (hn : l.length ≤ 12) (hm : m.length ≤ 12) (hl : ∀ q, q ∈ l → Ht q 4) (hq : ∀ q, q ∈ m → Ht q 4) :
    ∃ u1 c1 u2 c2 u3 c3 u4 c4 u5 c5 u6 c6 u7 c7, mulR s l t m = some (u1, c1) ∧ thR s l = some (u2, c2) ∧ thR t m = some (u3, c3) ∧ thR u1 c1 = some (u4, c4) ∧ mulR u2 c2 t m = some (u5, c5) ∧ mulR s l u3 c3 = some (u6, c6) ∧ combR u5 c5 u6 c6 1 = some (u7, c7) ∧ agr u4 c4 u7 c7 = true ∧
      (∀ q, q ∈ c1 → Ht q 1000) ∧ (∀ q, q ∈ c2 → Ht q 1000) ∧ (∀ q, q ∈ c3 → Ht q 1000) ∧ (∀ q, q ∈ c4 → Ht q 1000) ∧ (∀ q, q ∈ c5 → Ht q 1000) ∧ (∀ q, q ∈ c6 → Ht q 1000) ∧ (∀ q, q ∈ c7 → Ht q 1000) ∧
      ValidP u1 c1.length = true ∧ ValidP u2 c2.length = true ∧ ValidP u3 c3.length = true ∧ ValidP u4 c4.length = true ∧ ValidP u5 c5.length = true ∧ ValidP u6 c6.length = true ∧ ValidP u7 c7.length = true := by
  have la := lead_le l
  have lb := lead_le m
  obtain ⟨u1, c1, e1, g1, p1, q1, b1, f1, k1, z1⟩ := mul_out (K := 4) (N := 12) hv hw (by decide) hl hq hn (by omega) (by omega)
  have v1 := Out.v g1 p1 q1
  obtain ⟨u2, c2, e2, g2, p2, q2, b2, f2, k2, z2⟩ := th_out (K := 4) hv (by decide) hl
  have v2 := Out.v g2 p2 q2
  obtain ⟨u3, c3, e3, g3, p3, q3, b3, f3, k3, z3⟩ := th_out (K := 4) hw (by decide) hq
  have v3 := Out.v g3 p3 q3
  have t2 := th_cf p2 f2
  have t3 := th_cf p3 f3
  -- the orders of the derivatives are not below those of the series
  have o2 : s + lead l ≤ u2 := by
    by_cases h : s + lead l ≤ u2
    · exact h
    · exfalso
      have hlen : 0 < c2.length := by omega
      have hx : cf u2 c2 u2 = 0 := by
        rw [t2]
        unfold th
        rw [← cf_drop s l (lead l) (Nat.le_refl _), cf_lt (by omega), Rat.mul_zero]
      have hy : cf u2 c2 u2 = c2[0] := by unfold cf; rw [if_neg (by omega), Int.sub_self]; simp [hlen]
      have hne : c2[0] ≠ 0 := lead_ne c2 c2[0] (by rw [z2]; exact List.getElem?_eq_getElem hlen)
      rw [hy] at hx
      exact hne hx
  have o3 : t + lead m ≤ u3 := by
    by_cases h : t + lead m ≤ u3
    · exact h
    · exfalso
      have hlen : 0 < c3.length := by omega
      have hx : cf u3 c3 u3 = 0 := by
        rw [t3]
        unfold th
        rw [← cf_drop t m (lead m) (Nat.le_refl _), cf_lt (by omega), Rat.mul_zero]
      have hy : cf u3 c3 u3 = c3[0] := by unfold cf; rw [if_neg (by omega), Int.sub_self]; simp [hlen]
      have hne : c3[0] ≠ 0 := lead_ne c3 c3[0] (by rw [z3]; exact List.getElem?_eq_getElem hlen)
      rw [hy] at hx
      exact hne hx
  obtain ⟨u4, c4, e4, g4, p4, q4, b4, f4, k4, z4⟩ := th_out (K := 109) v1 (by decide) k1
  have v4 := Out.v g4 p4 q4
  obtain ⟨u5, c5, e5, g5, p5, q5, b5, f5, k5, z5⟩ := mul_out (K := 5) (N := 12) v2 hw (by decide) k2 (fun q h => (hq q h).mono (by decide)) (by omega) (by omega) (by rw [z2]; omega)
  have v5 := Out.v g5 p5 q5
  obtain ⟨u6, c6, e6, g6, p6, q6, b6, f6, k6, z6⟩ := mul_out (K := 5) (N := 12) hv v3 (by decide) (fun q h => (hl q h).mono (by decide)) k3 hn (by omega) (by rw [z3]; omega)
  have v6 := Out.v g6 p6 q6
  obtain ⟨u7, c7, e7, g7, p7, q7, b7, f7, k7, z7⟩ := comb_out (c := 1) (K := 133) v5 v6 (by decide) (by decide) k5 k6
  have v7 := Out.v g7 p7 q7
  refine ⟨u1, c1, u2, c2, u3, c3, u4, c4, u5, c5, u6, c6, u7, c7, e1, e2, e3, e4, e5, e6, e7, agr_true v4 v7 fun n n4 n7 => ?_, fun q h => (k1 q h).mono (by decide), fun q h => (k2 q h).mono (by decide), fun q h => (k3 q h).mono (by decide), fun q h => (k4 q h).mono (by decide), fun q h => (k5 q h).mono (by decide), fun q h => (k6 q h).mono (by decide), fun q h => (k7 q h).mono (by decide), v1, v2, v3, v4, v5, v6, v7⟩
  rw [z2] at p5
  rw [z3] at p6
  have a4 : cf u4 c4 n = (n : Rat) * cf u1 c1 n := f4 n (by omega)
  have a1 := f1 n (by omega)
  have a7 : cf u7 c7 n = cf u5 c5 n + ((1 : Int) : Rat) * cf u6 c6 n := f7 n (by omega)
  have a5 := f5 n (by rw [z2]; omega)
  have a6 := f6 n (by rw [z3]; omega)
  rw [a4, a1, a7, a5, a6, t2, t3, cv_th, Rat.intCast_one, Rat.one_mul]
end Ab
