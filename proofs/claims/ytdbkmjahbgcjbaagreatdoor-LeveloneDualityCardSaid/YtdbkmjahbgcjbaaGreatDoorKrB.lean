import Derived.Test.YtdbkmjahbgcjbaaGreatDoorKrA
import Derived.Test.YtdbkmjahbgcjbaaGreatDoorKrC1
import Derived.Test.YtdbkmjahbgcjbaaGreatDoorKrC2
import Derived.Test.YtdbkmjahbgcjbaaGreatDoorKrC3
import Derived.Test.YtdbkmjahbgcjbaaGreatDoorKrC4
set_option linter.all false
namespace Kr
theorem ck (i : Nat) (h : i < 500) : chkM (facB 40 2 (1 + 2 * i)) (1 + 2 * i) = true := by
 by_cases h1 : i < 250
 ·exact chkR_at chk1 h1
 ·by_cases h2 : i < 355
  ·have := chkR_at chk2 (i := i - 250) (by omega)
   rwa [show 501 + 2 * (i - 250) = 1 + 2 * i by omega] at this
  ·by_cases h3 : i < 435
   ·have := chkR_at chk3 (i := i - 355) (by omega)
    rwa [show 711 + 2 * (i - 355) = 1 + 2 * i by omega] at this
   ·have := chkR_at chk4 (i := i - 435) (by omega)
    rwa [show 871 + 2 * (i - 435) = 1 + 2 * i by omega] at this
def sy : Nat → Int
 | 1 => 1
 | 2 => -1
 | _ => 0
theorem sy_mul {a b : Nat} (ha : a < 3) (hb : b < 3) : sy (a * b % 3) = sy a * sy b := by
 have : ∀ a, a < 3 → ∀ b, b < 3 → sy (a * b % 3) = sy a * sy b := by decide
 exact this a ha b hb
theorem sy_pow {a b : Nat} (ha : a < 3) (hb : b < 3) : ∀ e, sy (a * b ^ e % 3) = sy a * sy b ^ e
  | 0 => by simp [Nat.mod_eq_of_lt ha]
  | e + 1 => by
    have e1 : a * b ^ (e + 1) % 3 = (a * b ^ e % 3) * b % 3 := by rw [Nat.mod_mul_mod, Nat.pow_succ, Nat.mul_assoc]
    rw [e1, sy_mul (Nat.mod_lt _ (by decide)) hb, sy_pow ha hb e, Int.pow_succ, Int.mul_assoc]
def two (a : Int) : Int := if a % 8 = 1 ∨ a % 8 = 7 then 1 else if a % 8 = 3 ∨ a % 8 = 5 then -1 else 0
def pw (a : Int) (p : Nat) : Nat := (a % (p : Int)).toNat ^ ((p - 1) / 2) % p
def leg (a : Int) (p : Nat) : Int := if p = 2 then two a else if pw a p = p - 1 then -1 else (pw a p : Int)
def kBf : List (Nat × Nat) → Int → Int → Int
 | [], _, o => o
 | (p, e) :: l, a, o => kBf l a (o * leg a p ^ e)
theorem kBf_mul : ∀ (l : List (Nat × Nat)) (a o : Int), kBf l a o = o * kBf l a 1
 | [], a, o => by simp [kBf]
 | (p, e) :: l, a, o => by rw [kBf, kBf_mul l, kBf, kBf_mul l a (1 * _), Int.one_mul, Int.mul_assoc]
def facOK (l : List (Nat × Nat)) (m : Nat) : Bool := l.all fun p => Nat.ble 3 p.1 && Nat.beq (m % p.1) 0
def splitOK (n : Nat) : Bool := facB 40 2 (n + 1) == (bif Nat.beq (tz (n + 1)) 0 then facB 40 2 ((n + 1) >>> tz (n + 1)) else (2, tz (n + 1)) :: facB 40 2 ((n + 1) >>> tz (n + 1))) && okB 40 2 (n + 1) && Nat.beq (((n + 1) >>> tz (n + 1)) % 2) 1 && facOK (facB 40 2 ((n + 1) >>> tz (n + 1))) ((n + 1) >>> tz (n + 1))
theorem split_all : allB 1099 splitOK = true := by decide +kernel
theorem split {n : Nat} (h0 : 0 < n) (h : n < 1100) : facB 40 2 n = (bif Nat.beq (tz n) 0 then facB 40 2 (n >>> tz n) else (2, tz n) :: facB 40 2 (n >>> tz n)) ∧ okB 40 2 n = true ∧ (n >>> tz n) % 2 = 1 ∧ facOK (facB 40 2 (n >>> tz n)) (n >>> tz n) = true := by
 have := allB_at split_all (i := n - 1) (by omega)
 unfold splitOK at this
 rw [show n - 1 + 1 = n by omega] at this
 simp only [Bool.and_eq_true, beq_iff_eq] at this
 exact ⟨this.1.1.1, this.1.1.2, Nat.eq_of_beq_eq_true this.1.2, this.2⟩
theorem prc_sy : ∀ (l : List (Nat × Nat)) (a : Int) (m c : Nat), facOK l m = true → 0 < m → c < 3 → prc l (a % (m : Int)).toNat c < 3 → sy (prc l (a % (m : Int)).toNat c) = kBf l a (sy c)
  | [], a, m, c, _, _, _, _ => rfl
  | (p, e) :: l, a, m, c, h, hm, hc, hr => by
    unfold facOK at h
    rw [List.all_cons, Bool.and_eq_true, Bool.and_eq_true] at h
    obtain ⟨⟨h1, h2⟩, h3⟩ := h
    have h1 := Nat.le_of_ble_eq_true h1
    have h2 := Nat.eq_of_beq_eq_true h2
    simp only at h1 h2
    have e0 : (a % (m : Int)).toNat % p = (a % (p : Int)).toNat := by
      have q1 : ((a % (m : Int)).toNat : Int) = a % (m : Int) := Int.toNat_of_nonneg (Int.emod_nonneg _ (by omega))
      have q2 : ((a % (p : Int)).toNat : Int) = a % (p : Int) := Int.toNat_of_nonneg (Int.emod_nonneg _ (by omega))
      have q3 : (((a % (m : Int)).toNat % p : Nat) : Int) = a % (p : Int) := by
        rw [Int.natCast_emod, q1]
        exact Int.emod_emod_of_dvd a (Int.natCast_dvd_natCast.2 (Nat.dvd_of_mod_eq_zero h2))
      omega
    unfold prc at hr ⊢
    rw [e0] at hr ⊢
    cases hx : Nat.ble (legc (a % (p : Int)).toNat p) 2 with
    | false => rw [hx] at hr; simp at hr
    | true =>
      rw [hx] at hr
      simp only [cond_true] at hr ⊢
      have hx := Nat.le_of_ble_eq_true hx
      have e1 : sy (legc (a % (p : Int)).toNat p) = leg a p := by
        unfold leg legc pw at *
        rw [if_neg (by omega)]
        cases hb : Nat.beq ((a % (p : Int)).toNat ^ ((p - 1) / 2) % p) (p - 1) with
        | true => rw [if_pos (Nat.eq_of_beq_eq_true hb)]; rfl
        | false =>
          rw [hb] at hx
          simp only [cond_false] at hx ⊢
          have hle : (a % (p : Int)).toNat ^ ((p - 1) / 2) % p ≤ 1 := by
            cases hb2 : Nat.ble ((a % (p : Int)).toNat ^ ((p - 1) / 2) % p) 1 with
            | true => exact Nat.le_of_ble_eq_true hb2
            | false => rw [hb2] at hx; simp at hx
          rw [show Nat.ble ((a % (p : Int)).toNat ^ ((p - 1) / 2) % p) 1 = true from Nat.ble_eq_true_of_le hle]
          simp only [cond_true]
          have hne : ¬ (a % (p : Int)).toNat ^ ((p - 1) / 2) % p = p - 1 := fun e => by rw [e, Nat.beq_refl] at hb; cases hb
          rw [if_neg hne]
          generalize (a % (p : Int)).toNat ^ ((p - 1) / 2) % p = r at *
          have : r = 0 ∨ r = 1 := by omega
          rcases this with rfl | rfl
          · rfl
          · rfl
      rw [kBf, ← e1, ← sy_pow hc (by omega)]
      exact prc_sy l a m _ h3 hm (Nat.mod_lt _ (by decide)) hr
theorem jac_ne : ∀ (k a m s : Nat), jac k a m s ≠ 8
  | 0, a, m, s => by simp [jac]
  | k + 1, a, m, s => by
    unfold jac
    cases Nat.beq a 0 with
    | true =>
      cases Nat.beq m 1 with
      | true => simp only [cond_true]; omega
      | false => simp
    | false => exact jac_ne k _ _ _
theorem prc_lt : ∀ (l : List (Nat × Nat)) (a c : Nat), c < 3 → prc l a c < 3 ∨ prc l a c = 8
  | [], a, c, h => .inl h
  | (p, e) :: l, a, c, h => by
    unfold prc
    cases Nat.ble (legc (a % p) p) 2 with
    | true => exact prc_lt l a _ (Nat.mod_lt _ (by decide))
    | false => exact .inr rfl
theorem jac_eq {m : Nat} (hm : m % 2 = 1) (hl : m < 1000) (hf : facOK (facB 40 2 m) m = true) (a : Int) : jac 14 (a % (m : Int)).toNat m 0 < 3 ∧ sy (jac 14 (a % (m : Int)).toNat m 0) = kBf (facB 40 2 m) a 1 := by
 have h1 := ck (m / 2) (by omega)
 rw [show 1 + 2 * (m / 2) = m by omega] at h1
 have hlt : (a % (m : Int)).toNat < m := by
  have := Int.emod_lt_of_pos a (show (0 : Int) < m by omega)
  have := Int.emod_nonneg a (show (m : Int) ≠ 0 by omega)
  omega
 have h2 := chkM_at h1 hlt
 rw [h2]
 have h3 : prc (facB 40 2 m) (a % (m : Int)).toNat 1 < 3 := by
  rcases prc_lt (facB 40 2 m) (a % (m : Int)).toNat 1 (by decide) with h | h
  ·exact h
  ·exact absurd (h2.trans h) (jac_ne _ _ _ _)
 exact ⟨h3, prc_sy _ a m 1 hf (by omega) (by decide) h3⟩
def kron (a n : Int) : Int := if n = 0 then (if a = 1 ∨ a = -1 then 1 else 0) else kBf (facB 40 2 n.natAbs) a (if n < 0 ∧ a < 0 then -1 else 1)
def kroA (a n : Int) : Int := if n = 0 then (if a = 1 ∨ a = -1 then 1 else 0) else
 if tz n.natAbs > 0 ∧ a % 2 = 0 then 0 else
 (if tz n.natAbs % 2 = 1 ∧ (a % 8 = 3 ∨ a % 8 = 5) then - (if n < 0 ∧ a < 0 then -1 else 1) else (if n < 0 ∧ a < 0 then -1 else 1)) * sy (jac 14 (a % ((n.natAbs >>> tz n.natAbs : Nat) : Int)).toNat (n.natAbs >>> tz n.natAbs) 0)
theorem pow_sgn (e : Nat) : (-1 : Int) ^ e = if e % 2 = 1 then -1 else 1 := by
  induction e with
  | zero => rfl
  | succ e ih =>
    rw [Int.pow_succ, ih]
    by_cases h : e % 2 = 1
    · rw [if_pos h, if_neg (by omega)]; rfl
    · rw [if_neg h, if_pos (by omega)]; rfl
theorem kro_eq {n : Int} (hn : n.natAbs < 1000) (a : Int) : kroA a n = kron a n := by
  unfold kroA kron
  by_cases h0 : n = 0
  · rw [if_pos h0, if_pos h0]
  · rw [if_neg h0, if_neg h0]
    obtain ⟨h1, h2, h3, h4⟩ := split (n := n.natAbs) (by omega) (by omega)
    have hlt : n.natAbs >>> tz n.natAbs < 1000 := by rw [Nat.shiftRight_eq_div_pow]; exact Nat.lt_of_le_of_lt (Nat.div_le_self _ _) hn
    obtain ⟨-, h6⟩ := jac_eq h3 hlt h4 a
    generalize (if n < 0 ∧ a < 0 then (-1 : Int) else 1) = o at *
    rw [h6, h1]
    generalize facB 40 2 (n.natAbs >>> tz n.natAbs) = l
    generalize tz n.natAbs = z
    cases hz : Nat.beq z 0 with
    | true =>
      have := Nat.eq_of_beq_eq_true hz
      subst this
      rw [if_neg (by omega), if_neg (by omega)]
      exact (kBf_mul _ _ _).symm
    | false =>
      have hz : 0 < z := by
        rcases Nat.eq_zero_or_pos z with e | e
        · subst e; cases hz
        · exact e
      simp only [cond_false]
      rw [kBf, kBf_mul l a (o * _)]
      have e2 : leg a 2 = two a := rfl
      rw [e2]
      unfold two
      by_cases c1 : a % 2 = 0
      · rw [if_pos ⟨hz, c1⟩, if_neg (by omega), if_neg (by omega), Int.zero_pow (by omega), Int.mul_zero, Int.zero_mul]
      · rw [if_neg (fun h => c1 h.2)]
        by_cases c2 : a % 8 = 1 ∨ a % 8 = 7
        · rw [if_neg (by omega), if_pos c2, Int.one_pow, Int.mul_one]
        · have c4 : a % 8 = 3 ∨ a % 8 = 5 := by omega
          by_cases c3 : z % 2 = 1
          · rw [if_neg c2, if_pos ⟨c3, c4⟩, if_pos c4, pow_sgn, if_pos c3, Int.mul_neg, Int.mul_one]
          · rw [if_neg c2, if_neg (fun h => c3 h.1), if_pos c4, pow_sgn, if_neg c3, Int.mul_one]
end Kr
