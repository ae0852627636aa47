/- Composites of primitive forms are found; plain, no condition. -/
import Derived.Test.YtajlkcnlfiikeaaQfL
set_option linter.all false
namespace Qf

/-- primes -/
def Pri (p : Nat) : Prop := 1 < p ∧ ∀ d, d ∣ p → d = 1 ∨ d = p
theorem pri_dvd : ∀ n, 1 < n → ∃ p, Pri p ∧ p ∣ n := by
  intro n
  induction n using Nat.strongRecOn with
  | _ n ih =>
    intro h
    by_cases hp : Pri n
    · exact ⟨n, hp, Nat.dvd_refl n⟩
    · obtain ⟨d, hd⟩ : ∃ d, d ∣ n ∧ d ≠ 1 ∧ d ≠ n := by
        refine Classical.byContradiction fun hn => hp ⟨h, fun d hd => ?_⟩
        refine Classical.byContradiction fun hn2 => hn ⟨d, hd, fun e => hn2 (.inl e), fun e => hn2 (.inr e)⟩
      obtain ⟨h1, h2, h3⟩ := hd
      have h4 := Nat.le_of_dvd (by omega) h1
      have h5 : d ≠ 0 := by rintro rfl; have := Nat.eq_zero_of_zero_dvd h1; omega
      obtain ⟨p, h6, h7⟩ := ih d (by omega) (by omega)
      exact ⟨p, h6, Nat.dvd_trans h7 h1⟩
theorem gcd_one {a b : Nat} (ha : 0 < a) (h : ∀ p, Pri p → p ∣ a → p ∣ b → False) : Nat.gcd a b = 1 := by
  have h0 := Nat.gcd_pos_of_pos_left b ha
  by_cases h1 : 1 < Nat.gcd a b
  · obtain ⟨p, hp, hd⟩ := pri_dvd _ h1
    exact (h p hp (Nat.dvd_trans hd (Nat.gcd_dvd_left a b)) (Nat.dvd_trans hd (Nat.gcd_dvd_right a b))).elim
  · omega
theorem Pri.gcd {p x : Nat} (hp : Pri p) (h : ¬ p ∣ x) : Nat.gcd p x = 1 := by
  rcases hp.2 _ (Nat.gcd_dvd_left p x) with h1 | h1
  · exact h1
  · exact absurd (h1 ▸ Nat.gcd_dvd_right p x) h
theorem Pri.mul {p x y : Nat} (hp : Pri p) (h : p ∣ x * y) : p ∣ x ∨ p ∣ y := by
  by_cases hx : p ∣ x
  · exact .inl hx
  · exact .inr (Nat.Coprime.dvd_of_dvd_mul_left (hp.gcd hx) h)
theorem Pri.mulI {p : Nat} {x y : Int} (hp : Pri p) (h : (p : Int) ∣ x * y) : (p : Int) ∣ x ∨ (p : Int) ∣ y := by
  rw [Int.ofNat_dvd_left, Int.natAbs_mul] at h
  rw [Int.ofNat_dvd_left, Int.ofNat_dvd_left]
  exact hp.mul h
/-- the greatest divisor of a that is prime to m -/
def cpf : Nat → Nat → Nat → Nat
  | 0, a, _ => a
  | n + 1, a, m => if Nat.gcd a m = 1 then a else cpf n (a / Nat.gcd a m) m
theorem cpf_spec : ∀ n a m, 0 < a → a ≤ n → 0 < cpf n a m ∧ cpf n a m ∣ a ∧ Nat.gcd (cpf n a m) m = 1 ∧ (∀ p, Pri p → p ∣ a → ¬ p ∣ m → p ∣ cpf n a m) ∧ ∀ p, Pri p → p ∣ a / cpf n a m → p ∣ m
  | 0, a, m, h, hn => by omega
  | n + 1, a, m, h, hn => by
    rw [cpf]
    by_cases h1 : Nat.gcd a m = 1
    · rw [if_pos h1]
      refine ⟨h, Nat.dvd_refl a, h1, fun p _ hp _ => hp, fun p hp hd => ?_⟩
      rw [Nat.div_self h] at hd
      have := Nat.le_of_dvd (by decide) hd
      have := hp.1
      omega
    · rw [if_neg h1]
      have h0 := Nat.gcd_pos_of_pos_left m h
      have hda := Nat.gcd_dvd_left a m
      have hdm := Nat.gcd_dvd_right a m
      generalize Nat.gcd a m = d at *
      obtain ⟨q, rfl⟩ := hda
      have hq : 0 < q := Nat.pos_of_ne_zero (by rintro rfl; simp at h)
      rw [Nat.mul_div_cancel_left _ h0]
      have hlt : q < d * q := by
        have : 2 * q ≤ d * q := Nat.mul_le_mul_right q (by omega)
        omega
      obtain ⟨k1, k2, k3, k4, k5⟩ := cpf_spec n q m hq (by omega)
      refine ⟨k1, Nat.dvd_trans k2 ⟨d, by rw [Nat.mul_comm]⟩, k3, fun p hp hd hm => ?_, fun p hp hd => ?_⟩
      · rcases hp.mul hd with h2 | h2
        · exact absurd (Nat.dvd_trans h2 hdm) hm
        · exact k4 p hp h2 hm
      · rw [Nat.mul_div_assoc _ k2] at hd
        rcases hp.mul hd with h2 | h2
        · exact Nat.dvd_trans h2 hdm
        · exact k5 p hp h2
/-- a primitive form has values prime to a given number -/
theorem prim_val {g : F} (h : g.ct = 1) {a : Nat} (ha : 0 < a) : ∃ x y : Nat, Nat.gcd x y = 1 ∧ Nat.gcd (g.val x y).natAbs a = 1 ∧ 0 < x ∧ x ≤ a ∧ 0 < y ∧ y ≤ a := by
  obtain ⟨y0, y1, y2, y3, y4⟩ := cpf_spec a a g.a.natAbs ha (Nat.le_refl _)
  generalize cpf a a g.a.natAbs = y at *
  have hq : 0 < a / y := Nat.div_pos (Nat.le_of_dvd ha y1) y0
  have hay : y * (a / y) = a := Nat.mul_div_cancel' y1
  have hqa : a / y ∣ a := ⟨y, by rw [Nat.mul_comm]; exact hay.symm⟩
  obtain ⟨x0, x1, x2, x3, x4⟩ := cpf_spec (a / y) (a / y) g.c.natAbs hq (Nat.le_refl _)
  generalize cpf (a / y) (a / y) g.c.natAbs = x at *
  have cop : ∀ p, Pri p → p ∣ x → p ∣ y → False := fun p hp hx hy => by
    have h1 := y4 p hp (Nat.dvd_trans hx x1)
    have := Nat.dvd_gcd hy h1
    rw [y2] at this
    have := Nat.le_of_dvd (by decide) this
    have := hp.1
    omega
  refine ⟨x, y, gcd_one x0 cop, ?_, x0, Nat.le_of_dvd ha (Nat.dvd_trans x1 hqa), y0, Nat.le_of_dvd ha y1⟩
  rw [Nat.gcd_comm]
  refine gcd_one ha fun p hp hpa hpv => ?_
  have hv : (p : Int) ∣ g.val x y := Int.ofNat_dvd_left.2 hpv
  have p1 := hp.1
  have n1 : ∀ {u v : Nat}, Nat.gcd u v = 1 → p ∣ u → p ∣ v → False := fun e hu hv => by
    have := Nat.dvd_gcd hu hv
    rw [e] at this
    have := Nat.le_of_dvd (by decide) this
    omega
  by_cases ca : p ∣ g.a.natAbs
  · have hny : ¬ p ∣ y := fun hy => n1 y2 hy ca
    have hpq : p ∣ a / y := by
      rw [← hay] at hpa
      exact (hp.mul hpa).resolve_left hny
    have caI : (p : Int) ∣ g.a := Int.ofNat_dvd_left.2 ca
    by_cases cc : p ∣ g.c.natAbs
    · have hnx : ¬ p ∣ x := fun hx => n1 x2 hx cc
      have ccI : (p : Int) ∣ g.c := Int.ofNat_dvd_left.2 cc
      have hb : (p : Int) ∣ g.b * (x * y) := by
        have e : g.b * (x * y) = g.val x y - (g.a * (x * x) + g.c * (y * y)) := by simp only [F.val]; grind
        rw [e]
        exact Int.dvd_sub hv (Int.dvd_add (Int.dvd_trans caI ⟨_, rfl⟩) (Int.dvd_trans ccI ⟨_, rfl⟩))
      rcases hp.mulI hb with h1 | h1
      · have := dvd_ct caI h1 ccI
        rw [h] at this
        have := Nat.le_of_dvd (by decide) this
        omega
      · rcases hp.mulI h1 with h2 | h2
        · exact hnx (Int.ofNat_dvd.1 h2)
        · exact hny (Int.ofNat_dvd.1 h2)
    · have hx := x3 p hp hpq cc
      have hxI : (p : Int) ∣ (x : Int) := Int.ofNat_dvd.2 hx
      have hc : (p : Int) ∣ g.c * (y * y) := by
        have e : g.c * (y * y) = g.val x y - (x : Int) * (g.a * x + g.b * y) := by simp only [F.val]; grind
        rw [e]
        exact Int.dvd_sub hv (Int.dvd_trans hxI ⟨_, rfl⟩)
      rcases hp.mulI hc with h1 | h1
      · exact cc (Int.ofNat_dvd_left.1 h1)
      · rcases hp.mulI h1 with h2 | h2 <;> exact hny (Int.ofNat_dvd.1 h2)
  · have hy := y3 p hp hpa ca
    have hyI : (p : Int) ∣ (y : Int) := Int.ofNat_dvd.2 hy
    have hc : (p : Int) ∣ g.a * (x * x) := by
      have e : g.a * (x * x) = g.val x y - (y : Int) * (g.b * x + g.c * y) := by simp only [F.val]; grind
      rw [e]
      exact Int.dvd_sub hv (Int.dvd_trans hyI ⟨_, rfl⟩)
    rcases hp.mulI hc with h1 | h1
    · exact ca (Int.ofNat_dvd_left.1 h1)
    · rcases hp.mulI h1 with h2 | h2 <;> exact cop p hp (Int.ofNat_dvd.1 h2) hy
/-- the composite of concordant forms -/
theorem co_mk {f g : F} (hf : f.Pos) (hg : g.Pos) (hc : ∃ u v, u * f.a + v * g.a = 1) (hd : g.disc = f.disc) {b : Int} (h1 : ∃ t, b = f.b + 2 * f.a * t) (h2 : ∃ t, b = g.b + 2 * g.a * t) : (4 * (f.a * g.a)) ∣ (b * b - f.disc) ∧ Co f g ⟨f.a * g.a, b, (b * b - f.disc) / (4 * (f.a * g.a))⟩ := by
  have hfa := hf.a
  have hga := hg.a
  have hm := Int.mul_pos hfa hga
  have key : (4 * (f.a * g.a)) ∣ (b * b - f.disc) := by
    obtain ⟨t, ht⟩ := h1
    obtain ⟨t', ht'⟩ := h2
    obtain ⟨u, v, huv⟩ := hc
    have e1 : b * b - f.disc = 4 * (f.a * (f.c + f.b * t + f.a * t * t)) := by simp only [F.disc]; rw [ht]; grind
    have e2 : b * b - f.disc = 4 * (g.a * (g.c + g.b * t' + g.a * t' * t')) := by rw [← hd]; simp only [F.disc]; rw [ht']; grind
    generalize f.c + f.b * t + f.a * t * t = x at *
    generalize g.c + g.b * t' + g.a * t' * t' = y at *
    have e3 : f.a * x = g.a * y := by omega
    refine ⟨u * y + v * x, ?_⟩
    rw [e1]
    have : f.a * x = f.a * g.a * (u * y + v * x) := by
      have a1 : f.a * x = (u * f.a + v * g.a) * (f.a * x) := by rw [huv]; simp
      rw [a1]
      have a2 : u * f.a * (f.a * x) = u * f.a * (g.a * y) := by rw [e3]
      grind
    rw [this]
    grind
  refine ⟨key, hf, hg, rfl, h1, h2, hc, hd, ?_⟩
  have h5 := Int.mul_ediv_cancel' key
  simp only [F.disc] at h5 ⊢
  omega
end Qf
