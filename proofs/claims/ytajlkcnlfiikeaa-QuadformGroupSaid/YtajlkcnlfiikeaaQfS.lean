/- Representations of numbers by a form, counted in two ways; plain, no condition. -/
import Derived.Test.YtajlkcnlfiikeaaQfR
set_option linter.all false
namespace Qf

/-- sums over runs of integers -/
def sz (h : Int → Int) (lo : Int) : Nat → Int
  | 0 => 0
  | n + 1 => sz h lo n + h (lo + n)
theorem sz_congr {h g : Int → Int} {lo : Int} : ∀ n, (∀ i : Nat, i < n → h (lo + i) = g (lo + i)) → sz h lo n = sz g lo n
  | 0, _ => rfl
  | n + 1, e => by rw [sz, sz, sz_congr n (fun i hi => e i (by omega)), e n (by omega)]
theorem sz_front (h : Int → Int) (lo : Int) : ∀ n, sz h lo (n + 1) = h lo + sz h (lo + 1) n
  | 0 => by simp [sz]
  | n + 1 => by
    rw [sz, sz_front h lo n, sz, show lo + 1 + (n : Int) = lo + ((n + 1 : Nat) : Int) by omega]
    omega
/-- both signs -/
def s2 (h : Int → Int) (x : Nat) : Int := if x = 0 then h 0 else h x + h (-x)
def ss (h : Int → Int) : Nat → Int
  | 0 => s2 h 0
  | n + 1 => ss h n + s2 h (n + 1)
theorem sz_ss (h : Int → Int) : ∀ Y : Nat, sz h (-(Y : Int)) (2 * Y + 1) = ss h Y
  | 0 => by simp [sz, ss, s2]
  | Y + 1 => by
    rw [show 2 * (Y + 1) + 1 = (2 * Y + 1 + 1) + 1 by omega, sz, sz_front, show -((Y + 1 : Nat) : Int) + 1 = -(Y : Int) by omega, sz_ss h Y, ss]
    unfold s2
    rw [if_neg (by omega), show -((Y + 1 : Nat) : Int) + ((2 * Y + 1 + 1 : Nat) : Int) = ((Y + 1 : Nat) : Int) by omega]
    omega
theorem ss_congr {h g : Int → Int} : ∀ Y : Nat, (∀ x : Int, -(Y : Int) ≤ x → x ≤ Y → h x = g x) → ss h Y = ss g Y
  | 0, e => by
    unfold ss s2
    rw [if_pos rfl, if_pos rfl]
    exact e 0 (by omega) (by omega)
  | Y + 1, e => by
    rw [ss, ss, ss_congr Y (fun x h1 h2 => e x (by omega) (by omega))]
    unfold s2
    rw [if_neg (by omega), if_neg (by omega), e _ (by omega) (by omega), e _ (by omega) (by omega)]
def ind (p : Prop) [Decidable p] : Int := if p then 1 else 0
/-- one point, or none -/
theorem ss_zero {h : Int → Int} : ∀ Y : Nat, (∀ x : Int, -(Y : Int) ≤ x → x ≤ Y → h x = 0) → ss h Y = 0
  | 0, e => by
    unfold ss s2
    rw [if_pos rfl]
    exact e 0 (by omega) (by omega)
  | Y + 1, e => by
    rw [ss, ss_zero Y (fun x h1 h2 => e x (by omega) (by omega))]
    unfold s2
    rw [if_neg (by omega), e _ (by omega) (by omega), e _ (by omega) (by omega)]
    rfl
theorem ss_point (z : Int) : ∀ Y : Nat, -(Y : Int) ≤ z → z ≤ Y → ss (fun x => ind (x = z)) Y = 1
  | 0, h1, h2 => by
    obtain rfl : z = 0 := by omega
    rfl
  | Y + 1, h1, h2 => by
    rw [ss]
    unfold s2
    rw [if_neg (by omega)]
    simp only
    by_cases h : -(Y : Int) ≤ z ∧ z ≤ Y
    · rw [ss_point z Y h.1 h.2]
      unfold ind
      rw [if_neg (by omega), if_neg (by omega)]
      rfl
    · rw [ss_zero (h := fun x => ind (x = z)) Y (fun x h3 h4 => by unfold ind; rw [if_neg]; omega)]
      unfold ind
      by_cases hp : z = ((Y + 1 : Nat) : Int)
      · rw [if_pos hp.symm, if_neg (by omega)]; rfl
      · rw [if_neg (by omega), if_pos (by omega)]; rfl
theorem ss_add (h g : Int → Int) : ∀ Y, ss (fun x => h x + g x) Y = ss h Y + ss g Y
  | 0 => by simp [ss, s2]
  | Y + 1 => by
    rw [ss, ss, ss, ss_add h g Y]
    unfold s2
    rw [if_neg (by omega), if_neg (by omega), if_neg (by omega)]
    simp only
    omega
/-- the integer part of a root -/
def Rt (n r : Int) : Prop := 0 ≤ r ∧ r * r ≤ n ∧ n < (r + 1) * (r + 1)
theorem sq_le_sq {x y : Int} (hx : 0 ≤ x) (hy : 0 ≤ y) (h : x * x ≤ y * y) : x ≤ y := by
  refine Classical.byContradiction fun hn => ?_
  have := Int.mul_pos (show 0 < x - y by omega) (show 0 < x + y by omega)
  have e : (x - y) * (x + y) = x * x - y * y := by grind
  omega
theorem Rt.le {n r x : Int} (h : Rt n r) (hx : 0 ≤ x) (h1 : x * x ≤ n) : x ≤ r := by
  obtain ⟨a, b, c⟩ := h
  refine Classical.byContradiction fun hn => ?_
  have := Int.mul_le_mul (show r + 1 ≤ x by omega) (show r + 1 ≤ x by omega) (by omega) hx
  omega
theorem Rt.ge {n r x : Int} (h : Rt n r) (hx : 0 ≤ x) (h1 : x ≤ r) : x * x ≤ n := by
  obtain ⟨a, b, c⟩ := h
  have := Int.mul_le_mul h1 h1 hx a
  omega
/-- what one y contributes -/
def cy (f : F) (n : Int) (root : Int → Int) (y : Int) : Int :=
  let inner := f.b * f.b * y * y - 4 * f.a * (f.c * y * y - n)
  if inner < 0 then 0 else if root inner * root inner ≠ inner then 0 else
    ind (Int.tmod (root inner - f.b * y) (2 * f.a) = 0) + ind (0 < root inner ∧ Int.tmod (-root inner - f.b * y) (2 * f.a) = 0)
theorem cy_eq {f : F} (h : f.Pos) {n : Int} {root : Int → Int} {y : Int} {X : Nat} (hroot : ∀ m, 0 ≤ m → m ≤ 4 * f.a * n → Rt m (root m)) (hX : ∀ x, f.val x y = n → -(X : Int) ≤ x ∧ x ≤ X) : cy f n root y = ss (fun x => ind (f.val x y = n)) X := by
  unfold cy
  have ha := h.a
  have e1 : ∀ x, 4 * f.a * f.val x y = (2 * f.a * x + f.b * y) * (2 * f.a * x + f.b * y) + -f.disc * (y * y) := fun x => four_val f x y
  have e2 : f.b * f.b * y * y - 4 * f.a * (f.c * y * y - n) = f.disc * (y * y) + 4 * f.a * n := by simp only [F.disc]; grind
  have hle : f.b * f.b * y * y - 4 * f.a * (f.c * y * y - n) ≤ 4 * f.a * n := by
    rw [e2]
    have := Int.mul_nonneg (show 0 ≤ -f.disc by have := h.d; omega) (sq_nonneg y)
    have e : -f.disc * (y * y) = -(f.disc * (y * y)) := by grind
    omega
  simp only
  generalize hI : f.b * f.b * y * y - 4 * f.a * (f.c * y * y - n) = I at *
  have key : ∀ x, f.val x y = n ↔ (2 * f.a * x + f.b * y) * (2 * f.a * x + f.b * y) = I := by
    intro x
    have := e1 x
    have e : -f.disc * (y * y) = -(f.disc * (y * y)) := by grind
    constructor
    · intro hv; rw [hv] at this; omega
    · intro hv
      have : 4 * f.a * f.val x y = 4 * f.a * n := by omega
      exact Int.eq_of_mul_eq_mul_left (by omega) this
  by_cases h0 : I < 0
  · rw [if_pos h0]
    refine (ss_zero X fun x _ _ => ?_).symm
    unfold ind
    rw [if_neg]
    rw [key]
    have := sq_nonneg (2 * f.a * x + f.b * y)
    omega
  · rw [if_neg h0]
    have hr := hroot I (by omega) hle
    obtain ⟨r0, r1, r2⟩ := hr
    generalize root I = s at *
    by_cases hs : s * s = I
    · rw [if_neg (by simpa using hs)]
      have key2 : ∀ x, f.val x y = n ↔ 2 * f.a * x + f.b * y = s ∨ 2 * f.a * x + f.b * y = -s := by
        intro x
        rw [key, ← hs]
        generalize 2 * f.a * x + f.b * y = z
        constructor
        · intro e
          have : (z - s) * (z + s) = 0 := by grind
          rcases Int.mul_eq_zero.1 this with h | h
          · exact .inl (by omega)
          · exact .inr (by omega)
        · rintro (rfl | rfl)
          · rfl
          · grind
      have one : ∀ t : Int, (∀ x, 2 * f.a * x + f.b * y = t → f.val x y = n) → ind (Int.tmod (t - f.b * y) (2 * f.a) = 0) = ss (fun x => ind (2 * f.a * x + f.b * y = t)) X := by
        intro t ht
        by_cases hd : Int.tmod (t - f.b * y) (2 * f.a) = 0
        · obtain ⟨z, hz⟩ := Int.dvd_of_tmod_eq_zero hd
          have hb := hX z (ht z (by omega))
          have e3 : (fun x => ind (2 * f.a * x + f.b * y = t)) = fun x => ind (x = z) := by
            funext x
            have : 2 * f.a * x + f.b * y = t ↔ x = z := by
              constructor
              · intro e
                have : 2 * f.a * x = 2 * f.a * z := by omega
                exact Int.eq_of_mul_eq_mul_left (by omega) this
              · rintro rfl; omega
            simp only [ind, this]
          rw [e3, ss_point z X hb.1 hb.2]
          simp [ind, hd]
        · rw [ss_zero X fun x _ _ => ?_]
          · simp [ind, hd]
          · unfold ind
            rw [if_neg]
            intro e
            exact hd (Int.tmod_eq_zero_of_dvd ⟨x, by omega⟩)
      rw [one s (fun x hx => (key2 x).2 (.inl hx))]
      by_cases hs0 : 0 < s
      · have e4 : ind (0 < s ∧ Int.tmod (-s - f.b * y) (2 * f.a) = 0) = ind (Int.tmod (-s - f.b * y) (2 * f.a) = 0) := by simp [ind, hs0]
        rw [e4, one (-s) (fun x hx => (key2 x).2 (.inr hx)), ← ss_add]
        refine ss_congr X fun x _ _ => ?_
        simp only [ind, key2]
        by_cases c1 : 2 * f.a * x + f.b * y = s
        · rw [if_pos c1, if_neg (by omega), if_pos (.inl c1)]; rfl
        · rw [if_neg c1]
          by_cases c2 : 2 * f.a * x + f.b * y = -s
          · rw [if_pos c2, if_pos (.inr c2)]; rfl
          · rw [if_neg c2, if_neg (fun h => h.elim c1 c2)]; rfl
      · have e4 : ind (0 < s ∧ Int.tmod (-s - f.b * y) (2 * f.a) = 0) = 0 := by simp [ind, hs0]
        rw [e4, Int.add_zero]
        refine ss_congr X fun x _ _ => ?_
        simp only [ind, key2]
        have : (2 * f.a * x + f.b * y = s ∨ 2 * f.a * x + f.b * y = -s) ↔ 2 * f.a * x + f.b * y = s := by
          have : s = 0 := by omega
          omega
        simp only [this]
    · rw [if_pos (by simpa using hs)]
      refine (ss_zero X fun x _ _ => ?_).symm
      unfold ind
      rw [if_neg]
      rw [key]
      intro e
      apply hs
      generalize 2 * f.a * x + f.b * y = z at e
      have habs : ∃ t : Int, 0 ≤ t ∧ t * t = I := by
        rcases Int.le_total 0 z with hz | hz
        · exact ⟨z, hz, e⟩
        · exact ⟨-z, by omega, by rw [← e]; grind⟩
      obtain ⟨t, t0, t1⟩ := habs
      have h5 : t ≤ s := Rt.le ⟨r0, r1, r2⟩ t0 (by omega)
      have h6 : s ≤ t := sq_le_sq r0 t0 (by omega)
      obtain rfl : t = s := by omega
      exact t1
/-- the four signs of a pair -/
theorem signs (g : Int → Int → Int) (x y : Nat) : s2 (fun v => s2 (fun u => g u v) x) y = g x y + (if 0 < x then g (-x) y else 0) + ((if 0 < y then g x (-y) else 0) + (if 0 < x ∧ 0 < y then g (-x) (-y) else 0)) := by
  unfold s2
  by_cases hx : x = 0
  · subst hx
    by_cases hy : y = 0
    · subst hy; simp
    · simp [hy, Nat.pos_of_ne_zero hy]
  · by_cases hy : y = 0
    · subst hy; simp [hx, Nat.pos_of_ne_zero hx]
    · simp [hx, hy, Nat.pos_of_ne_zero hx, Nat.pos_of_ne_zero hy]
end Qf
