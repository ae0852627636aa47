/- Positive definite binary quadratic forms: a form has one reduced form; plain, no condition. -/
import Derived.WalkKit
set_option linter.all false
namespace Qf

/-- a form, a matrix -/
structure F where
  a : Int
  b : Int
  c : Int
deriving DecidableEq
structure M where
  a : Int
  b : Int
  c : Int
  d : Int
deriving DecidableEq
def F.val (f : F) (x y : Int) : Int := f.a * x * x + f.b * x * y + f.c * y * y
def F.disc (f : F) : Int := f.b * f.b - 4 * f.a * f.c
def F.by (f : F) (m : M) : F := ⟨f.val m.a m.c, 2 * f.a * m.a * m.b + f.b * (m.a * m.d + m.b * m.c) + 2 * f.c * m.c * m.d, f.val m.b m.d⟩
def M.det (m : M) : Int := m.a * m.d - m.b * m.c
def M.mul (m n : M) : M := ⟨m.a * n.a + m.b * n.c, m.a * n.b + m.b * n.d, m.c * n.a + m.d * n.c, m.c * n.b + m.d * n.d⟩
def M.inv (m : M) : M := ⟨m.d, -m.b, -m.c, m.a⟩
def M.one : M := ⟨1, 0, 0, 1⟩
def M.T (k : Int) : M := ⟨1, k, 0, 1⟩
def M.S : M := ⟨0, -1, 1, 0⟩
/-- positive definite -/
structure F.Pos (f : F) : Prop where
  a : 0 < f.a
  d : f.disc < 0
/-- reduced -/
structure F.Red (f : F) : Prop where
  b1 : -f.a < f.b
  b2 : f.b ≤ f.a
  ac : f.a ≤ f.c
  e : f.a = f.c → 0 ≤ f.b

theorem by_mul (f : F) (m n : M) : (f.by m).by n = f.by (m.mul n) := by
  simp only [F.by, F.val, M.mul, F.mk.injEq]
  refine ⟨?_, ?_, ?_⟩ <;> grind
theorem disc_by (f : F) (m : M) : (f.by m).disc = f.disc * (m.det * m.det) := by
  simp only [F.by, F.val, F.disc, M.det]
  grind
theorem det_mul (m n : M) : (m.mul n).det = m.det * n.det := by
  simp only [M.det, M.mul]
  grind
theorem by_one (f : F) : f.by .one = f := by
  obtain ⟨a, b, c⟩ := f
  simp [F.by, F.val, M.one]
theorem mul_inv {m : M} (h : m.det = 1) : m.mul m.inv = .one := by
  simp only [M.det] at h
  simp only [M.mul, M.inv, M.one, M.mk.injEq]
  refine ⟨?_, ?_, ?_, ?_⟩ <;> grind
theorem det_inv (m : M) : m.inv.det = m.det := by simp only [M.det, M.inv]; grind
theorem by_inv {f : F} {m : M} (h : m.det = 1) : (f.by m).by m.inv = f := by rw [by_mul, mul_inv h, by_one]
/-- completing the square -/
theorem four_val (f : F) (x y : Int) : 4 * f.a * f.val x y = (2 * f.a * x + f.b * y) * (2 * f.a * x + f.b * y) + -f.disc * (y * y) := by
  simp only [F.val, F.disc]
  grind
theorem sq_nonneg (x : Int) : 0 ≤ x * x := by
  rcases Int.le_total 0 x with h | h
  · exact Int.mul_nonneg h h
  · exact Int.mul_nonneg_of_nonpos_of_nonpos h h
theorem sq_pos {x : Int} (h : x ≠ 0) : 1 ≤ x * x := by
  rcases Int.lt_or_gt_of_ne h with h | h
  · have := Int.mul_pos_of_neg_of_neg h h; omega
  · have := Int.mul_pos h h; omega
theorem four_val_c (f : F) (x y : Int) : 4 * f.c * f.val x y = (2 * f.c * y + f.b * x) * (2 * f.c * y + f.b * x) + -f.disc * (x * x) := by
  simp only [F.val, F.disc]
  grind
theorem F.Pos.c {f : F} (h : f.Pos) : 0 < f.c := by
  have h1 := h.a
  have h2 := h.d
  simp only [F.disc] at h2
  have h3 := sq_nonneg f.b
  rcases Int.lt_or_le 0 f.c with h4 | h4
  · exact h4
  · have := Int.mul_nonpos_of_nonneg_of_nonpos (show (0 : Int) ≤ 4 * f.a by omega) h4
    omega
theorem le_of_mul {a x y : Int} (h : 0 < a) (h1 : a * x ≤ a * y) : x ≤ y := Int.le_of_mul_le_mul_left h1 h
theorem pos_of_mul {a x : Int} (ha : 0 < a) (h : 0 < a * x) : 0 < x := by
  rcases Int.lt_or_le 0 x with h1 | h1
  · exact h1
  · have := Int.mul_nonpos_of_nonneg_of_nonpos (Int.le_of_lt ha) h1; omega
theorem F.Pos.val {f : F} (h : f.Pos) {x y : Int} (hxy : x ≠ 0 ∨ y ≠ 0) : 0 < f.val x y := by
  have h1 := four_val f x y
  have h2 := h.d
  have h3 := h.a
  have h4 := sq_nonneg (2 * f.a * x + f.b * y)
  have h5 : 0 < 4 * f.a * f.val x y := by
    by_cases hy : y = 0
    · subst hy
      have hx : x ≠ 0 := by rcases hxy with h | h; exact h; exact absurd rfl h
      have : f.val x 0 = f.a * (x * x) := by simp only [F.val]; grind
      rw [this]
      have h6 := Int.mul_pos h3 (show (0 : Int) < x * x by have := sq_pos hx; omega)
      exact Int.mul_pos (by omega) h6
    · have := Int.mul_pos (show (0 : Int) < -f.disc by omega) (show (0 : Int) < y * y by have := sq_pos hy; omega)
      omega
  exact pos_of_mul (by omega) h5
theorem F.Pos.by {f : F} (h : f.Pos) {m : M} (hm : m.det = 1) : (f.by m).Pos := by
  refine ⟨h.val ?_, ?_⟩
  · simp only [M.det] at hm
    rcases Classical.em (m.a = 0) with h1 | h1
    · refine .inr fun h2 => ?_
      rw [h1, h2] at hm
      simp at hm
    · exact .inl h1
  · rw [disc_by, hm]; simpa using h.d
/-- the discriminant of a reduced form -/
theorem F.Red.disc {f : F} (h : f.Red) : 3 * (f.a * f.a) ≤ -f.disc := by
  have ha : 0 < f.a := by have := h.b1; have := h.b2; omega
  have h1 : f.a * f.a ≤ f.a * f.c := Int.mul_le_mul_of_nonneg_left h.ac (by omega)
  have h2 : f.b * f.b ≤ f.a * f.a := by
    have e : f.a * f.a - f.b * f.b = (f.a - f.b) * (f.a + f.b) := by grind
    have := Int.mul_nonneg (show 0 ≤ f.a - f.b by have := h.b2; omega) (show 0 ≤ f.a + f.b by have := h.b1; omega)
    omega
  have e : f.disc = f.b * f.b - 4 * (f.a * f.c) := by simp only [F.disc]; grind
  omega
theorem F.Red.pos {f : F} (h : f.Red) : f.Pos := by
  have ha : 0 < f.a := by have := h.b1; have := h.b2; omega
  refine ⟨ha, ?_⟩
  have := h.disc
  have := Int.mul_pos ha ha
  omega
theorem sq_big {y : Int} (h : y ≠ 0) (h1 : y ≠ 1) (h2 : y ≠ -1) : 4 ≤ y * y := by
  rcases Int.lt_or_le y 0 with h3 | h3
  · have := Int.mul_nonneg (show 0 ≤ -y - 2 by omega) (show 0 ≤ -y + 2 by omega)
    have e : (-y - 2) * (-y + 2) = y * y - 4 := by grind
    omega
  · have := Int.mul_nonneg (show 0 ≤ y - 2 by omega) (show 0 ≤ y + 2 by omega)
    have e : (y - 2) * (y + 2) = y * y - 4 := by grind
    omega
theorem sq_abs (x : Int) : x ≤ x * x ∧ -x ≤ x * x := by
  rcases Classical.em (x = 0) with h | h
  · subst h; simp
  · have := sq_pos h
    rcases Int.lt_or_le x 0 with h3 | h3
    · have := Int.mul_nonneg (show 0 ≤ -x - 1 by omega) (show 0 ≤ -x by omega)
      have e : (-x - 1) * -x = x * x + x := by grind
      omega
    · have := Int.mul_nonneg (show 0 ≤ x - 1 by omega) (show 0 ≤ x by omega)
      have e : (x - 1) * x = x * x - x := by grind
      omega
/-- a reduced form's first coefficient is its least value -/
theorem F.Red.least {f : F} (h : f.Red) {x y : Int} (hxy : x ≠ 0 ∨ y ≠ 0) : f.a ≤ f.val x y := by
  have ha := h.pos.a
  by_cases hy : y = 0
  · subst hy
    have hx : x ≠ 0 := by rcases hxy with h | h; exact h; exact absurd rfl h
    have e : f.val x 0 = f.a * (x * x) := by simp only [F.val]; grind
    rw [e]
    have := Int.mul_le_mul_of_nonneg_left (sq_pos hx) (show 0 ≤ f.a by omega)
    omega
  · have h4 := four_val f x y
    have h5 := sq_nonneg (2 * f.a * x + f.b * y)
    have hd := h.disc
    have haa := Int.mul_pos ha ha
    by_cases h1 : y = 1
    · subst h1
      have e : f.val x 1 = f.a * (x * x) + f.b * x + f.c := by simp only [F.val]; grind
      rw [e]
      have h6 := sq_abs x
      have h7 := h.ac
      rcases Int.lt_or_le x 0 with hx | hx
      · have := Int.mul_le_mul_of_nonneg_left (show x * x ≥ -x by omega) (show 0 ≤ f.a by omega)
        have := Int.mul_nonneg (show 0 ≤ f.a - f.b by have := h.b2; omega) (show 0 ≤ -x by omega)
        have e2 : (f.a - f.b) * -x = f.a * -x + f.b * x := by grind
        omega
      · have := Int.mul_le_mul_of_nonneg_left (show x * x ≥ x by omega) (show 0 ≤ f.a by omega)
        have := Int.mul_nonneg (show 0 ≤ f.a + f.b by have := h.b1; omega) hx
        have e2 : (f.a + f.b) * x = f.a * x + f.b * x := by grind
        omega
    by_cases h2 : y = -1
    · subst h2
      have e : f.val x (-1) = f.a * (x * x) - f.b * x + f.c := by simp only [F.val]; grind
      rw [e]
      have h6 := sq_abs x
      have h7 := h.ac
      rcases Int.lt_or_le x 0 with hx | hx
      · have := Int.mul_le_mul_of_nonneg_left (show x * x ≥ -x by omega) (show 0 ≤ f.a by omega)
        have := Int.mul_nonneg (show 0 ≤ f.a + f.b by have := h.b1; omega) (show 0 ≤ -x by omega)
        have e2 : (f.a + f.b) * -x = f.a * -x - f.b * x := by grind
        omega
      · have := Int.mul_le_mul_of_nonneg_left (show x * x ≥ x by omega) (show 0 ≤ f.a by omega)
        have := Int.mul_nonneg (show 0 ≤ f.a - f.b by have := h.b2; omega) hx
        have e2 : (f.a - f.b) * x = f.a * x - f.b * x := by grind
        omega
    have h8 := sq_big hy h1 h2
    have h9 : -f.disc * 4 ≤ -f.disc * (y * y) := Int.mul_le_mul_of_nonneg_left h8 (by omega)
    have e : 4 * f.a * f.val x y = f.a * (4 * f.val x y) := by grind
    refine le_of_mul ha (Int.le_trans (b := f.a * f.a) (Int.le_refl _) ?_)
    have e2 : f.a * (4 * f.val x y) = 4 * (f.a * f.val x y) := by grind
    omega
/-- one reduced form -/
theorem red_unique {f g : F} {m : M} (hf : f.Red) (hg : g.Red) (hm : m.det = 1) (h : g = f.by m) : f = g := by
  have hd : g.disc = f.disc := by rw [h, disc_by, hm]; simp
  have ha := hf.pos.a
  have hga := hg.pos.a
  have hne : m.a ≠ 0 ∨ m.c ≠ 0 := by
    simp only [M.det] at hm
    rcases Classical.em (m.a = 0) with h1 | h1
    · refine .inr fun h2 => ?_
      rw [h1, h2] at hm
      simp at hm
    · exact .inl h1
  have ega : g.a = f.val m.a m.c := by rw [h]; rfl
  have egb : g.b = 2 * f.a * m.a * m.b + f.b * (m.a * m.d + m.b * m.c) + 2 * f.c * m.c * m.d := by rw [h]; rfl
  have h1 : f.a ≤ g.a := by rw [ega]; exact hf.least hne
  have hback : f = g.by m.inv := by rw [h, by_inv hm]
  have h2 : g.a ≤ f.a := by
    have e : f.a = g.val m.d (-m.c) := by rw [hback]; rfl
    rw [e]
    refine hg.least ?_
    simp only [M.det] at hm
    rcases Classical.em (m.d = 0) with h1 | h1
    · refine .inr fun h2 => ?_
      have h2 : m.c = 0 := by omega
      rw [h1, h2] at hm
      simp at hm
    · exact .inl h1
  have haa : g.a = f.a := by omega
  -- it is enough that the middle coefficients agree
  have fin : g.b = f.b → f = g := by
    intro hb
    have hc : g.c = f.c := by
      simp only [F.disc] at hd
      rw [hb, haa] at hd
      have : 4 * f.a * g.c = 4 * f.a * f.c := by omega
      exact Int.eq_of_mul_eq_mul_left (by omega) this
    cases f; cases g
    simp only at hb haa hc
    simp [hb, haa, hc]
  have b1 := hf.b1
  have b2 := hf.b2
  have b3 := hg.b1
  have b4 := hg.b2
  rw [haa] at b3 b4
  have hv : f.val m.a m.c = f.a := by omega
  have h4 := four_val f m.a m.c
  rw [hv] at h4
  have h5 := hf.disc
  simp only [M.det] at hm
  by_cases hc0 : m.c = 0
  · rw [hc0] at hm egb
    have had : m.a * m.d = 1 := by omega
    have e : g.b = 2 * f.a * (m.a * m.b) + f.b * (m.a * m.d) := by rw [egb]; grind
    rw [had] at e
    refine fin ?_
    generalize m.a * m.b = k at e
    have : 2 * f.a * k = 2 * (f.a * k) := by grind
    rcases Int.lt_trichotomy k 0 with hk | hk | hk
    · have := Int.mul_le_mul_of_nonneg_left (show k ≤ -1 by omega) (show 0 ≤ f.a by omega)
      omega
    · subst hk; omega
    · have := Int.mul_le_mul_of_nonneg_left (show 1 ≤ k by omega) (show 0 ≤ f.a by omega)
      omega
  · have hc1 : m.c = 1 ∨ m.c = -1 := by
      refine Classical.byContradiction fun hn => ?_
      have h8 := sq_big hc0 (fun e => hn (.inl e)) (fun e => hn (.inr e))
      have h9 : -f.disc * 4 ≤ -f.disc * (m.c * m.c) := Int.mul_le_mul_of_nonneg_left h8 (by have := hf.pos.d; omega)
      have h6 := sq_nonneg (2 * f.a * m.a + f.b * m.c)
      have := Int.mul_pos ha ha
      have e : 4 * f.a * f.a = 4 * (f.a * f.a) := by grind
      omega
    have hcc : m.c * m.c = 1 := by rcases hc1 with h | h <;> rw [h] <;> rfl
    have hac := hf.ac
    have hle : f.a * f.a ≤ f.a * f.c := Int.mul_le_mul_of_nonneg_left hac (by omega)
    have hX : (2 * f.a * m.a + f.b * m.c) * (2 * f.a * m.a + f.b * m.c) = 4 * (f.a * f.a) - 4 * (f.a * f.c) + f.b * f.b := by
      rw [hcc] at h4
      simp only [F.disc] at h4
      grind
    have hbX : -f.a ≤ 2 * f.a * m.a + f.b * m.c ∧ 2 * f.a * m.a + f.b * m.c ≤ f.a := by
      generalize 2 * f.a * m.a + f.b * m.c = X at hX
      have hb2 : f.b * f.b ≤ f.a * f.a := by
        have e : f.a * f.a - f.b * f.b = (f.a - f.b) * (f.a + f.b) := by grind
        have := Int.mul_nonneg (show 0 ≤ f.a - f.b by omega) (show 0 ≤ f.a + f.b by omega)
        omega
      have hXa : X * X ≤ f.a * f.a := by omega
      constructor
      · refine Classical.byContradiction fun hn => ?_
        have := Int.mul_pos (show 0 < -X - f.a by omega) (show 0 < -X + f.a by omega)
        have e : (-X - f.a) * (-X + f.a) = X * X - f.a * f.a := by grind
        omega
      · refine Classical.byContradiction fun hn => ?_
        have := Int.mul_pos (show 0 < X - f.a by omega) (show 0 < X + f.a by omega)
        have e : (X - f.a) * (X + f.a) = X * X - f.a * f.a := by grind
        omega
    have hbr : -f.a ≤ f.b * m.c ∧ f.b * m.c ≤ f.a := by rcases hc1 with h | h <;> rw [h] <;> omega
    have hp : m.a = 0 ∨ m.a = 1 ∨ m.a = -1 := by
      have e : 2 * f.a * m.a = f.a * (2 * m.a) := by grind
      refine Classical.byContradiction fun hn => ?_
      rcases Int.lt_or_le m.a 0 with h | h
      · have := Int.mul_le_mul_of_nonneg_left (show 2 * m.a ≤ -4 by omega) (show 0 ≤ f.a by omega)
        omega
      · have := Int.mul_le_mul_of_nonneg_left (show 4 ≤ 2 * m.a by omega) (show 0 ≤ f.a by omega)
        omega
    have gdisc : g.b * g.b - 4 * (f.a * g.c) = f.b * f.b - 4 * (f.a * f.c) := by
      simp only [F.disc] at hd
      rw [haa] at hd
      grind
    by_cases hp0 : m.a = 0
    · rw [hp0] at hX hm egb
      have e : f.a * f.c = f.a * f.a := by
        have : (2 * f.a * 0 + f.b * m.c) * (2 * f.a * 0 + f.b * m.c) = f.b * f.b * (m.c * m.c) := by grind
        rw [this, hcc] at hX
        omega
      have eac : f.c = f.a := Int.eq_of_mul_eq_mul_left (by omega) e
      have h0b := hf.e eac.symm
      have e2 : g.b = -f.b + 2 * f.a * (m.c * m.d) := by
        rw [egb, eac]
        have : m.b * m.c = -1 := by omega
        have e3 : 2 * f.a * 0 * m.b + f.b * (0 * m.d + m.b * m.c) + 2 * f.a * m.c * m.d = f.b * (m.b * m.c) + 2 * f.a * (m.c * m.d) := by grind
        rw [e3, this]
        omega
      generalize m.c * m.d = k at e2
      have e3 : 2 * f.a * k = 2 * (f.a * k) := by grind
      rcases Int.lt_trichotomy k 0 with hk | hk | hk
      · have := Int.mul_le_mul_of_nonneg_left (show k ≤ -1 by omega) (show 0 ≤ f.a by omega)
        omega
      · subst hk
        have hgb : g.b = -f.b := by omega
        have : f.a * g.c = f.a * f.c := by
          have : g.b * g.b = f.b * f.b := by rw [hgb]; grind
          omega
        have hgc : g.c = f.c := Int.eq_of_mul_eq_mul_left (by omega) this
        have := hg.e (by omega)
        exact fin (by omega)
      · by_cases hk1 : k = 1
        · subst hk1
          exact fin (by omega)
        · have := Int.mul_le_mul_of_nonneg_left (show 2 ≤ k by omega) (show 0 ≤ f.a by omega)
          omega
    · have hpp : m.a * m.a = 1 := by rcases hp with h | h | h; exact absurd h hp0; rw [h]; rfl; rw [h]; rfl
      have e1 : f.a * (f.b * (m.a * m.c) + f.c) = f.a * 0 := by
        have : (2 * f.a * m.a + f.b * m.c) * (2 * f.a * m.a + f.b * m.c) = 4 * (f.a * f.a) * (m.a * m.a) + 4 * (f.a * (f.b * (m.a * m.c))) + f.b * f.b * (m.c * m.c) := by grind
        rw [this, hpp, hcc] at hX
        have e : f.a * (f.b * (m.a * m.c) + f.c) = f.a * (f.b * (m.a * m.c)) + f.a * f.c := by grind
        omega
      have e2 := Int.eq_of_mul_eq_mul_left (by omega) e1
      have hpr : m.a * m.c = 1 ∨ m.a * m.c = -1 := by
        rcases hp with h | h | h
        · exact absurd h hp0
        · rw [h]; omega
        · rw [h]; omega
      have hbe : f.b = f.a ∧ f.c = f.a := by
        rcases hpr with h | h
        · rw [h] at e2; omega
        · rw [h] at e2; omega
      obtain ⟨hb, hc⟩ := hbe
      rw [hb, hc] at gdisc
      have h7 : f.a * f.a ≤ f.a * g.c := Int.mul_le_mul_of_nonneg_left (by have := hg.ac; omega) (by omega)
      refine fin ?_
      refine Classical.byContradiction fun hn => ?_
      have := Int.mul_pos (show 0 < f.a - g.b by omega) (show 0 < f.a + g.b by omega)
      have e : (f.a - g.b) * (f.a + g.b) = f.a * f.a - g.b * g.b := by grind
      omega
end Qf
