/- Forms and their ideals: equivalent forms, composition; plain, no condition. -/
import Derived.Test.YtajlkcnlfiikeaaQfI
set_option linter.all false
namespace Qf
variable {o : O}
/-- the form's ideal; e is half of b - s -/
def idl (a e : Int) : Z → Prop := lat (.of a) ⟨e, 1⟩
structure F.On (o : O) (f : F) (e : Int) : Prop where
  b : f.b = 2 * e + o.s
  ac : f.a * f.c = e * e + o.s * e - o.n
theorem F.On.nm {f : F} {e : Int} (h : f.On o e) (x y : Int) : o.nm ((Z.of f.a |>.sc x).add (Z.sc y ⟨e, 1⟩)) = f.a * f.val x y := by
  have h1 := h.b
  have h2 := h.ac
  simp only [O.nm, Z.of, Z.sc, Z.add, F.val]
  have e1 : f.a * (f.a * x * x + f.b * x * y + f.c * y * y) = f.a * f.a * x * x + f.a * f.b * x * y + (f.a * f.c) * (y * y) := by grind
  rw [e1, h2, h1]
  grind
theorem F.On.eqv {f : F} {e e' : Int} {m : M} (h : f.On o e) (hm : m.det = 1) (h' : (f.by m).On o e') (ha : 0 < f.a) (hp : o.nm ⟨m.a * f.a + m.c * e, m.c⟩ ≠ 0) : Eqv o (idl f.a e) (idl (f.by m).a e') := by
  have h1 := h.b
  have h2 := h.ac
  have h3 := h'.b
  simp only [M.det] at hm
  refine ⟨o.cj ⟨m.a * f.a + m.c * e, m.c⟩, .of f.a, ?_, ?_, ?_⟩
  · have : o.nm (o.cj ⟨m.a * f.a + m.c * e, m.c⟩) = o.nm ⟨m.a * f.a + m.c * e, m.c⟩ := by simp only [O.nm, O.cj]; grind
    rw [this]; exact hp
  · have e1 : o.nm (.of f.a) = f.a * f.a := by simp [O.nm, Z.of]
    rw [e1]
    have := Int.mul_pos ha ha
    omega
  · have hA : (f.by m).a = f.a * m.a * m.a + f.b * m.a * m.c + f.c * m.c * m.c := rfl
    have hB : (f.by m).b = 2 * f.a * m.a * m.b + f.b * (m.a * m.d + m.b * m.c) + 2 * f.c * m.c * m.d := rfl
    have h4 : 2 * e' = 2 * (f.a * m.a * m.b + e * (m.a * m.d + m.b * m.c) + o.s * m.b * m.c + f.c * m.c * m.d) := by
      have : 2 * e' = (f.by m).b - o.s := by omega
      rw [this, hB, h1]
      have : o.s * (m.a * m.d - m.b * m.c) = o.s := by rw [hm]; omega
      grind
    have h5 : e' = f.a * m.a * m.b + e * (m.a * m.d + m.b * m.c) + o.s * m.b * m.c + f.c * m.c * m.d := by omega
    -- the conjugate times the two new generators
    have k1 : o.mul (o.cj ⟨m.a * f.a + m.c * e, m.c⟩) ⟨m.a * f.a + m.c * e, m.c⟩ = o.mul (.of f.a) (.of (f.by m).a) := by
      have e2 : f.a * (f.by m).a = f.a * f.a * m.a * m.a + f.a * f.b * m.a * m.c + (f.a * f.c) * (m.c * m.c) := by rw [hA]; grind
      apply Z.ext
      · simp only [O.mul, O.cj, Z.of]
        have : f.a * (f.by m).a + o.n * 0 * 0 = f.a * (f.by m).a := by simp
        rw [this, e2, h2, h1]
        grind
      · simp only [O.mul, O.cj, Z.of]
        grind
    have k2 : o.mul (o.cj ⟨m.a * f.a + m.c * e, m.c⟩) ⟨m.b * f.a + m.d * e, m.d⟩ = o.mul (.of f.a) ⟨e', 1⟩ := by
      apply Z.ext
      · simp only [O.mul, O.cj, Z.of]
        have e3 : f.a * e' + o.n * 0 * 1 = f.a * f.a * m.a * m.b + f.a * e * (m.a * m.d + m.b * m.c) + f.a * o.s * m.b * m.c + (f.a * f.c) * (m.c * m.d) := by rw [h5]; grind
        rw [e3, h2]
        grind
      · simp only [O.mul, O.cj, Z.of]
        have : f.a * (m.a * m.d - m.b * m.c) = f.a := by rw [hm]; omega
        grind
    intro z
    constructor
    · rintro ⟨_, ⟨i, j, rfl⟩, rfl⟩
      refine ⟨_, ⟨m.d * i - m.b * j, -m.c * i + m.a * j, rfl⟩, ?_⟩
      rw [mul_add o (Z.of f.a), mul_sc o _ (Z.of f.a), mul_sc o _ (Z.of f.a), ← k1, ← k2, ← mul_sc, ← mul_sc, ← mul_add]
      congr 1
      apply Z.ext
      · simp only [Z.of, Z.sc, Z.add]
        have x1 : f.a * i * (m.a * m.d - m.b * m.c) = f.a * i := by rw [hm]; omega
        have x2 : e * j * (m.a * m.d - m.b * m.c) = e * j := by rw [hm]; omega
        grind
      · simp only [Z.of, Z.sc, Z.add]
        have x2 : j * (m.a * m.d - m.b * m.c) = j := by rw [hm]; omega
        grind
    · rintro ⟨_, ⟨i, j, rfl⟩, rfl⟩
      refine ⟨_, ⟨m.a * i + m.b * j, m.c * i + m.d * j, rfl⟩, ?_⟩
      rw [mul_add o (Z.of f.a), mul_sc o _ (Z.of f.a), mul_sc o _ (Z.of f.a), ← k1, ← k2, ← mul_sc, ← mul_sc, ← mul_add]
      congr 1
      apply Z.ext <;> simp only [Z.of, Z.sc, Z.add] <;> grind
/-- norms are positive -/
def O.Neg (o : O) : Prop := o.s * o.s + 4 * o.n < 0
theorem nm_four (x : Z) : 4 * o.nm x = (2 * x.u + o.s * x.v) * (2 * x.u + o.s * x.v) + -(o.s * o.s + 4 * o.n) * (x.v * x.v) := by simp only [O.nm]; grind
theorem nm_pos (h : o.Neg) {x : Z} (hx : x ≠ ⟨0, 0⟩) : 0 < o.nm x := by
  have h1 := nm_four (o := o) x
  unfold O.Neg at h
  by_cases hv : x.v = 0
  · have hu : x.u ≠ 0 := fun hu => hx (Z.ext hu hv)
    have := sq_pos hu
    have e : o.nm x = x.u * x.u := by simp only [O.nm]; rw [hv]; simp
    omega
  · have := sq_pos hv
    have h2 := sq_nonneg (2 * x.u + o.s * x.v)
    have := Int.mul_pos (show 0 < -(o.s * o.s + 4 * o.n) by omega) (show 0 < x.v * x.v by omega)
    omega
theorem nm_nonneg (h : o.Neg) {x : Z} (hx : o.nm x ≠ 0) : 0 < o.nm x := nm_pos h fun e => hx (by rw [e]; simp [O.nm])
/-- forms whose ideals differ by a number are equivalent -/
theorem F.On.of_eqv {f g : F} {e k : Int} (ho : o.Neg) (h : f.On o e) (h' : g.On o k) (ha : 0 < f.a) (hb : 0 < g.a) (he : Eqv o (idl f.a e) (idl g.a k)) : ∃ m : M, m.det = 1 ∧ f = g.by m := by
  obtain ⟨x, y, hx, hy, he⟩ := he
  have nx := nm_nonneg ho hx
  have ny := nm_nonneg ho hy
  obtain ⟨_, ⟨p, r, rfl⟩, e1⟩ := (he _).1 ⟨_, lat_l _ _, rfl⟩
  obtain ⟨_, ⟨q, s, rfl⟩, e2⟩ := (he _).1 ⟨_, lat_r _ _, rfl⟩
  obtain ⟨_, ⟨p', r', rfl⟩, e3⟩ := (he _).2 ⟨_, lat_l _ _, rfl⟩
  obtain ⟨_, ⟨q', s', rfl⟩, e4⟩ := (he _).2 ⟨_, lat_r _ _, rfl⟩
  have c1 : o.nm x * f.a = (p * s - q * r) * (o.nm y * g.a) := by
    have := cr_mul o x (.of f.a) ⟨e, 1⟩
    rw [e1, e2, cr_mul] at this
    simp only [Z.cr, Z.of, Z.sc, Z.add] at this
    grind
  have c2 : o.nm y * g.a = (p' * s' - q' * r') * (o.nm x * f.a) := by
    have := cr_mul o y (.of g.a) ⟨k, 1⟩
    rw [e3, e4, cr_mul] at this
    simp only [Z.cr, Z.of, Z.sc, Z.add] at this
    grind
  have n1 := Int.mul_pos nx ha
  have n2 := Int.mul_pos ny hb
  have d1 : 0 < p * s - q * r := by
    refine pos_of_mul n2 ?_
    rw [Int.mul_comm]
    omega
  have d2 : 0 < p' * s' - q' * r' := by
    refine pos_of_mul n1 ?_
    rw [Int.mul_comm]
    omega
  have d3 : p * s - q * r = 1 := by
    have h5 : (o.nm y * g.a) * ((p * s - q * r) * (p' * s' - q' * r')) = (o.nm y * g.a) * 1 := by
      rw [Int.mul_one]
      conv => rhs; rw [c2, c1]
      grind
    have h6 := Int.eq_of_mul_eq_mul_left (by omega) h5
    have := Int.mul_le_mul_of_nonneg_left (show 1 ≤ p' * s' - q' * r' by omega) (show 0 ≤ p * s - q * r by omega)
    omega
  have hn : o.nm x * f.a = o.nm y * g.a := by rw [c1, d3]; omega
  have key : ∀ i j : Int, f.val i j = g.val (p * i + q * j) (r * i + s * j) := by
    intro i j
    have a1 := nm_mul o x (((Z.of f.a).sc i).add (Z.sc j ⟨e, 1⟩))
    rw [mul_add, mul_sc, mul_sc, e1, e2, h.nm, ← mul_sc, ← mul_sc, ← mul_add] at a1
    have a2 : (Z.add (Z.sc i (Z.add (Z.sc p (Z.of g.a)) (Z.sc r ⟨k, 1⟩))) (Z.sc j (Z.add (Z.sc q (Z.of g.a)) (Z.sc s ⟨k, 1⟩)))) = ((Z.of g.a).sc (p * i + q * j)).add (Z.sc (r * i + s * j) ⟨k, 1⟩) := by
      apply Z.ext <;> simp only [Z.of, Z.sc, Z.add] <;> grind
    rw [a2, nm_mul, h'.nm] at a1
    have a3 : (o.nm x * f.a) * f.val i j = (o.nm x * f.a) * g.val (p * i + q * j) (r * i + s * j) := by
      have : (o.nm x * f.a) * g.val (p * i + q * j) (r * i + s * j) = o.nm y * (g.a * g.val (p * i + q * j) (r * i + s * j)) := by rw [hn]; grind
      rw [this, a1]
      grind
    exact Int.eq_of_mul_eq_mul_left (by omega) a3
  refine ⟨⟨p, q, r, s⟩, by simp only [M.det]; omega, ?_⟩
  have v1 := key 1 0
  have v2 := key 0 1
  have v3 := key 1 1
  simp only [F.val] at v1 v2 v3
  obtain ⟨a, b, c⟩ := f
  simp only [F.by, F.val, F.mk.injEq]
  simp only at v1 v2 v3
  refine ⟨by grind, by grind, by grind⟩
end Qf
