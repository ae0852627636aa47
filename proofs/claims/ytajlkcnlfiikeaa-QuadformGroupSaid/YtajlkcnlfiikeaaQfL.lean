/- Composition: inverses, primitive forms, composites found; plain, no condition. -/
import Derived.Test.YtajlkcnlfiikeaaQfK
set_option linter.all false
namespace Qf

def F.bar (f : F) : F := ⟨f.a, -f.b, f.c⟩
theorem bar_disc (f : F) : f.bar.disc = f.disc := by simp only [F.bar, F.disc]; grind
theorem bar_pos {f : F} (h : f.Pos) : f.bar.Pos := ⟨h.a, by rw [bar_disc]; exact h.d⟩
def idn (D : Int) : F := ⟨1, D % 2, (D % 2 - D) / 4⟩
theorem idn_disc {D : Int} (h : D % 4 = 0 ∨ D % 4 = 1) : (idn D).disc = D := by
  simp only [idn, F.disc]
  have : D % 2 = 0 ∨ D % 2 = 1 := by omega
  rcases this with h | h <;> rw [h] <;> omega
theorem idn_red {D : Int} (hD : D < 0) (h : D % 4 = 0 ∨ D % 4 = 1) : (idn D).Red := by
  refine ⟨?_, ?_, ?_, fun _ => ?_⟩ <;> simp only [idn] <;> omega
theorem bez (a b : Nat) : ∃ x y : Int, (Nat.gcd a b : Int) = x * a + y * b := by
  induction a, b using Nat.gcd.induction with
  | H0 n => exact ⟨0, 1, by simp⟩
  | H1 m n hm ih =>
    obtain ⟨x, y, e⟩ := ih
    refine ⟨y - x * ((n / m : Nat) : Int), x, ?_⟩
    rw [Nat.gcd_rec, e]
    have h : (n : Int) = m * ((n / m : Nat) : Int) + ((n % m : Nat) : Int) := by exact_mod_cast (Nat.div_add_mod n m).symm
    generalize ((n / m : Nat) : Int) = q at *
    generalize ((n % m : Nat) : Int) = r at *
    rw [h]
    grind
theorem bezI (a b : Int) : ∃ x y : Int, (Nat.gcd a.natAbs b.natAbs : Int) = x * a + y * b := by
  obtain ⟨x, y, e⟩ := bez a.natAbs b.natAbs
  rw [e]
  have key : ∀ (x a : Int), ∃ x', x * (a.natAbs : Int) = x' * a := fun x a => by
    rcases Int.le_total 0 a with h | h
    · exact ⟨x, by rw [show (a.natAbs : Int) = a by omega]⟩
    · exact ⟨-x, by rw [show (a.natAbs : Int) = -a by omega]; grind⟩
  obtain ⟨x', e1⟩ := key x a
  obtain ⟨y', e2⟩ := key y b
  exact ⟨x', y', by rw [e1, e2]⟩
theorem ct_comb (f : F) : ∃ x y z : Int, x * f.a + y * f.b + z * f.c = f.ct := by
  obtain ⟨x, y, e1⟩ := bezI f.a f.b
  obtain ⟨z, w, e2⟩ := bezI (Nat.gcd f.a.natAbs f.b.natAbs : Int) f.c
  rw [Int.natAbs_natCast, e1] at e2
  exact ⟨z * x, z * y, w, by unfold F.ct; rw [e2]; grind⟩
theorem cop_of {a b : Int} (h : Nat.gcd a.natAbs b.natAbs = 1) : ∃ u v, u * a + v * b = 1 := by
  obtain ⟨x, y, e⟩ := bezI a b
  rw [h] at e
  exact ⟨x, y, e.symm⟩
/-- a form and its inverse -/
theorem Cmp.bar {f r : F} (c : Cmp f f.bar r) (h : f.ct = 1) : r = idn f.disc := by
  obtain ⟨p1, p2, p3, p4, p5⟩ := c.pos
  obtain ⟨m1, m2⟩ := disc_mod f
  have hD4 : f.disc % 4 = 0 ∨ f.disc % 4 = 1 := by omega
  have hid := idn_disc hD4
  refine red_of_eqv p3 (idn_red p1.d hD4) (by rw [hid, p5]) ?_
  rw [p5]
  refine c.eqv.trans ?_
  have hon := on_ord (f := f) rfl
  unfold F.I
  rw [bar_disc, hid]
  have e1 : ((idn f.disc).b - f.disc % 2) / 2 = 0 := by simp [idn]
  have e2 : (f.bar.b - f.disc % 2) / 2 = -((f.b - f.disc % 2) / 2 + f.disc % 2) := by
    show (-f.b - f.disc % 2) / 2 = _
    omega
  have s0 : (ord f.disc).s = f.disc % 2 := rfl
  rw [e1, e2]
  rw [← s0] at hon ⊢
  obtain ⟨x, y, z, hxyz⟩ := ct_comb f
  rw [h] at hxyz
  generalize (f.b - (ord f.disc).s) / 2 = e at *
  have ha := p1.a
  have hb := hon.b
  have hac := hon.ac
  show Eqv _ (Pr _ (idl f.a e) (idl f.a (-(e + (ord f.disc).s)))) (idl 1 0)
  generalize ord f.disc = o at *
  refine ⟨.of 1, .of f.a, by rw [nm_one]; decide, ?_, fun w => ?_⟩
  · have : o.nm (.of f.a) = f.a * f.a := by simp [O.nm, Z.of]
    have := Int.mul_pos ha ha
    omega
  · constructor
    · rintro ⟨v, hv, rfl⟩
      rw [mul_of, show v.sc 1 = v by apply Z.ext <;> simp [Z.sc]]
      refine Pr.sub (ml_grp o _ (lat_grp _ _)) ?_ hv
      rintro _ _ ⟨i, j, rfl⟩ ⟨i', j', rfl⟩
      refine ⟨_, ⟨i * i' * f.a - i * j' * (e + o.s) + j * i' * e - j * j' * f.c, i * j' + j * i', rfl⟩, ?_⟩
      rw [mul_of]
      apply Z.ext
      · simp only [O.mul, Z.of, Z.sc, Z.add]
        have : j * j' * (f.a * f.c) = j * j' * (e * e + o.s * e - o.n) := by rw [hac]
        grind
      · simp only [O.mul, Z.of, Z.sc, Z.add]
        grind
    · rintro ⟨_, ⟨i, j, rfl⟩, rfl⟩
      refine ⟨o.mul (.of f.a) (((Z.of 1).sc i).add (Z.sc j ⟨0, 1⟩)), ?_, ?_⟩
      · have q1 := Pr.one (o := o) (lat_l (.of f.a) ⟨e, 1⟩) (lat_l (.of f.a) ⟨-(e + o.s), 1⟩)
        have q2 := Pr.one (o := o) (lat_l (.of f.a) ⟨e, 1⟩) (lat_r (.of f.a) ⟨-(e + o.s), 1⟩)
        have q3 := Pr.one (o := o) (lat_r (.of f.a) ⟨e, 1⟩) (lat_l (.of f.a) ⟨-(e + o.s), 1⟩)
        have q4 := Pr.one (o := o) (lat_r (.of f.a) ⟨e, 1⟩) (lat_r (.of f.a) ⟨-(e + o.s), 1⟩)
        -- a 1 = x (a a) + y (a b) + z (a c), a t = (q3) - e (a 1)
        have r1 := (q1.sc (lat_grp _ _) x).add ((q3.sc (lat_grp _ _) y).add ((q2.sc (lat_grp _ _) (-y)).add (q4.sc (lat_grp _ _) (-z))))
        have r2 := (r1.sc (lat_grp _ _) (i - j * e)).add (q3.sc (lat_grp _ _) j)
        refine cast (congrArg _ ?_) r2
        have k1 : (o.mul (.of f.a) (.of f.a)).sc x = ⟨x * f.a * f.a, 0⟩ := by apply Z.ext <;> simp only [O.mul, Z.of, Z.sc] <;> grind
        have hxyz' : (x * f.a + y * f.b + z * f.c) * f.a = f.a := by rw [hxyz]; simp
        have hz : z * (f.a * f.c) = z * (e * e + o.s * e - o.n) := by rw [hac]
        apply Z.ext
        · simp only [O.mul, Z.of, Z.sc, Z.add]
          rw [hb] at hxyz'
          have h5 : (i - j * e) * ((x * f.a + y * (2 * e + o.s) + z * f.c) * f.a) = (i - j * e) * f.a := by rw [hxyz']
          grind
        · simp only [O.mul, Z.of, Z.sc, Z.add]
          grind
      · rw [mul_of o 1]
        apply Z.ext <;> simp [Z.sc]
/-- composites of primitive forms are primitive -/
theorem Co.prim {f g h : F} (c : Co f g h) (hf : f.ct = 1) (hg : g.ct = 1) : h.ct = 1 := by
  obtain ⟨h1, h2, h3⟩ := ct_dvd h
  have key : ∀ {f g : F}, f.Pos → h.a = f.a * g.a → h.disc = f.disc → (∃ t, h.b = f.b + 2 * f.a * t) → f.ct = 1 → Nat.gcd h.ct f.a.natAbs = 1 := by
    rintro f g hp ha hd ⟨t, ht⟩ hf
    have d1 : ((Nat.gcd h.ct f.a.natAbs : Nat) : Int) ∣ f.a := by rw [Int.ofNat_dvd_left]; exact Nat.gcd_dvd_right _ _
    have d0 : ((Nat.gcd h.ct f.a.natAbs : Nat) : Int) ∣ (h.ct : Int) := by exact_mod_cast Nat.gcd_dvd_left h.ct f.a.natAbs
    have d2 := Int.dvd_trans d0 h2
    have d3 := Int.dvd_trans d0 h3
    have hfc : f.c = g.a * h.c - h.b * t + f.a * t * t := by
      simp only [F.disc] at hd
      rw [ha] at hd
      have : 4 * f.a * f.c = 4 * f.a * (g.a * h.c - h.b * t + f.a * t * t) := by
        have e : f.b = h.b - 2 * f.a * t := by omega
        rw [e] at hd
        grind
      exact Int.eq_of_mul_eq_mul_left (by have := hp.a; omega) this
    have db : ((Nat.gcd h.ct f.a.natAbs : Nat) : Int) ∣ f.b := by
      have e : f.b = h.b - f.a * (2 * t) := by rw [ht]; grind
      rw [e]
      exact Int.dvd_sub d2 (Int.dvd_trans d1 ⟨_, rfl⟩)
    have dc : ((Nat.gcd h.ct f.a.natAbs : Nat) : Int) ∣ f.c := by
      have e : f.c = h.c * g.a - h.b * t + f.a * (t * t) := by rw [hfc]; grind
      rw [e]
      exact Int.dvd_add (Int.dvd_sub (Int.dvd_trans d3 ⟨_, rfl⟩) (Int.dvd_trans d2 ⟨_, rfl⟩)) (Int.dvd_trans d1 ⟨_, rfl⟩)
    have hd1 := dvd_ct d1 db dc
    rw [hf] at hd1
    exact Nat.dvd_one.1 hd1
  have k1 := key c.pf c.a c.d2 c.b1 hf
  have k2 := key (f := g) (g := f) c.pg (by rw [c.a]; grind) (by rw [c.d2, c.d1]) c.b2 hg
  have k3 : h.ct ∣ f.a.natAbs * g.a.natAbs := by
    rw [← Int.natAbs_mul, ← c.a]
    exact Int.ofNat_dvd_left.1 h1
  have k4 := Nat.Coprime.dvd_of_dvd_mul_left k1 k3
  have := Nat.gcd_eq_left k4
  rw [k2] at this
  exact this.symm
end Qf
