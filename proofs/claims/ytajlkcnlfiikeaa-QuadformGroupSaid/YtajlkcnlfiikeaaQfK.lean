/- Composition of forms: well defined on classes, a commutative group; plain, no condition. -/
import Derived.Test.YtajlkcnlfiikeaaQfJ
set_option linter.all false
namespace Qf

/-- the order of a discriminant -/
def ord (D : Int) : O := ⟨D % 2, (D - D % 2) / 4⟩
theorem sq_mod (b : Int) : (b * b) % 4 = b % 2 := by
  rw [Int.mul_emod]
  have h3 := Int.emod_nonneg b (show (4 : Int) ≠ 0 by decide)
  have h4 := Int.emod_lt_of_pos b (show (0 : Int) < 4 by decide)
  have h5 : b % 2 = b % 4 % 2 := by omega
  rw [h5]
  generalize b % 4 = r at *
  have : r = 0 ∨ r = 1 ∨ r = 2 ∨ r = 3 := by omega
  rcases this with h | h | h | h <;> subst h <;> decide
theorem disc_mod (f : F) : f.disc % 4 = f.b % 2 ∧ f.disc % 2 = f.b % 2 := by
  have e : f.disc = f.b * f.b - 4 * (f.a * f.c) := by simp only [F.disc]; grind
  have := sq_mod f.b
  generalize f.b * f.b = B at *
  generalize f.a * f.c = C at *
  omega
theorem on_ord {f : F} {D : Int} (h : f.disc = D) : f.On (ord D) ((f.b - D % 2) / 2) := by
  obtain ⟨h1, h2⟩ := disc_mod f
  rw [h] at h1 h2
  have e : D = f.b * f.b - 4 * (f.a * f.c) := by rw [← h]; simp only [F.disc]; grind
  have hb : f.b = 2 * ((f.b - D % 2) / 2) + D % 2 := by omega
  refine ⟨hb, ?_⟩
  show f.a * f.c = _ + D % 2 * _ - (D - D % 2) / 4
  generalize (f.b - D % 2) / 2 = k at *
  have hs : D % 2 = 0 ∨ D % 2 = 1 := by omega
  rcases hs with hs | hs
  · rw [hs] at hb ⊢
    have : f.b * f.b = 4 * (k * k) := by rw [hb]; grind
    omega
  · rw [hs] at hb ⊢
    have : f.b * f.b = 4 * (k * k) + 4 * k + 1 := by rw [hb]; grind
    omega
theorem ord_neg {D : Int} (h : D < 0) (h4 : D % 4 = 0 ∨ D % 4 = 1) : (ord D).Neg := by
  unfold O.Neg ord
  simp only
  have hs : D % 2 = 0 ∨ D % 2 = 1 := by omega
  rcases hs with hs | hs <;> rw [hs] <;> omega
theorem ord_neg_of {f : F} (h : f.Pos) : (ord f.disc).Neg := by
  obtain ⟨h1, h2⟩ := disc_mod f
  exact ord_neg h.d (by omega)
/-- the ideal of a form -/
def F.I (f : F) : Z → Prop := idl f.a ((f.b - f.disc % 2) / 2)
def Sim (f g : F) : Prop := ∃ m : M, m.det = 1 ∧ g = f.by m
theorem Sim.refl (f : F) : Sim f f := ⟨.one, by decide, (by_one f).symm⟩
theorem Sim.symm {f g : F} (h : Sim f g) : Sim g f := by
  obtain ⟨m, hm, rfl⟩ := h
  exact ⟨m.inv, by rw [det_inv]; exact hm, (by_inv hm).symm⟩
theorem Sim.trans {f g h : F} (a : Sim f g) (b : Sim g h) : Sim f h := by
  obtain ⟨m, hm, rfl⟩ := a
  obtain ⟨n, hn, rfl⟩ := b
  exact ⟨m.mul n, by rw [det_mul, hm, hn]; rfl, by_mul _ _ _⟩
theorem Sim.disc {f g : F} (h : Sim f g) : g.disc = f.disc := by
  obtain ⟨m, hm, rfl⟩ := h
  rw [disc_by, hm]; simp
theorem Sim.pos {f g : F} (h : Sim f g) (hf : f.Pos) : g.Pos := by
  obtain ⟨m, hm, rfl⟩ := h
  exact hf.by hm
theorem Sim.ct {f g : F} (h : Sim f g) : g.ct = f.ct := by
  obtain ⟨m, hm, rfl⟩ := h
  exact ct_by hm
theorem Sim.rd {f : F} (h : f.Pos) : Sim f f.rd := ⟨f.rm, (rd_spec h).2.1, (rd_spec h).2.2⟩
theorem Sim.rd_eq {f g : F} (h : Sim f g) (hf : f.Pos) : g.rd = f.rd := by
  obtain ⟨m, hm, rfl⟩ := h
  exact rd_by hf hm
theorem Sim.eqv {f g : F} (h : Sim f g) (hf : f.Pos) : Eqv (ord f.disc) f.I g.I := by
  have hd := h.disc
  obtain ⟨m, hm, rfl⟩ := h
  unfold F.I
  rw [hd]
  refine (on_ord (f := f) rfl).eqv hm (on_ord hd) hf.a ?_
  have hp : 0 < (ord f.disc).nm ⟨m.a * f.a + m.c * ((f.b - f.disc % 2) / 2), m.c⟩ := by
    refine nm_pos (ord_neg_of hf) fun e => ?_
    injection e with e1 e2
    rw [e2] at e1
    have : m.a * f.a = 0 := by omega
    rcases Int.mul_eq_zero.1 this with h | h
    · simp only [M.det] at hm
      rw [h, e2] at hm
      simp at hm
    · have := hf.a; omega
  omega
theorem sim_of_eqv {f g : F} (hf : f.Pos) (hg : g.Pos) (hd : g.disc = f.disc) (h : Eqv (ord f.disc) f.I g.I) : Sim g f := by
  unfold F.I at h
  rw [hd] at h
  obtain ⟨m, hm, e⟩ := F.On.of_eqv (ord_neg_of hf) (on_ord (f := f) rfl) (on_ord hd) hf.a hg.a h
  exact ⟨m, hm, e⟩
theorem I_grp (f : F) : Grp f.I := lat_grp _ _
/-- concordant forms and their composite -/
structure Co (f g h : F) : Prop where
  pf : f.Pos
  pg : g.Pos
  a : h.a = f.a * g.a
  b1 : ∃ t, h.b = f.b + 2 * f.a * t
  b2 : ∃ t, h.b = g.b + 2 * g.a * t
  cop : ∃ u v, u * f.a + v * g.a = 1
  d1 : g.disc = f.disc
  d2 : h.disc = f.disc
theorem Co.pos {f g h : F} (c : Co f g h) : h.Pos := ⟨by rw [c.a]; exact Int.mul_pos c.pf.a c.pg.a, by rw [c.d2]; exact c.pf.d⟩
theorem lat_shift {x y : Z} (k : Int) {z : Z} : lat x (y.add (x.sc k)) z ↔ lat x y z := by
  constructor
  · rintro ⟨i, j, rfl⟩
    exact ⟨i + j * k, j, by apply Z.ext <;> simp only [Z.sc, Z.add] <;> grind⟩
  · rintro ⟨i, j, rfl⟩
    exact ⟨i - j * k, j, by apply Z.ext <;> simp only [Z.sc, Z.add] <;> grind⟩
theorem idl_shift {a e e' : Int} (k : Int) (h : e' = e + a * k) {z : Z} : idl a e' z ↔ idl a e z := by
  have : (⟨e', 1⟩ : Z) = Z.add ⟨e, 1⟩ ((Z.of a).sc k) := by
    subst h
    apply Z.ext <;> simp only [Z.of, Z.sc, Z.add] <;> grind
  unfold idl
  rw [this]
  exact lat_shift k
theorem Co.eqv {f g h : F} (c : Co f g h) (z : Z) : h.I z ↔ Pr (ord f.disc) f.I g.I z := by
  have hh := on_ord (f := h) c.d2
  have hf := on_ord (f := f) rfl
  have hg := on_ord (f := g) c.d1
  unfold F.I
  rw [c.d2, c.d1]
  obtain ⟨t, ht⟩ := c.b1
  obtain ⟨t', ht'⟩ := c.b2
  obtain ⟨u, v, huv⟩ := c.cop
  have s0 : (ord f.disc).s = f.disc % 2 := rfl
  generalize (h.b - f.disc % 2) / 2 = e at *
  generalize (f.b - f.disc % 2) / 2 = k at *
  generalize (g.b - f.disc % 2) / 2 = l at *
  have e1 : e = k + f.a * t := by
    have h1 := hh.b
    have h2 := hf.b
    have : 2 * f.a * t = 2 * (f.a * t) := by grind
    omega
  have e2 : e = l + g.a * t' := by
    have h1 := hh.b
    have h2 := hg.b
    have : 2 * g.a * t' = 2 * (g.a * t') := by grind
    omega
  rw [Pr.congr (fun z => (idl_shift t e1).symm) (fun z => (idl_shift t' e2).symm)]
  have hac := hh.ac
  rw [c.a] at hac ⊢
  generalize ord f.disc = o at *
  constructor
  · have p1 : Pr o (idl f.a e) (idl g.a e) (.of (f.a * g.a)) := by
      have := Pr.one (o := o) (lat_l (.of f.a) ⟨e, 1⟩) (lat_l (.of g.a) ⟨e, 1⟩)
      rwa [mul_of, show (Z.of g.a).sc f.a = .of (f.a * g.a) by apply Z.ext <;> simp [Z.of, Z.sc]] at this
    have p2 : Pr o (idl f.a e) (idl g.a e) ⟨e, 1⟩ := by
      have q1 := Pr.one (o := o) (lat_l (.of f.a) ⟨e, 1⟩) (lat_r (.of g.a) ⟨e, 1⟩)
      have q2 := Pr.one (o := o) (lat_r (.of f.a) ⟨e, 1⟩) (lat_l (.of g.a) ⟨e, 1⟩)
      have q3 := (q1.sc (lat_grp _ _) u).add (q2.sc (lat_grp _ _) v)
      rw [mul_comm o ⟨e, 1⟩, mul_of, mul_of] at q3
      have : ((Z.sc f.a ⟨e, 1⟩).sc u).add ((Z.sc g.a ⟨e, 1⟩).sc v) = ⟨e, 1⟩ := by
        apply Z.ext
        · simp only [Z.sc, Z.add]
          have : u * (f.a * e) + v * (g.a * e) = (u * f.a + v * g.a) * e := by grind
          rw [this, huv]; omega
        · simp only [Z.sc, Z.add, Int.mul_one]; exact huv
      rw [this] at q3
      exact q3
    exact lat_sub (Pr.grp (lat_grp _ _)) p1 p2 z
  · refine Pr.sub (lat_grp _ _) ?_
    rintro _ _ ⟨i, j, rfl⟩ ⟨i', j', rfl⟩
    refine ⟨i * i' - j * j' * h.c, i * j' * f.a + i' * j * g.a + j * j' * (2 * e + o.s), ?_⟩
    apply Z.ext
    · simp only [O.mul, Z.of, Z.sc, Z.add]
      have : j * j' * (f.a * g.a * h.c) = j * j' * (e * e + o.s * e - o.n) := by rw [hac]
      grind
    · simp only [O.mul, Z.of, Z.sc, Z.add]
      grind
/-- r is the reduced composite of f and g -/
def Cmp (f g r : F) : Prop := ∃ f' g' h, Sim f f' ∧ Sim g g' ∧ Co f' g' h ∧ r = h.rd
theorem Cmp.pos {f g r : F} (c : Cmp f g r) : f.Pos ∧ g.Pos ∧ r.Red ∧ g.disc = f.disc ∧ r.disc = f.disc := by
  obtain ⟨f', g', h, h1, h2, h3, rfl⟩ := c
  have hr := Sim.rd h3.pos
  exact ⟨h1.symm.pos h3.pf, h2.symm.pos h3.pg, (rd_spec h3.pos).1, by rw [← h2.disc, h3.d1, h1.disc], by rw [hr.disc, h3.d2, h1.disc]⟩
theorem Cmp.eqv {f g r : F} (c : Cmp f g r) : Eqv (ord f.disc) r.I (Pr (ord f.disc) f.I g.I) := by
  obtain ⟨hf, hg, hr, hd1, hd2⟩ := c.pos
  obtain ⟨f', g', h, h1, h2, h3, rfl⟩ := c
  have e1 := (Sim.rd h3.pos).symm.eqv hr.pos
  have e2 := h1.symm.eqv h3.pf
  have e3 := h2.symm.eqv h3.pg
  rw [hd2] at e1
  rw [h1.disc] at e2
  rw [h2.disc, hd1] at e3
  have e4 := h3.eqv
  rw [h1.disc] at e4
  exact e1.trans ((Eqv.of_eq e4).trans (Eqv.pr e2 e3))
theorem red_of_eqv {f g : F} (hf : f.Red) (hg : g.Red) (hd : g.disc = f.disc) (h : Eqv (ord f.disc) f.I g.I) : f = g := by
  obtain ⟨m, hm, e⟩ := sim_of_eqv hf.pos hg.pos hd h
  exact (red_unique hg hf hm e).symm
theorem Cmp.unique {f g f' g' r r' : F} (c : Cmp f g r) (c' : Cmp f' g' r') (hf : Sim f f') (hg : Sim g g') : r = r' := by
  obtain ⟨p1, p2, p3, p4, p5⟩ := c.pos
  obtain ⟨q1, q2, q3, q4, q5⟩ := c'.pos
  have e1 := c.eqv
  have e2 := c'.eqv
  have e3 := hf.eqv p1
  have e4 := hg.eqv p2
  rw [hf.disc] at e2
  rw [p4] at e4
  refine red_of_eqv p3 q3 (by rw [q5, p5, hf.disc]) ?_
  rw [p5]
  exact e1.trans ((Eqv.pr e3 e4).trans e2.symm)
theorem Cmp.comm {f g r r' : F} (c : Cmp f g r) (c' : Cmp g f r') : r = r' := by
  obtain ⟨p1, p2, p3, p4, p5⟩ := c.pos
  obtain ⟨q1, q2, q3, q4, q5⟩ := c'.pos
  refine red_of_eqv p3 q3 (by rw [q5, p5, p4]) ?_
  have e2 := c'.eqv
  rw [p4] at e2
  rw [p5]
  exact c.eqv.trans ((Eqv.of_eq fun z => ⟨Pr.swap, Pr.swap⟩).trans e2.symm)
theorem Cmp.assoc {f g h x y z w : F} (c1 : Cmp f g x) (c2 : Cmp x h y) (c3 : Cmp g h z) (c4 : Cmp f z w) : y = w := by
  obtain ⟨p1, p2, p3, p4, p5⟩ := c1.pos
  obtain ⟨q1, q2, q3, q4, q5⟩ := c2.pos
  obtain ⟨r1, r2, r3, r4, r5⟩ := c3.pos
  obtain ⟨s1, s2, s3, s4, s5⟩ := c4.pos
  have e1 := c1.eqv
  have e2 := c2.eqv
  have e3 := c3.eqv
  have e4 := c4.eqv
  rw [p5] at e2
  rw [p4] at e3
  refine red_of_eqv q3 s3 (by rw [s5, q5, p5]) ?_
  rw [q5, p5]
  refine e2.trans (Eqv.trans (Eqv.pr e1 (Eqv.refl _)) (Eqv.trans (Eqv.of_eq fun z => Pr.assoc_iff (I_grp _) (I_grp _)) (Eqv.trans (Eqv.pr (Eqv.refl _) e3.symm) e4.symm)))
/-- an ideal of the order -/
theorem I_one {f g : F} (hf : f.Pos) (hd : g.disc = f.disc) (h1 : f.a = 1) (z : Z) : Pr (ord f.disc) f.I g.I z ↔ g.I z := by
  have hon := on_ord (f := g) hd
  unfold F.I
  rw [hd, h1]
  generalize (g.b - f.disc % 2) / 2 = e at *
  generalize (f.b - f.disc % 2) / 2 = k at *
  generalize ord f.disc = o at *
  constructor
  · refine Pr.sub (lat_grp _ _) ?_
    rintro _ _ ⟨i, j, rfl⟩ ⟨i', j', rfl⟩
    have hac := hon.ac
    -- (i + j (k + t)) (i' a + j' (e + t))
    refine ⟨i * i' + j * i' * (k - e) - j * j' * g.c, i * j' + j * i' * g.a + j * j' * (k + e + o.s), ?_⟩
    apply Z.ext
    · simp only [O.mul, Z.of, Z.sc, Z.add]
      have : j * j' * (g.a * g.c) = j * j' * (e * e + o.s * e - o.n) := by rw [hac]
      grind
    · simp only [O.mul, Z.of, Z.sc, Z.add]
      grind
  · intro h
    have := Pr.one (o := o) (lat_l (.of 1) ⟨k, 1⟩) h
    rwa [mul_of, show z.sc 1 = z by apply Z.ext <;> simp [Z.sc]] at this
theorem Cmp.one {f g r : F} (c : Cmp f g r) (h : f.a = 1) : r = g.rd := by
  obtain ⟨p1, p2, p3, p4, p5⟩ := c.pos
  obtain ⟨h1, h2, h3⟩ := rd_spec p2
  refine red_of_eqv p3 h1 (by rw [(Sim.rd p2).disc, p5, p4]) ?_
  have e2 := (Sim.rd p2).eqv p2
  rw [p4] at e2
  rw [p5]
  exact c.eqv.trans ((Eqv.of_eq (I_one p1 p4 h)).trans e2)
end Qf
