/- The classes of a discriminant are a finite commutative group; the composition's contracts by the group's operation. -/
import Derived.Test.YtajlkcnlfiikeaaQwV
import Derived.Test.YtajlkcnlfiikeaaQfG
set_option linter.all false
namespace Ab
open Go Go.RowKit Go.Proofs Qf
set_option maxRecDepth 100000

theorem mem_cB {d a : Int} {f : F} : ∀ j, f ∈ cB d a j ↔ ∃ i : Nat, i < j ∧ okF d a (1 - a + i) = true ∧ f = fOf d a (1 - a + i)
  | 0 => by simp [cB]
  | j + 1 => by
    rw [cB, List.mem_append, mem_cB j]
    constructor
    · rintro (⟨i, h1, h2⟩ | h)
      · exact ⟨i, by omega, h2⟩
      · split at h
        · rename_i h2
          rw [List.mem_singleton] at h
          exact ⟨j, by omega, h2, h⟩
        · cases h
    · rintro ⟨i, h1, h2, h3⟩
      by_cases c : i = j
      · subst c
        rw [if_pos h2]
        exact .inr (List.mem_singleton.2 h3)
      · exact .inl ⟨i, by omega, h2, h3⟩
theorem mem_cA {d : Int} {f : F} : ∀ k, f ∈ cA d k ↔ ∃ i : Nat, i < k ∧ 3 * ((i : Int) + 1) * (i + 1) ≤ -d ∧ f ∈ cB d (i + 1) (2 * (i + 1))
  | 0 => by simp [cA]
  | k + 1 => by
    rw [cA, List.mem_append, mem_cA k]
    constructor
    · rintro (⟨i, h1, h2⟩ | h)
      · exact ⟨i, by omega, h2⟩
      · split at h
        · rename_i h2
          exact ⟨k, by omega, h2, h⟩
        · cases h
    · rintro ⟨i, h1, h2, h3⟩
      by_cases c : i = k
      · subst c
        rw [if_pos h2]
        exact .inr h3
      · exact .inl ⟨i, by omega, h2, h3⟩
theorem rok_iff {d a b : Int} (ha : 0 < a) : rok d a b = true ↔ (fOf d a b).Red ∧ (fOf d a b).disc = d ∧ (fOf d a b).ct = 1 := by
  have hd : (b * b - d).tmod (4 * a) = 0 ↔ (fOf d a b).disc = d := by
    have e := Int.mul_tdiv_add_tmod (b * b - d) (4 * a)
    have e2 : (fOf d a b).disc = b * b - 4 * a * (b * b - d).tdiv (4 * a) := rfl
    omega
  have hc : ctI (fOf d a b) = 1 ↔ (fOf d a b).ct = 1 := by rw [ctI_eq]; omega
  unfold rok
  simp only [Bool.and_eq_true, decide_eq_true_eq]
  rw [hd, hc]
  constructor
  · rintro ⟨h1, h2, h3⟩
    exact ⟨h2, h1, h3⟩
  · rintro ⟨h1, h2, h3⟩
    exact ⟨h2, h1, h3⟩
theorem fOf_self {f : F} (h : 0 < f.a) : fOf f.disc f.a f.b = f := by
  unfold fOf
  have e : f.b * f.b - f.disc = 4 * f.a * f.c := by simp only [F.disc]; omega
  rw [e, Int.mul_tdiv_cancel_left _ (by omega)]
theorem mem_cls {d : Int} {f : F} (h0 : -4000 ≤ d) (_h1 : d < 0) : f ∈ cls d ↔ f.Red ∧ f.disc = d ∧ f.ct = 1 := by
  unfold cls
  rw [mem_cA]
  constructor
  · rintro ⟨i, h1, h2, h3⟩
    obtain ⟨j, j1, j2, rfl⟩ := (mem_cB _).1 h3
    rw [← rok_eq (by omega) (by omega) (by omega), rok_iff (by omega)] at j2
    exact j2
  · rintro ⟨h1, h2, h3⟩
    have ha := h1.pos.a
    have hd := h1.disc
    have hb1 := h1.b1
    have hb2 := h1.b2
    have h36 := (sd_of h1 (by omega)).a
    refine ⟨(f.a - 1).toNat, by omega, ?_, ?_⟩
    · rw [show ((f.a - 1).toNat : Int) + 1 = f.a by omega, Int.mul_assoc]
      omega
    · rw [show ((f.a - 1).toNat : Int) + 1 = f.a by omega]
      have e := fOf_self ha
      rw [h2] at e
      refine (mem_cB _).2 ⟨(f.b - 1 + f.a).toNat, by omega, ?_, ?_⟩
      · rw [show 1 - f.a + ((f.b - 1 + f.a).toNat : Int) = f.b by omega, ← rok_eq ha hb1 hb2, rok_iff ha, e]
        exact ⟨h1, h2, h3⟩
      · rw [show 1 - f.a + ((f.b - 1 + f.a).toNat : Int) = f.b by omega, e]
theorem cB_nd {d a : Int} : ∀ j, (cB d a j).Nodup
  | 0 => List.nodup_nil
  | j + 1 => by
    rw [cB, List.nodup_append]
    refine ⟨cB_nd j, ?_, ?_⟩
    · split <;> simp
    · intro f hf g hg he
      obtain ⟨i, h1, h2, rfl⟩ := (mem_cB j).1 hf
      split at hg
      · rw [List.mem_singleton] at hg
        rw [← he] at hg
        have : 1 - a + (i : Int) = 1 - a + (j : Int) := congrArg F.b hg
        omega
      · cases hg
theorem cA_nd {d : Int} : ∀ k, (cA d k).Nodup
  | 0 => List.nodup_nil
  | k + 1 => by
    rw [cA, List.nodup_append]
    refine ⟨cA_nd k, ?_, ?_⟩
    · split
      · exact cB_nd _
      · exact List.nodup_nil
    · intro f hf g hg he
      obtain ⟨i, h1, h2, h3⟩ := (mem_cA k).1 hf
      obtain ⟨_, _, _, e1⟩ := (mem_cB _).1 h3
      split at hg
      · obtain ⟨_, _, _, e2⟩ := (mem_cB _).1 hg
        rw [← he, e1] at e2
        have : (i : Int) + 1 = (k : Int) + 1 := congrArg F.a e2
        omega
      · cases hg
theorem red_rd {f : F} (h : f.Red) : f.rd = f := (rd_eq h.pos (show M.one.det = 1 by decide) h (by_one f).symm).symm
theorem idF_idn {d : Int} (h : posC d = 0) : idF d = idn d := by
  have hz := posC_zero h
  have hm := posC_mod h
  have ht : d.tmod 2 = 0 ↔ d % 2 = 0 := by
    rw [← Int.dvd_iff_tmod_eq_zero]
    omega
  unfold idF idn
  by_cases c : d % 2 = 0
  · rw [if_pos (ht.2 c), Int.tdiv_eq_ediv_of_nonneg (by omega), c]
  · rw [if_neg (fun e => c (ht.1 e)), Int.tdiv_eq_ediv_of_nonneg (by omega), show d % 2 = 1 by omega]
/-- the facts of a class -/
structure Cl (d : Int) (f : F) : Prop where
  r : f.Red
  d : f.disc = d
  ct : f.ct = 1
theorem Cl.bd {d : Int} {f : F} (h : Cl d f) (h0 : -4000 ≤ d) : FBd 10000 f := (sd_of h.r (by rw [h.d]; exact h0)).bd.mono (by decide)
theorem Cl.can {d : Int} {f g : F} (h : Cl d f) (k : Cl d g) (h0 : -4000 ≤ d) : Can f g := ⟨h.r.pos, k.r.pos, h.bd h0, k.bd h0, h.ct, k.ct, by rw [h.d, k.d], by rw [h.d]; exact h0⟩
theorem Cl.cmp {d : Int} {f g : F} (h : Cl d f) (k : Cl d g) (h0 : -4000 ≤ d) : Cmp f g (cmpF f g) := by
  obtain ⟨r, hr, -⟩ := compose_p (h.can k h0)
  exact cmpF_spec hr
theorem Cl.cl {d : Int} {f g r : F} (h : Cl d f) (k : Cl d g) (c : Cmp f g r) : Cl d r := by
  obtain ⟨-, -, p3, -, p5⟩ := c.pos
  exact ⟨p3, by rw [p5, h.d], c.ct h.ct k.ct⟩
theorem cmp_rd {f g r : F} (c : Cmp f g r) : Cmp f.rd g.rd r := by
  obtain ⟨p1, p2, -⟩ := c.pos
  obtain ⟨f', g', h, sf, sg, co, e⟩ := c
  exact ⟨f', g', h, (Sim.rd p1).symm.trans sf, (Sim.rd p2).symm.trans sg, co, e⟩
theorem idF_cl {d : Int} (h : posC d = 0) : Cl d (idF d) := by
  obtain ⟨-, -, h3, h4⟩ := idF_facts h
  exact ⟨by rw [idF_idn h]; exact idn_red (posC_zero h).2 (posC_mod h), h3, h4⟩
theorem bar_ct (f : F) : f.bar.ct = f.ct := by simp only [F.ct, F.bar, Int.natAbs_neg]
theorem Cl.bar {d : Int} {f : F} (h : Cl d f) : Cl d f.bar.rd := by
  have p := bar_pos h.r.pos
  have s := Sim.rd p
  exact ⟨(rd_spec p).1, by rw [s.disc, bar_disc, h.d], by rw [s.ct, bar_ct, h.ct]⟩
theorem cmp_bar {d : Int} {f : F} (hd : posC d = 0) (h : Cl d f) : Cmp f f.bar (idF d) := by
  have c := h.cmp h.bar (posC_zero hd).1
  obtain ⟨f', g', k, sf, sg, co, e⟩ := c
  have c2 : Cmp f f.bar (cmpF f f.bar.rd) := ⟨f', g', k, sf, (Sim.rd (bar_pos h.r.pos)).trans sg, co, e⟩
  have := c2.bar h.ct
  rw [h.d, ← idF_idn hd] at this
  rw [← this]
  exact c2
theorem gp_cls {d : Int} (h : posC d = 0) : Gp (cls d) cmpF (idF d) := by
  obtain ⟨h0, h1⟩ := posC_zero h
  have mem : ∀ {f}, f ∈ cls d ↔ Cl d f := fun {f} => (mem_cls h0 h1).trans ⟨fun k => ⟨k.1, k.2.1, k.2.2⟩, fun k => ⟨k.r, k.d, k.ct⟩⟩
  refine ⟨cA_nd _, mem.2 (idF_cl h), fun x y hx hy => mem.2 ((mem.1 hx).cl (mem.1 hy) ((mem.1 hx).cmp (mem.1 hy) h0)), fun x y hx hy => ?_, fun x y z hx hy hz => ?_, fun x hx => ?_, fun x hx => ?_⟩
  · exact ((mem.1 hx).cmp (mem.1 hy) h0).comm ((mem.1 hy).cmp (mem.1 hx) h0)
  · have kx := mem.1 hx
    have ky := mem.1 hy
    have kz := mem.1 hz
    have c1 := kx.cmp ky h0
    have c3 := ky.cmp kz h0
    exact c1.assoc ((kx.cl ky c1).cmp kz h0) c3 (kx.cmp (ky.cl kz c3) h0)
  · have kx := mem.1 hx
    have c := (idF_cl h).cmp kx h0
    rw [c.one (by unfold idF; split <;> rfl), red_rd kx.r]
  · have kx := mem.1 hx
    exact ⟨_, mem.2 kx.bar, cmpF_eq (by
      have c := cmp_rd (cmp_bar h kx)
      rw [red_rd kx.r] at c
      exact c)⟩
theorem mem_cl {d : Int} (h : posC d = 0) {f : F} : f ∈ cls d ↔ Cl d f := (mem_cls (posC_zero h).1 (posC_zero h).2).trans ⟨fun k => ⟨k.1, k.2.1, k.2.2⟩, fun k => ⟨k.r, k.d, k.ct⟩⟩
theorem can_pos {f g : F} (h : Can f g) : posC f.disc = 0 := by
  have := h.d4
  have hd := h.pf.d
  unfold posC
  rw [if_neg (by omega)]
  obtain ⟨m1, m2⟩ := disc_mod f
  rw [tmod_pos (show 0 ≤ 0 - f.disc by omega), if_neg (by omega)]
theorem can_cl {f g : F} (h : Can f g) : Cl f.disc f.rd ∧ Cl f.disc g.rd :=
  ⟨⟨(rd_spec h.pf).1, (Sim.rd h.pf).disc, by rw [(Sim.rd h.pf).ct]; exact h.cf⟩, ⟨(rd_spec h.pg).1, by rw [(Sim.rd h.pg).disc, h.d], by rw [(Sim.rd h.pg).ct]; exact h.cg⟩⟩
/-- compose by the group's operation -/
theorem compose_c {f g : F} (h : Can f g) : Cmp f g (cmpF f.rd g.rd) ∧ PC Try.prog 53 [fA f, fA g] (fA (cmpF f.rd g.rd)) := by
  obtain ⟨r, hr, c⟩ := compose_p h
  rw [cmpF_eq (cmp_rd hr)]
  exact ⟨hr, c⟩
theorem Compose_c {f g : F} (h : compC f g = 0) : Cmp f g (cmpF f.rd g.rd) ∧ PC Try.prog 14 [fA f, fA g] (.tup [fA (cmpF f.rd g.rd), iV 0]) := by
  obtain ⟨r, hr, c⟩ := (Compose_p f g).1 h
  rw [cmpF_eq (cmp_rd hr)]
  exact ⟨hr, c⟩
theorem compC_of {f g : F} (h : Can f g) : compC f g = 0 := by
  unfold compC
  rw [chk_of h.pf h.bf, chk_of h.pg h.bg, if_neg (by decide), if_neg (by decide), if_neg (by have := h.d4; have := h.d; omega), ctI_eq, ctI_eq, h.cf, h.cg, if_neg (by decide), if_neg (by have := h.d; omega)]
/-- Compose of classes -/
theorem Cl.Compose {d : Int} (h0 : -4000 ≤ d) {f g : F} (h : Cl d f) (k : Cl d g) : PC Try.prog 14 [fA f, fA g] (.tup [fA (cmpF f g), iV 0]) := by
  have := (Compose_c (compC_of (h.can k h0))).2
  rw [red_rd h.r, red_rd k.r] at this
  exact this
theorem Cl.compose {d : Int} (h0 : -4000 ≤ d) {f g : F} (h : Cl d f) (k : Cl d g) : PC Try.prog 53 [fA f, fA g] (fA (cmpF f g)) := by
  have := (compose_c (h.can k h0)).2
  rw [red_rd h.r, red_rd k.r] at this
  exact this
end Ab
