/- Composition: walked. -/
import Derived.Test.YtajlkcnlfiikeaaQwN
set_option linter.all false
namespace Ab
open Go Go.RowKit Go.Proofs Qf
set_option maxRecDepth 100000

/-- forms that can be composed -/
structure Can (f g : F) : Prop where
  pf : f.Pos
  pg : g.Pos
  bf : FBd 10000 f
  bg : FBd 10000 g
  cf : f.ct = 1
  cg : g.ct = 1
  d : g.disc = f.disc
  d4 : -4000 ≤ f.disc
/-- the number k of the code -/
def kOf (f g : F) (u : Int) : Int := ((((g.b - f.b).tdiv 2).tmod g.a) * u).tmod g.a
theorem even_diff {f g : F} (h : g.disc = f.disc) : (g.b - f.b).tdiv 2 * 2 = g.b - f.b := by
  have e : g.b * g.b - 4 * g.a * g.c = f.b * f.b - 4 * f.a * f.c := h
  have e1 : 4 * g.a * g.c = 4 * (g.a * g.c) := by grind
  have e2 : 4 * f.a * f.c = 4 * (f.a * f.c) := by grind
  have e3 : (g.b - f.b) * (g.b + f.b) = 4 * (g.a * g.c) - 4 * (f.a * f.c) := by
    have : (g.b - f.b) * (g.b + f.b) = g.b * g.b - f.b * f.b := by grind
    omega
  refine Int.tdiv_mul_cancel ?_
  have h2 : (2 : Int) ∣ (g.b - f.b) * (g.b + f.b) := by rw [e3]; omega
  have h3 : (g.b - f.b) % 2 = 0 ∨ (g.b - f.b) % 2 = 1 := by omega
  rcases h3 with h3 | h3
  · omega
  · exfalso
    obtain ⟨p, hp⟩ : ∃ p, g.b - f.b = 2 * p + 1 := ⟨(g.b - f.b) / 2, by omega⟩
    have hq : g.b + f.b = 2 * (p + f.b) + 1 := by omega
    rw [hp, hq] at h2
    have : (2 * p + 1) * (2 * (p + f.b) + 1) = 2 * (2 * (p * (p + f.b)) + p + (p + f.b)) + 1 := by grind
    omega
theorem kOf_spec {f g : F} {u : Int} (hd : g.disc = f.disc) (hu : ∃ k, u * f.a = 1 + k * g.a) : ∃ t, f.b + 2 * f.a * kOf f g u = g.b + 2 * g.a * t := by
  obtain ⟨k, hk⟩ := hu
  have he := even_diff hd
  unfold kOf
  generalize (g.b - f.b).tdiv 2 = e at *
  have h1 := Int.tmod_add_mul_tdiv e g.a
  have h2 := Int.tmod_add_mul_tdiv (e.tmod g.a * u) g.a
  generalize e.tmod g.a = r at *
  generalize (r * u).tmod g.a = K at *
  generalize e.tdiv g.a = q1 at *
  generalize (r * u).tdiv g.a = q2 at *
  refine ⟨r * k - q1 - f.a * q2, ?_⟩
  have e1 : f.a * K = r + r * k * g.a - f.a * (g.a * q2) := by
    have : K = r * u - g.a * q2 := by omega
    rw [this]
    have : f.a * (r * u - g.a * q2) = r * (u * f.a) - f.a * (g.a * q2) := by grind
    rw [this, hk]
    grind
  have e2 : 2 * f.a * K = 2 * (f.a * K) := by grind
  have e3 : g.b - f.b = 2 * r + 2 * (g.a * q1) := by omega
  rw [e2, e1]
  grind
theorem kOf_bd {f g : F} {u : Int} (ha : 0 < g.a) : -g.a < kOf f g u ∧ kOf f g u < g.a := by
  unfold kOf
  have := tmod_lt (a := (g.b - f.b).tdiv 2 |>.tmod g.a |>.mul u) (b := g.a) (by omega)
  have e : ((g.b - f.b).tdiv 2 |>.tmod g.a |>.mul u) = (((g.b - f.b).tdiv 2).tmod g.a) * u := rfl
  rw [e] at this
  omega
set_option maxHeartbeats 4000000 in
theorem compose_p {f g : F} (h : Can f g) : ∃ r, Cmp f g r ∧ PC Try.prog 53 [fA f, fA g] (fA r) := by
  obtain ⟨pf, pg, bf, bg, cf, cg, hd, hd4⟩ := h
  have cd := disc_p bf (by decide)
  have c1 := reduce_p pf bf (by decide) (by decide)
  have c2 := reduce_p pg bg (by decide) (by decide)
  have sf := Sim.rd pf
  have sg := Sim.rd pg
  have rf := (rd_spec pf).1
  have rg := (rd_spec pg).1
  have kf := sd_of rf (by rw [sf.disc]; exact hd4)
  have kg := sd_of rg (by rw [sg.disc, hd]; exact hd4)
  obtain ⟨m, m1, m2, m3, c3⟩ := unite_p kg (by rw [sg.ct]; exact cg) rf.pos.a kf.a
  have sG : Sim g (g.rd.by m) := sg.trans ⟨m, m1, rfl⟩
  have pG := sG.pos pg
  have hGd : (g.rd.by m).disc = f.rd.disc := by rw [sG.disc, hd, sf.disc]
  have hGa : (g.rd.by m).a ≤ 10000000 := by
    have x1 := bmul (bmul (show Bd 36 g.rd.a by have := kg.a; have := rg.pos.a; unfold Bd; omega) m3.a) m3.a
    have x2 := bmul (bmul kg.b m3.a) m3.c
    have x3 := bmul (bmul kg.bd.c m3.c) m3.c
    show g.rd.val m.a m.c ≤ _
    unfold F.val Bd at *
    omega
  have hGb : Bd 100000000 (g.rd.by m).b := by
    have x1 := bmul (bmul (show Bd 2800 (2 * g.rd.a) by have := kg.bd.a; unfold Bd at *; omega) m3.a) m3.b
    have x2 := bmul kg.bd.b (show Bd 20000 (m.a * m.d + m.b * m.c) by
      have y1 := bmul m3.a m3.d
      have y2 := bmul m3.b m3.c
      unfold Bd at *
      omega)
    have x3 := bmul (bmul (show Bd 2800 (2 * g.rd.c) by have := kg.bd.c; unfold Bd at *; omega) m3.c) m3.d
    show Bd _ (2 * g.rd.a * m.a * m.b + g.rd.b * (m.a * m.d + m.b * m.c) + 2 * g.rd.c * m.c * m.d)
    unfold Bd at *
    omega
  have hfd : f.rd.disc = f.disc := sf.disc
  generalize g.rd.by m = G at *
  generalize hF : f.rd = F0 at *
  have gcdc : gI F0.a G.a = 1 := by unfold gI at *; rw [Nat.gcd_comm]; exact m2
  have hFa := rf.pos.a
  have hGa0 := pG.a
  have kfa := kf.a
  obtain ⟨u, u0, u1, ⟨uk, huk⟩, c4⟩ := inverse_p (x := F0.a) (m := G.a) (by unfold Bd; omega) hGa0 (by omega) gcdc
  obtain ⟨t, ht⟩ := kOf_spec (f := F0) (g := G) (u := u) hGd ⟨uk, huk⟩
  obtain ⟨K1, K2⟩ := kOf_bd (f := F0) (g := G) (u := u) hGa0
  obtain ⟨hdv, hco⟩ := co_mk rf.pos pG ⟨u, -uk, by rw [huk]; grind⟩ hGd (b := F0.b + 2 * F0.a * kOf F0 G u) ⟨_, rfl⟩ ⟨t, ht⟩
  refine ⟨_, ⟨F0, G, _, sf, sG, hco, rfl⟩, ?_⟩
  have hpo := hco.pos
  have hfb := kf.b
  have b1 := rf.b1
  have b2 := rf.b2
  have hAp := Int.mul_pos hFa hGa0
  have hA := bmul (show Bd 36 F0.a by unfold Bd; omega) (show Bd 10000000 G.a by unfold Bd; omega)
  have hK : kOf F0 G u = ((((G.b - F0.b).tdiv 2).tmod G.a) * u).tmod G.a := rfl
  have hr := tmod_lt (a := (G.b - F0.b).tdiv 2) (b := G.a) (by omega)
  have hm1 := bmul (show Bd 10000000 (((G.b - F0.b).tdiv 2).tmod G.a) by unfold Bd; omega) (show Bd 10000000 u by unfold Bd; omega)
  have hFK := bmul (show Bd 36 F0.a by unfold Bd; omega) (show Bd 10000000 (kOf F0 G u) by unfold Bd; omega)
  have hFKs : -(F0.a * G.a) + F0.a ≤ F0.a * kOf F0 G u ∧ F0.a * kOf F0 G u ≤ F0.a * G.a - F0.a := by
    have x1 := Int.mul_le_mul_of_nonneg_left (show kOf F0 G u ≤ G.a - 1 by omega) (show 0 ≤ F0.a by omega)
    have x2 := Int.mul_le_mul_of_nonneg_left (show 1 - G.a ≤ kOf F0 G u by omega) (show 0 ≤ F0.a by omega)
    rw [Int.mul_sub, Int.mul_one] at x1 x2
    omega
  have e2K : 2 * F0.a * kOf F0 G u = 2 * (F0.a * kOf F0 G u) := by grind
  have hev := even_diff hGd
  have hB : Bd (2 * (F0.a * G.a)) (F0.b + 2 * F0.a * kOf F0 G u) := by unfold Bd; omega
  have hBB := bmul hB hB
  have hBb : Bd 720000000 (F0.b + 2 * F0.a * kOf F0 G u) := by unfold Bd at hA ⊢; omega
  have hBB2 := bmul hBb hBb
  have hce : (F0.b + 2 * F0.a * kOf F0 G u) * (F0.b + 2 * F0.a * kOf F0 G u) - F0.disc = 4 * (F0.a * G.a) * (((F0.b + 2 * F0.a * kOf F0 G u) * (F0.b + 2 * F0.a * kOf F0 G u) - F0.disc) / (4 * (F0.a * G.a))) := (Int.mul_ediv_cancel' hdv).symm
  have hct : ((F0.b + 2 * F0.a * kOf F0 G u) * (F0.b + 2 * F0.a * kOf F0 G u) - F0.disc).tdiv (4 * (F0.a * G.a)) = ((F0.b + 2 * F0.a * kOf F0 G u) * (F0.b + 2 * F0.a * kOf F0 G u) - F0.disc) / (4 * (F0.a * G.a)) := Int.tdiv_eq_ediv_of_dvd hdv
  have hd0 := hfd
  generalize ((F0.b + 2 * F0.a * kOf F0 G u) * (F0.b + 2 * F0.a * kOf F0 G u) - F0.disc) / (4 * (F0.a * G.a)) = C at *
  have hcp : 0 < C := hpo.c
  have hcb : C ≤ F0.a * G.a + 1000 := by
    refine Classical.byContradiction fun hn => ?_
    have x1 := Int.mul_le_mul_of_nonneg_left (show F0.a * G.a + 1001 ≤ C by omega) (show 0 ≤ 4 * (F0.a * G.a) by omega)
    have x2 : 4 * (F0.a * G.a) * (F0.a * G.a + 1001) = 2 * (F0.a * G.a) * (2 * (F0.a * G.a)) + 4004 * (F0.a * G.a) := by grind
    have x3 : -4000 ≤ F0.disc := kf.d
    unfold Bd at hBB
    omega
  have c5 := reduce_p (f := ⟨F0.a * G.a, F0.b + 2 * F0.a * kOf F0 G u, C⟩) (N := 1000000000) hpo ⟨by unfold Bd at *; simp only; omega, by unfold Bd at *; simp only; omega, by unfold Bd at *; simp only; omega⟩ (by decide) (by decide)
  rw [hfd] at hce hct
  have hdl := hd4
  have hdu := pf.d
  clear hco hpo hdv ht m2 gcdc hce hGd sG sf sg rf rg kf kg bf bg cf cg m3 m1 hF huk
  generalize f.disc = d at *
  generalize hrd : (F.rd ⟨F0.a * G.a, F0.b + 2 * F0.a * kOf F0 G u, C⟩) = R at *
  generalize (F.rm ⟨F0.a * G.a, F0.b + 2 * F0.a * kOf F0 G u, C⟩) = RM at *
  rw [show fA ⟨F0.a * G.a, F0.b + 2 * F0.a * kOf F0 G u, C⟩ = .agg [iV (F0.a * G.a), iV (F0.b + 2 * F0.a * kOf F0 G u), iV C] from rfl] at c5
  generalize kOf F0 G u = K at *
  generalize f.rm = RF at *
  generalize g.rm = RG at *
  generalize g.rd = G0 at *
  clear hrd
  generalize he : (G.b - F0.b).tdiv 2 = e at *
  generalize hre : e.tmod G.a = r at *
  unfold Bd at *
  have w1 : IntKind.i64.wrap ((G.b - F0.b).tdiv 2) = e := by rw [he]; exact w64 (by omega) (by omega)
  have w2 : IntKind.i64.wrap (((F0.b + 2 * F0.a * K) * (F0.b + 2 * F0.a * K) - d).tdiv (4 * (F0.a * G.a))) = C := by rw [hct]; exact w64 (by omega) (by omega)
  clear hct he hBB hB
  refine pc_body1 true Try.func53 rfl rfl rfl (Nat.le_of_ble_eq_true rfl) (CellT.agg agg_F) ?_
  refine goA ?_
  refine evG ggA (ss_call (InB_of rfl) rfl rfl cd) ?_
  refine goA ?_
  refine evG ggA (ss_call (InB_of rfl) rfl rfl c1) ?_
  refine goA ?_
  refine evG ggA (ss_call (InB_of rfl) rfl rfl c2) ?_
  refine goA ?_
  refine evG ggA (ss_call (InB_of rfl) rfl rfl c3) ?_
  refine goA ?_
  refine evG ggA (ss_call (InB_of rfl) rfl rfl c4) ?_
  refine goA ?_
  refine evG ggA (ss_div (InB_of rfl) rfl rfl (by omega) w1) ?_
  refine goA ?_
  refine evG ggA (ss_div (op := .rem) (InB_of rfl) rfl rfl (by omega) hre) ?_
  refine goA ?_
  refine evG ggA (ss_div (op := .rem) (InB_of rfl) rfl rfl (by omega) hK.symm) ?_
  refine goA ?_
  refine evG ggA (ss_div (InB_of rfl) rfl rfl (by omega) w2) ?_
  refine goA ?_
  refine evG ggA (ss_call (InB_of rfl) rfl rfl c5) ?_
  refine goA ?_
  exact rfl
def compC (f g : F) : Int := if chk f ≠ 0 then chk f else if chk g ≠ 0 then chk g else if f.disc < -4000 ∨ g.disc < -4000 then 2 else if 1 < ctI f ∨ 1 < ctI g then 3 else if f.disc ≠ g.disc then 24 else 0
theorem compC_zero {f g : F} (h : compC f g = 0) : Can f g := by
  unfold compC at h
  split at h
  · exact absurd h (by assumption)
  rename_i h1
  split at h
  · exact absurd h (by assumption)
  rename_i h2
  split at h
  · cases h
  rename_i h3
  split at h
  · cases h
  rename_i h4
  split at h
  · cases h
  rename_i h5
  obtain ⟨p1, b1⟩ := chk_zero (show chk f = 0 by omega)
  obtain ⟨p2, b2⟩ := chk_zero (show chk g = 0 by omega)
  rw [ctI_eq, ctI_eq] at h4
  have := ct_pos p1
  have := ct_pos p2
  exact ⟨p1, p2, b1, b2, by omega, by omega, by omega, by omega⟩
set_option maxHeartbeats 2000000 in
theorem composable_p (f g : F) : PC Try.prog 52 [fA f, fA g] (iV (compC f g)) := by
  have c1 := check_p f
  have c2 := check_p g
  unfold compC
  by_cases h1 : chk f = 0
  case neg =>
    rw [if_pos h1]
    have k1 : (chk f != 0) = true := by simpa using h1
    generalize chk f = q at *
    refine pc_body1 true Try.func52 rfl rfl rfl (Nat.le_of_ble_eq_true rfl) CellT.tmp ?_
    refine goA ?_
    refine evG ggA (ss_call (InB_of rfl) rfl rfl c1) ?_
    refine goA ?_
    exact rfl
  rw [if_neg (by simpa using h1)]
  by_cases h2 : chk g = 0
  case neg =>
    rw [if_pos h2]
    have k1 : (chk g != 0) = true := by simpa using h2
    rw [h1] at c1
    generalize chk g = q at *
    refine pc_body1 true Try.func52 rfl rfl rfl (Nat.le_of_ble_eq_true rfl) CellT.tmp ?_
    refine goA ?_
    refine evG ggA (ss_call (InB_of rfl) rfl rfl c1) ?_
    refine goA ?_
    refine evG ggA (ss_call (InB_of rfl) rfl rfl c2) ?_
    refine goA ?_
    exact rfl
  rw [if_neg (by simpa using h2)]
  obtain ⟨p1, b1⟩ := chk_zero h1
  obtain ⟨p2, b2⟩ := chk_zero h2
  rw [h1] at c1
  rw [h2] at c2
  have d1 := disc_p b1 (by decide)
  have d2 := disc_p b2 (by decide)
  have t1 := content_p (b1.mono (by decide))
  have t2 := content_p (b2.mono (by decide))
  clear h1 h2 p1 p2 b1 b2
  refine pc_body1 true Try.func52 rfl rfl rfl (Nat.le_of_ble_eq_true rfl) CellT.tmp ?_
  refine goA ?_
  refine evG ggA (ss_call (InB_of rfl) rfl rfl c1) ?_
  refine goA ?_
  refine evG ggA (ss_call (InB_of rfl) rfl rfl c2) ?_
  refine goA ?_
  refine evG ggA (ss_call (InB_of rfl) rfl rfl d1) ?_
  refine runA ?_
  by_cases h3 : f.disc < -4000
  case pos =>
    rw [if_pos (.inl h3)]
    have k : decide (f.disc < -4000) = true := by simpa using h3
    refine goA ?_
    exact rfl
  have k3 : decide (f.disc < -4000) = false := by simpa using h3
  refine goA ?_
  refine evG ggA (ss_call (InB_of rfl) rfl rfl d2) ?_
  refine runA ?_
  by_cases h4 : g.disc < -4000
  case pos =>
    rw [if_pos (.inr h4)]
    have k : decide (g.disc < -4000) = true := by simpa using h4
    refine goA ?_
    exact rfl
  have k4 : decide (g.disc < -4000) = false := by simpa using h4
  rw [if_neg (by omega)]
  refine goA ?_
  refine evG ggA (ss_call (InB_of rfl) rfl rfl t1) ?_
  refine runA ?_
  by_cases h5 : 1 < ctI f
  case pos =>
    rw [if_pos (.inl h5)]
    have k : decide (ctI f > 1) = true := by simpa using h5
    refine goA ?_
    exact rfl
  have k5 : decide (ctI f > 1) = false := by simpa using h5
  refine goA ?_
  refine evG ggA (ss_call (InB_of rfl) rfl rfl t2) ?_
  refine runA ?_
  by_cases h6 : 1 < ctI g
  case pos =>
    rw [if_pos (.inr h6)]
    have k : decide (ctI g > 1) = true := by simpa using h6
    refine goA ?_
    exact rfl
  have k6 : decide (ctI g > 1) = false := by simpa using h6
  rw [if_neg (by omega)]
  refine goA ?_
  refine evG ggA (ss_call (InB_of rfl) rfl rfl d1) ?_
  refine goA ?_
  refine evG ggA (ss_call (InB_of rfl) rfl rfl d2) ?_
  refine runA ?_
  by_cases h7 : f.disc = g.disc
  case neg =>
    rw [if_pos h7]
    have k : (f.disc != g.disc) = true := by simpa using h7
    refine goA ?_
    exact rfl
  have k7 : (f.disc != g.disc) = false := by simpa using h7
  rw [if_neg (by simpa using h7)]
  refine goA ?_
  exact rfl
/-- Compose: a fixed form where it can, by its properties -/
theorem Compose_p (f g : F) : (compC f g = 0 → ∃ r, Cmp f g r ∧ PC Try.prog 14 [fA f, fA g] (.tup [fA r, iV 0])) ∧ (compC f g ≠ 0 → PC Try.prog 14 [fA f, fA g] (.tup [fA ⟨0, 0, 0⟩, iV (compC f g)])) := by
  have c1 := composable_p f g
  constructor
  · intro h
    obtain ⟨r, hr, c2⟩ := compose_p (compC_zero h)
    refine ⟨r, hr, ?_⟩
    rw [h] at c1
    refine pc_body2 true Try.func14 rfl rfl rfl (Nat.le_of_ble_eq_true rfl) (CellT.agg agg_F) CellT.tmp ?_
    refine goA ?_
    refine evG ggA (ss_call (InB_of rfl) rfl rfl c1) ?_
    refine goA ?_
    refine evG ggA (ss_call (InB_of rfl) rfl rfl c2) ?_
    refine goA ?_
    exact rfl
  · intro h
    have k : (compC f g != 0) = true := by simpa using h
    generalize compC f g = c at *
    refine pc_body2 true Try.func14 rfl rfl rfl (Nat.le_of_ble_eq_true rfl) (CellT.agg agg_F) CellT.tmp ?_
    refine goA ?_
    refine evG ggA (ss_call (InB_of rfl) rfl rfl c1) ?_
    refine goA ?_
    exact rfl
end Ab
