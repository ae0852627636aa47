/- Residues, the extended algorithm of Euclid, inverses: walked. -/
import Derived.Test.YtajlkcnlfiikeaaQwL
set_option linter.all false
namespace Ab
open Go Go.RowKit Go.Proofs Qf
set_option maxRecDepth 100000

theorem results4 {P : Program} {fn : Func} {r1 r2 r3 r4 : ResultVar} {a : Act} {w : World} {v1 v2 v3 v4 : Value} (hres : fn.results = #[r1, r2, r3, r4]) (h1 : (varRun a r1).run P w = .ok v1 w) (h2 : (varRun a r2).run P w = .ok v2 w) (h3 : (varRun a r3).run P w = .ok v3 w) (h4 : (varRun a r4).run P w = .ok v4 w) : (results fn a.tmps).run P w = .ok (.tuple #[v1, v2, v3, v4]) w := by
  have e : results fn a.tmps = (do let vs ← fn.results.mapM (varRun a); pure (if h : vs.size = 1 then vs[0] else .tuple vs)) := rfl
  rw [e, hres]
  simp [h1, h2, h3, h4]
theorem pc_body4 {dm : Bool} {P : Program} {f : FuncId} {fn : Func} {c : Code} {args : List AV} {a1 a2 a3 a4 : AV} {r1 r2 r3 r4 : ResultVar} (nd : Bool) (hf : P.funcs[f]? = some fn) (hname : (fn.name == "runtime.NumGoroutine") = false) (hb : fn.body = some c) (hres : fn.results = #[r1, r2, r3, r4]) (hn : args.length ≤ fn.ntmps) (ht1 : CellT P r1 a1) (ht2 : CellT P r2 a2) (ht3 : CellT P r3 a3) (ht4 : CellT P r4 a4)
    (hT : T dm P c (start args fn.ntmps nd) (resQ [r1, r2, r3, r4] (.tup [a1, a2, a3, a4]))) : PCD dm P f args (.tup [a1, a2, a3, a4]) := by
  refine ⟨⟨fn, hf, hname, by rw [hb]; rfl⟩, fun w M hM vs hvs => ?_⟩
  refine calls_of_wp hf hb (Code.wp_mono (fun x a' w' hx => ?_) (hT w (.of M) (.of hM) _ w (start_rel nd hvs hn)))
  obtain ⟨s', h1, ρ, h2⟩ := hx
  have key : (resL s' [r1, r2, r3, r4]).map wrapR = some (.tup [a1, a2, a3, a4]) → a'.defers = [] ∧ ∃ v, (results fn a'.tmps).run P w' = .ok v w' ∧ ∃ v', Ending.returned v = .returned v' ∧ Below w.heap.size w w' ∧ Rep w' M (.tup [a1, a2, a3, a4]) v' := by
    intro h
    cases hq : resL s' [r1, r2, r3, r4] with
    | none => rw [hq] at h; cases h
    | some l =>
      rw [hq] at h
      obtain ⟨b1, q1, rfl, g1, g2⟩ := resL_cons hq
      obtain ⟨b2, q2, rfl, g3, g4⟩ := resL_cons g2
      obtain ⟨b3, q3, rfl, g5, g6⟩ := resL_cons g4
      obtain ⟨b4, q4, rfl, g7, g8⟩ := resL_cons g6
      simp [resL] at g8
      subst g8
      simp [wrapR] at h
      obtain ⟨rfl, rfl, rfl, rfl⟩ := h
      obtain ⟨v1, k1, k2⟩ := resV_run (P := P) h2 g1 ht1
      obtain ⟨v2, k3, k4⟩ := resV_run (P := P) h2 g3 ht2
      obtain ⟨v3, k5, k6⟩ := resV_run (P := P) h2 g5 ht3
      obtain ⟨v4, k7, k8⟩ := resV_run (P := P) h2 g7 ht4
      refine ⟨h2.defers, _, results4 (P := P) (a := a') hres k1 k3 k5 k7, _, rfl, h2.below.to, ?_⟩
      refine .tup _ _ rfl (fun i c v hi hv => ?_)
      rcases i with _ | _ | _ | _ | i
      · simp at hi hv; subst hi hv; exact Rep.mono (Keeps.refl _ _) (fun b _ h => .inl h) k2
      · simp at hi hv; subst hi hv; exact Rep.mono (Keeps.refl _ _) (fun b _ h => .inl h) k4
      · simp at hi hv; subst hi hv; exact Rep.mono (Keeps.refl _ _) (fun b _ h => .inl h) k6
      · simp at hi hv; subst hi hv; exact Rep.mono (Keeps.refl _ _) (fun b _ h => .inl h) k8
      · simp at hi
  cases x with
  | normal => exact key h1
  | ret => exact key h1
  | _ => exact h1.elim
theorem inRange_p (m : Int) : PC Try.prog 75 [iV m] (bV (decide (1 ≤ m ∧ m ≤ 2147483647))) := by
  refine pc_body1 true Try.func75 rfl rfl rfl (Nat.le_of_ble_eq_true rfl) CellT.tmp ?_
  refine runA ?_
  by_cases h : 1 ≤ m
  · have k : decide (m ≥ 1) = true := by simpa using h
    have e : decide (1 ≤ m ∧ m ≤ 2147483647) = decide (m ≤ 2147483647) := by simp [h]
    rw [e]
    refine goA ?_
    exact rfl
  · have k : decide (m ≥ 1) = false := by simpa using h
    have e : decide (1 ≤ m ∧ m ≤ 2147483647) = false := by simp [h]
    rw [e]
    refine goA ?_
    exact rfl
theorem emod_t {x m : Int} (hm : 0 < m) : x % m = if x.tmod m < 0 then x.tmod m + m else x.tmod m := by
  have h1 := Int.emod_emod_of_dvd (x.tmod m) (Int.dvd_refl m)
  have h2 : x.tmod m % m = x % m := by rw [Int.tmod_def, Int.sub_mul_emod_self_left]
  have h3 := tmod_lt (a := x) (b := m) (by omega)
  rw [← h2]
  split
  · rw [← Int.add_emod_right, Int.emod_eq_of_lt (by omega) (by omega)]
  · rw [Int.emod_eq_of_lt (by omega) (by omega)]
theorem residue_p {x m : Int} (hx : Bd 4000000000000000000 x) (hm : 0 < m) (hm2 : m ≤ 1000000000000) : PC Try.prog 100 [iV x, iV m] (iV (x % m)) := by
  rw [emod_t hm]
  have h3 := tmod_lt (a := x) (b := m) (by omega)
  unfold Bd at hx
  refine pc_body1 true Try.func100 rfl rfl rfl (Nat.le_of_ble_eq_true rfl) CellT.tmp ?_
  refine goA ?_
  refine evG ggA (ss_div (op := .rem) (InB_of rfl) rfl rfl (by omega) rfl) ?_
  refine runA ?_
  by_cases h : x.tmod m < 0
  · have k : decide (x.tmod m < 0) = true := by simpa using h
    rw [if_pos h]
    refine goA ?_
    exact rfl
  · have k : decide (x.tmod m < 0) = false := by simpa using h
    rw [if_neg h]
    refine goA ?_
    exact rfl
/-- what the algorithm keeps -/
structure XI (a b g nx u n : Int) : Prop where
  g0 : 0 ≤ g
  n0 : 0 ≤ nx
  gd : gI g nx = gI a b
  c1 : ∃ k, g = u * a + k * b
  c2 : ∃ k, nx = n * a + k * b
  bd : u.natAbs * nx.natAbs + n.natAbs * g.natAbs ≤ b.natAbs
  bu : u.natAbs ≤ b.natAbs
  bn : n.natAbs ≤ b.natAbs
  gm : g ≤ max a b
  nm : nx ≤ max a b
theorem XI.step {a b g nx u n : Int} (h : XI a b g nx u n) (hn : 0 < nx) : XI a b nx (g.tmod nx) n (u - g.tdiv nx * n) := by
  obtain ⟨k1, e1⟩ := h.c1
  obtain ⟨k2, e2⟩ := h.c2
  have hg := h.g0
  have hd : g.tmod nx = g - nx * g.tdiv nx := Int.tmod_def ..
  have hr0 : 0 ≤ g.tmod nx := Int.tmod_nonneg _ hg
  have hr1 := tmod_lt (a := g) (b := nx) (by omega)
  have hq0 : 0 ≤ g.tdiv nx := Int.tdiv_nonneg hg (by omega)
  have hbd := h.bd
  generalize g.tdiv nx = q at *
  have hrm : gI nx (g.tmod nx) = gI a b := by rw [gI_step, h.gd]
  generalize g.tmod nx = r at *
  have key : n.natAbs * r.natAbs + (u - q * n).natAbs * nx.natAbs ≤ b.natAbs := by
    refine Nat.le_trans ?_ hbd
    have t1 : (u - q * n).natAbs ≤ u.natAbs + q.natAbs * n.natAbs := by
      have := Int.natAbs_sub_le u (q * n)
      rw [Int.natAbs_mul] at this
      exact this
    have t2 := Nat.mul_le_mul_right nx.natAbs t1
    have t3 : g.natAbs = r.natAbs + nx.natAbs * q.natAbs := by
      rw [← Int.natAbs_mul]
      have := Int.mul_nonneg (show 0 ≤ nx by omega) hq0
      omega
    rw [t3]
    have t4 : u.natAbs * nx.natAbs + n.natAbs * (r.natAbs + nx.natAbs * q.natAbs) = n.natAbs * r.natAbs + (u.natAbs + q.natAbs * n.natAbs) * nx.natAbs := by grind
    rw [t4]
    omega
  refine ⟨by omega, hr0, hrm, ⟨k2, e2⟩, ⟨k1 - q * k2, ?_⟩, key, h.bn, ?_, h.nm, ?_⟩
  · rw [hd, e1]
    have : nx * q = q * (n * a + k2 * b) := by rw [← e2, Int.mul_comm]
    rw [this]
    grind
  · have : (u - q * n).natAbs * 1 ≤ (u - q * n).natAbs * nx.natAbs := Nat.mul_le_mul_left _ (by omega)
    omega
  · have := h.nm
    omega
def xgL : Nat → Int → Int → Int → Int → Int
  | 0, _, _, u, _ => u
  | k + 1, g, nx, u, n => if nx = 0 then u else xgL k nx (g.tmod nx) n (u - g.tdiv nx * n)
theorem xgL_spec {a b : Int} : ∀ k g nx u n, XI a b g nx u n → nx.natAbs ≤ k → ∃ g' n', XI a b g' 0 (xgL k g nx u n) n'
  | 0, g, nx, u, n, h, hk => by
    obtain rfl : nx = 0 := by omega
    exact ⟨g, n, h⟩
  | k + 1, g, nx, u, n, h, hk => by
    rw [xgL]
    split
    · rename_i e
      subst e
      exact ⟨g, n, h⟩
    · rename_i e
      have := h.n0
      have h3 := tmod_lt (a := g) (b := nx) e
      exact xgL_spec k _ _ _ _ (h.step (by omega)) (by omega)
theorem XI.init {a b : Int} (ha : 0 ≤ a) (hb : 0 < b) : XI a b a b 1 0 :=
  ⟨ha, by omega, rfl, ⟨0, by simp⟩, ⟨1, by simp⟩, by simp, by simp; omega, by simp, by omega, by omega⟩
/-- the inverse, as the algorithm finds it -/
def xgU (a b : Int) : Int := xgL b.natAbs a b 1 0 % (b / gI a b)
def xgV (a b : Int) : Int := (gI a b - xgU a b * a) / b
theorem gI_pos {a b : Int} (hb : 0 < b) : 0 < gI a b := by
  have := Int.gcd_pos_of_ne_zero_right a (show b ≠ 0 by omega)
  unfold gI
  unfold Int.gcd at this
  omega
theorem xg_spec {a b : Int} (ha : 0 ≤ a) (hb : 0 < b) : 0 < b / gI a b ∧ 0 ≤ xgU a b ∧ xgU a b < b ∧ b ∣ gI a b - xgU a b * a ∧ gI a b = xgU a b * a + xgV a b * b := by
  obtain ⟨g, n, h⟩ := xgL_spec b.natAbs a b 1 0 (XI.init ha hb) (Nat.le_refl _)
  have hg : gI a b = g := by
    rw [← h.gd, gI_zero]
    have := h.g0
    omega
  obtain ⟨k, hk⟩ := h.c1
  have hp := gI_pos (a := a) hb
  have d1 : gI a b ∣ a := Int.gcd_dvd_left ..
  have d2 : gI a b ∣ b := Int.gcd_dvd_right ..
  obtain ⟨s, hs⟩ := d1
  obtain ⟨t, ht⟩ := d2
  have hbt : b / gI a b = t := Int.ediv_eq_of_eq_mul_right (by omega) ht
  have ht0 : 0 < t := by
    refine pos_of_mul hp ?_
    omega
  have htb : t ≤ b := by
    have := Int.mul_le_mul_of_nonneg_right (show 1 ≤ gI a b by omega) (show 0 ≤ t by omega)
    omega
  have hu : xgU a b = xgL b.natAbs a b 1 0 % t := by unfold xgU; rw [hbt]
  generalize xgL b.natAbs a b 1 0 = U at *
  have hm := Int.mul_ediv_add_emod U t
  rw [← hu] at hm
  have h1 : 0 ≤ xgU a b := by rw [hu]; exact Int.emod_nonneg _ (by omega)
  have h2 : xgU a b < t := by rw [hu]; exact Int.emod_lt_of_pos _ ht0
  have hd : b ∣ gI a b - xgU a b * a := by
    refine ⟨k + U / t * s, ?_⟩
    have e1 : gI a b = U * a + k * b := by rw [hg]; exact hk
    have e2 : t * a = b * s := by
      have f1 : t * a = t * (gI a b * s) := congrArg (t * ·) hs
      have f2 : b * s = gI a b * t * s := congrArg (· * s) ht
      rw [f1, f2]
      grind
    have e3 : t * (U / t) * a = b * (U / t * s) := by
      have : t * (U / t) * a = t * a * (U / t) := by grind
      rw [this, e2]
      grind
    have e4 : U * a = t * (U / t) * a + xgU a b * a := by rw [← Int.add_mul, hm]
    rw [e1, e4, e3]
    grind
  refine ⟨by omega, h1, by omega, hd, ?_⟩
  have := Int.ediv_mul_cancel hd
  unfold xgV
  omega
theorem xgV_bd {a b : Int} (ha : 0 ≤ a) (hb : 0 < b) : -a - 1 ≤ xgV a b ∧ xgV a b ≤ b := by
  obtain ⟨h1, h2, h3, h4, h5⟩ := xg_spec ha hb
  have d2 : gI a b ∣ b := Int.gcd_dvd_right ..
  have hle : gI a b ≤ b := Int.le_of_dvd hb d2
  have hp := gI_pos (a := a) hb
  have hua := Int.mul_nonneg h2 ha
  have hub := Int.mul_le_mul_of_nonneg_right (show xgU a b ≤ b by omega) ha
  have e1 : xgV a b * b ≤ 1 * b := by omega
  have e2 : -a * b ≤ xgV a b * b := by
    have : -a * b = -(b * a) := by grind
    omega
  have q1 := Int.le_of_mul_le_mul_right e1 hb
  have q2 := Int.le_of_mul_le_mul_right e2 hb
  omega
theorem xgV_exact {a b : Int} (ha : 0 ≤ a) (hb : 0 < b) : (gI a b - xgU a b * a).tdiv b = xgV a b := Int.tdiv_eq_ediv_of_dvd (xg_spec ha hb).2.2.2.1
set_option maxHeartbeats 4000000 in
theorem xgcd_p {a b : Int} (ha : 0 ≤ a) (ha1 : a ≤ 1000000000) (hb : 0 < b) (hb1 : b ≤ 1000000000) : PC Try.prog 99 [iV a, iV b] (.tup [iV (gI a b), iV (xgU a b), iV (xgV a b), iV 0]) := by
  have hv := xgV_bd ha hb
  obtain ⟨h1, h2, h3, h4, h5⟩ := xg_spec ha hb
  have hex := xgV_exact ha hb
  obtain ⟨gf, nf, hf⟩ := xgL_spec b.natAbs a b 1 0 (XI.init ha hb) (Nat.le_refl _)
  have hUb := hf.bu
  clear hf gf nf
  have hgp := gI_pos (a := a) hb
  have d2 : gI a b ∣ b := Int.gcd_dvd_right ..
  have hgle : gI a b ≤ b := Int.le_of_dvd hb d2
  have hdiv : (max b (0 - b)).tdiv (gI a b) = b / gI a b := by rw [show max b (0 - b) = b by omega]; exact Int.tdiv_eq_ediv_of_dvd d2
  have hdb : b / gI a b ≤ b := Int.ediv_le_self _ (by omega)
  have cr := residue_p (x := xgL b.natAbs a b 1 0) (m := b / gI a b) (by unfold Bd; omega) h1 (by omega)
  have hU : xgL b.natAbs a b 1 0 % (b / gI a b) = xgU a b := rfl
  rw [hU] at cr
  have q1 := bmul (show Bd 1000000000 (xgU a b) by unfold Bd; omega) (show Bd 1000000000 a by unfold Bd; omega)
  unfold Bd at q1
  have hxi := XI.init ha hb
  clear hU h5
  obtain ⟨U, hl0⟩ : ∃ U, xgL b.natAbs a b 1 0 = U := ⟨_, rfl⟩
  rw [hl0] at cr hUb
  generalize xgV a b = V at *
  generalize xgU a b = R at *
  have b0 : (b == 0) = false := by simp; omega
  have k1 : decide (a < -2147483647) = false := by simp; omega
  have k2 : decide (a > 2147483647) = false := by simp; omega
  have k3 : decide (b < -2147483647) = false := by simp; omega
  have k4 : decide (b > 2147483647) = false := by simp; omega
  refine pc_body4 true Try.func99 rfl rfl rfl (Nat.le_of_ble_eq_true rfl) CellT.tmp CellT.tmp CellT.tmp CellT.tmp ?_
  refine goA ?_
  refine T.loop (fun k s1 => ∃ g nx u n : Int, XI a b g nx u n ∧ nx.natAbs ≤ k ∧ xgL k g nx u n = U ∧ s1 = mkS [(0, .v (iV a)), (1, .v (iV b)), (4, .v (iV g)), (5, .v (iV u)), (6, .v (iV 0)), (7, .v (iV 0)), (8, .v (iV n)), (9, .v (iV nx))] [] 76 true) b.natAbs
    (s' := mkS [(0, .v (iV a)), (1, .v (iV b)), (4, .v (iV a)), (5, .v (iV 1)), (6, .v (iV 0)), (7, .v (iV 0)), (8, .v (iV 0)), (9, .v (iV b))] [] 76 true) (by exact entA) ⟨a, b, 1, 0, hxi, Nat.le_refl _, hl0, rfl⟩ ?_
  rintro k _ ⟨g, nx, u, n, hx, hk, hL, rfl⟩
  by_cases c : nx = 0
  · subst c
    have hb2 : ((0 : Int) != 0) = false := rfl
    have eu : xgL k g 0 u n = u := by cases k <;> rfl
    have eg : g = gI a b := by rw [← hx.gd, gI_zero]; have := hx.g0; omega
    rw [eu] at hL
    have hg0 : decide (g < 0) = false := by have := hx.g0; simp; omega
    rw [hL]
    clear eu hL hx hl0 hxi hk d2 h4
    subst eg
    generalize gI a b = g at *
    generalize b / g = B at *
    have hw : IntKind.i64.wrap ((max b (0 - b)).tdiv g) = B := by rw [hdiv]; exact w64 (by omega) (by omega)
    have hw2 : IntKind.i64.wrap ((g - R * a).tdiv b) = V := by rw [hex]; exact w64 (by omega) (by omega)
    clear hdiv hex
    refine goA ?_
    refine evG ggA (ss_div (InB_of rfl) rfl rfl (by omega) hw) ?_
    refine goA ?_
    refine evG ggA (ss_call (InB_of rfl) rfl rfl cr) ?_
    refine goA ?_
    refine evG ggA (ss_div (InB_of rfl) rfl rfl (by omega) hw2) ?_
    refine goA ?_
    exact rfl
  · have hb2 : (nx != 0) = true := by simpa using c
    have hst := hx.step (by have := hx.n0; omega)
    have hq := tdiv_bd (y := nx) (N := 1000000000) (x := g) (by have := hx.g0; have := hx.gm; unfold Bd; omega)
    have hn := hx.bn
    have hu := hx.bu
    have hnm := hx.nm
    have hgm := hx.gm
    have hn0 := hx.n0
    have hg0 := hx.g0
    have hlt := tmod_lt (a := g) c
    have q2 := bmul hq (show Bd 1000000000 n by unfold Bd; omega)
    have hmd : g.tmod nx = g - g.tdiv nx * nx := by rw [Int.tmod_def, Int.mul_comm]
    have hmn : 0 ≤ g.tmod nx := Int.tmod_nonneg _ hg0
    obtain ⟨k', rfl⟩ : ∃ k', k = k' + 1 := ⟨k - 1, by omega⟩
    rw [xgL, if_neg c] at hL
    rw [hmd] at hst hlt hL hmn
    unfold Bd at hq q2
    clear hx hmd
    obtain ⟨q, hqe⟩ : ∃ q, g.tdiv nx = q := ⟨_, rfl⟩
    rw [hqe] at hst hlt hL hmn hq q2
    have hwq : IntKind.i64.wrap (g.tdiv nx) = q := by rw [hqe]; exact w64 (by omega) (by omega)
    clear hqe
    refine goA ?_
    refine evG ggA (ss_div (InB_of rfl) rfl rfl (by omega) hwq) ?_
    refine goA ?_
    exact loopQ_intro (k := k') (s' := mkS [(0, .v (iV a)), (1, .v (iV b)), (4, .v (iV nx)), (5, .v (iV n)), (6, .v (iV 0)), (7, .v (iV 0)), (8, .v (iV (u - q * n))), (9, .v (iV (g - q * nx)))] [] 76 true) (by omega) (by exact entA) ⟨nx, g - q * nx, n, u - q * n, hst, by omega, hL, rfl⟩
theorem xgcd0_p {a : Int} (ha : 0 ≤ a) (ha1 : a ≤ 1000000000) : PC Try.prog 99 [iV a, iV 0] (.tup [iV a, iV (min a 1), iV 0, iV 0]) := by
  have k1 : decide (a < -2147483647) = false := by simp; omega
  have k2 : decide (a > 2147483647) = false := by simp; omega
  have k3 : decide (a < 0) = false := by simp; omega
  refine pc_body4 true Try.func99 rfl rfl rfl (Nat.le_of_ble_eq_true rfl) CellT.tmp CellT.tmp CellT.tmp CellT.tmp ?_
  refine goA ?_
  exact rfl
/-- the inverse of x modulo m, for coprime x and m -/
theorem inverse_p {x m : Int} (hx : Bd 1000000000 x) (hm : 0 < m) (hm1 : m ≤ 1000000000) (hg : gI x m = 1) : ∃ u, 0 ≤ u ∧ u < m ∧ (∃ k, u * x = 1 + k * m) ∧ PC Try.prog 82 [iV x, iV m] (.tup [iV u, iV 0]) := by
  have c1 := inRange_p m
  rw [decide_eq_true ⟨by omega, by omega⟩] at c1
  have c2 := residue_p (x := x) (m := m) (by unfold Bd at *; omega) hm (by omega)
  have r0 := Int.emod_nonneg x (show m ≠ 0 by omega)
  have r1 := Int.emod_lt_of_pos x hm
  have hg' : gI (x % m) m = 1 := by
    have d1 : gI (x % m) m ∣ x % m := Int.gcd_dvd_left ..
    have d2 : gI (x % m) m ∣ m := Int.gcd_dvd_right ..
    have d3 : gI (x % m) m ∣ x := by
      have e := Int.mul_ediv_add_emod x m
      have := Int.dvd_add (Int.dvd_mul_of_dvd_left (c := x / m) d2) d1
      rwa [e] at this
    have d4 : gI (x % m) m ∣ gI x m := Int.dvd_coe_gcd d3 d2
    rw [hg] at d4
    have := Int.le_of_dvd (by decide) d4
    have := gI_pos (a := x % m) hm
    omega
  have c3 := xgcd_p r0 (by omega) hm hm1
  obtain ⟨h1, h2, h3, h4, h5⟩ := xg_spec r0 hm
  rw [hg'] at c3 h5
  refine ⟨xgU (x % m) m, h2, h3, ?_, ?_⟩
  · have e := Int.mul_ediv_add_emod x m
    generalize xgV (x % m) m = V at *
    generalize xgU (x % m) m = U at *
    generalize x % m = r at *
    generalize x / m = q at *
    refine ⟨U * q - V, ?_⟩
    subst e
    grind
  · generalize xgV (x % m) m = V at *
    generalize xgU (x % m) m = U at *
    generalize x % m = r at *
    refine pc_body2 true Try.func82 rfl rfl rfl (Nat.le_of_ble_eq_true rfl) CellT.tmp CellT.tmp ?_
    refine goA ?_
    refine evG ggA (ss_call (InB_of rfl) rfl rfl c1) ?_
    refine goA ?_
    refine evG ggA (ss_call (InB_of rfl) rfl rfl c2) ?_
    refine goA ?_
    refine evG ggA (ss_call (InB_of rfl) rfl rfl c3) ?_
    refine goA ?_
    exact rfl
end Ab
