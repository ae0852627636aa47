/- The document's composition, and the statement QuadformComposes: walked. -/
import Derived.Test.YtajlkcnlfiikeaaQwU
set_option linter.all false
namespace Ab
open Go Go.RowKit Go.Proofs Qf
set_option maxRecDepth 100000

/-- a pair that will do -/
def gd (g : F) (n x y : Int) : Prop := gI x y = 1 ∧ gI (g.val x y) n = 1
theorem ex_pair {g : F} (hct : g.ct = 1) {n : Int} (hn : 0 < n) : ∃ X Y : Int, 0 < X ∧ X ≤ n ∧ 0 < Y ∧ Y ≤ n ∧ gd g n X Y := by
  obtain ⟨x0, y0, e1, e2, x1, x2, y1, y2⟩ := prim_val hct (a := n.natAbs) (by omega)
  refine ⟨x0, y0, by omega, by omega, by omega, by omega, ?_, ?_⟩
  · unfold gI
    simp only [Int.natAbs_natCast]
    rw [e1]
    rfl
  · unfold gI
    rw [e2]
    rfl
/-- the number d of the code -/
theorem ex_d {x y k : Int} (hk : 1 ≤ k) (hx : -k ≤ x ∧ x ≤ k) (hy : 0 ≤ y) (hg : gI x y = 1) : ∃ d, -k ≤ d ∧ d ≤ k + y ∧ (x * d - 1 = 0 ∨ (y ≠ 0 ∧ (x * d - 1).tmod y = 0)) := by
  by_cases h0 : y = 0
  · subst h0
    rw [gI_zero] at hg
    have : x = 1 ∨ x = -1 := by omega
    rcases this with rfl | rfl
    · exact ⟨1, by omega, by omega, .inl (by decide)⟩
    · exact ⟨-1, by omega, by omega, .inl (by decide)⟩
  · have hy0 : 0 < y := by omega
    have r0 := Int.emod_nonneg x (show y ≠ 0 by omega)
    have hg' : gI (x % y) y = 1 := by
      have d1 : gI (x % y) y ∣ x % y := Int.gcd_dvd_left ..
      have d2 : gI (x % y) y ∣ y := Int.gcd_dvd_right ..
      have d3 : gI (x % y) y ∣ x := by
        have e := Int.mul_ediv_add_emod x y
        have := Int.dvd_add (Int.dvd_mul_of_dvd_left (c := x / y) d2) d1
        rwa [e] at this
      have d4 : gI (x % y) y ∣ gI x y := Int.dvd_coe_gcd d3 d2
      rw [hg] at d4
      have := Int.le_of_dvd (by decide) d4
      have := gI_pos (a := x % y) hy0
      omega
    obtain ⟨h1, h2, h3, h4, h5⟩ := xg_spec r0 hy0
    rw [hg'] at h5
    generalize xgV (x % y) y = v at *
    generalize xgU (x % y) y = u at *
    have e := Int.mul_ediv_add_emod x y
    have m0 := Int.emod_nonneg (u + k) (show y ≠ 0 by omega)
    have m1 := Int.emod_lt_of_pos (u + k) hy0
    have m2 := Int.mul_ediv_add_emod (u + k) y
    refine ⟨(u + k) % y - k, by omega, by omega, .inr ⟨h0, ?_⟩⟩
    refine Int.tmod_eq_zero_of_dvd ⟨x / y * u - v - x * ((u + k) / y), ?_⟩
    have e2 : (u + k) % y - k = u - y * ((u + k) / y) := by omega
    rw [e2]
    generalize (u + k) / y = q at *
    generalize x % y = r at *
    generalize x / y = p at *
    subst e
    grind
theorem max3_eq {x y k : Int} (hy : 0 ≤ y) : max (max x (0 - x)) y = k ↔ (x ≤ k ∧ -k ≤ x ∧ y ≤ k ∧ (x = k ∨ x = -k ∨ y = k)) := by omega
theorem inv_ex {x m : Int} (hx : 0 ≤ x) (hm : 0 < m) (hg : gI x m = 1) : ∃ u k, u * x = 1 + k * m := by
  obtain ⟨-, -, -, -, h5⟩ := xg_spec hx hm
  rw [hg] at h5
  exact ⟨xgU x m, -xgV x m, by rw [Int.neg_mul]; omega⟩
/-- the number b of the code -/
theorem ex_b {F0 G : F} (pf : F0.Pos) (pG : G.Pos) (hd : G.disc = F0.disc) (hg : gI F0.a G.a = 1) : ∃ b, 0 ≤ b ∧ b < 2 * (F0.a * G.a) ∧ (b - F0.b).tmod (2 * F0.a) = 0 ∧ (b - G.b).tmod (2 * G.a) = 0 ∧ (b * b - F0.disc).tmod (4 * (F0.a * G.a)) = 0 := by
  have hfa := pf.a
  have hga := pG.a
  obtain ⟨u, k, hu⟩ := inv_ex (by omega) hga hg
  obtain ⟨t, ht⟩ := kOf_spec (f := F0) (g := G) (u := u) hd ⟨k, hu⟩
  have hA := Int.mul_pos hfa hga
  have h0 := Int.emod_nonneg (F0.b + 2 * F0.a * kOf F0 G u) (show 2 * (F0.a * G.a) ≠ 0 by omega)
  have h1 := Int.emod_lt_of_pos (F0.b + 2 * F0.a * kOf F0 G u) (show 0 < 2 * (F0.a * G.a) by omega)
  have h2 := Int.mul_ediv_add_emod (F0.b + 2 * F0.a * kOf F0 G u) (2 * (F0.a * G.a))
  generalize (F0.b + 2 * F0.a * kOf F0 G u) / (2 * (F0.a * G.a)) = q at *
  generalize (F0.b + 2 * F0.a * kOf F0 G u) % (2 * (F0.a * G.a)) = b at *
  generalize kOf F0 G u = K at *
  have d1 : b = F0.b + 2 * F0.a * (K - G.a * q) := by
    have : 2 * (F0.a * G.a) * q = 2 * F0.a * (G.a * q) := by grind
    have e : 2 * F0.a * (K - G.a * q) = 2 * F0.a * K - 2 * F0.a * (G.a * q) := Int.mul_sub ..
    omega
  have d2 : b = G.b + 2 * G.a * (t - F0.a * q) := by
    have : 2 * (F0.a * G.a) * q = 2 * G.a * (F0.a * q) := by grind
    have e : 2 * G.a * (t - F0.a * q) = 2 * G.a * t - 2 * G.a * (F0.a * q) := Int.mul_sub ..
    omega
  obtain ⟨hdv, -⟩ := co_mk pf pG ⟨u, -k, by rw [hu]; grind⟩ hd ⟨_, d1⟩ ⟨_, d2⟩
  exact ⟨b, h0, h1, Int.tmod_eq_zero_of_dvd ⟨K - G.a * q, by omega⟩, Int.tmod_eq_zero_of_dvd ⟨t - F0.a * q, by omega⟩, Int.tmod_eq_zero_of_dvd hdv⟩
theorem fin_b {f g F0 G : F} (sf : Sim f F0) (sg : Sim g G) (pf : F0.Pos) (pG : G.Pos) (hd : G.disc = F0.disc) (hg : gI F0.a G.a = 1) {b : Int} (h1 : (b - F0.b).tmod (2 * F0.a) = 0) (h2 : (b - G.b).tmod (2 * G.a) = 0) :
    (4 * (F0.a * G.a)) ∣ (b * b - F0.disc) ∧ F.Pos ⟨F0.a * G.a, b, (b * b - F0.disc) / (4 * (F0.a * G.a))⟩ ∧ Cmp f g (F.rd ⟨F0.a * G.a, b, (b * b - F0.disc) / (4 * (F0.a * G.a))⟩) := by
  obtain ⟨u, k, hu⟩ := inv_ex (by have := pf.a; omega) pG.a hg
  obtain ⟨t1, e1⟩ := Int.dvd_of_tmod_eq_zero h1
  obtain ⟨t2, e2⟩ := Int.dvd_of_tmod_eq_zero h2
  obtain ⟨hdv, hco⟩ := co_mk pf pG ⟨u, -k, by rw [hu]; grind⟩ hd (b := b) ⟨t1, by omega⟩ ⟨t2, by omega⟩
  exact ⟨hdv, hco.pos, F0, G, _, sf, sg, hco, rfl⟩
theorem d_mat {x y d : Int} (h : x * d - 1 = 0 ∨ (y ≠ 0 ∧ (x * d - 1).tmod y = 0)) (h0 : y = 0 → x * d - 1 = 0) : (⟨x, if y = 0 then 0 else (x * d - 1).tdiv y, y, d⟩ : M).det = 1 := by
  simp only [M.det]
  split
  · rename_i e
    have := h0 e
    omega
  · rename_i e
    have ht : (x * d - 1).tmod y = 0 := by
      rcases h with h | h
      · rw [h]; exact Int.zero_tmod _
      · exact h.2
    have := Int.tmod_add_tdiv_mul (x * d - 1) y
    rw [ht] at this
    omega
set_option maxHeartbeats 8000000 in
theorem rcompose_p {f0 g0 r : F} (hC : Can f0 g0) (hr : Cmp f0 g0 r) : PC Try.prog 16 [fA f0, fA g0] (fA r) := by
  obtain ⟨pf0, pg0, bf, bg, cf, cg, hd0, hd4⟩ := hC
  have c0 := rdisc_p bf (by decide)
  have c1 := rreduce_p pf0 bf (by decide) (by decide)
  have c2 := rreduce_p pg0 bg (by decide) (by decide)
  have sf := Sim.rd pf0
  have sg := Sim.rd pg0
  have rf := (rd_spec pf0).1
  have rg := (rd_spec pg0).1
  have kf := sd_of rf (by rw [sf.disc]; exact hd4)
  have kg := sd_of rg (by rw [sg.disc, hd0]; exact hd4)
  have hgd : g0.rd.disc = f0.rd.disc := by rw [sg.disc, hd0, sf.disc]
  have hfd := sf.disc
  have hgct : g0.rd.ct = 1 := by rw [sg.ct]; exact cg
  have hDl := hd4
  have hDu := pf0.d
  generalize f0.disc = D at *
  generalize f0.rd = f at *
  generalize g0.rd = g at *
  clear bf bg cf cg pf0 pg0
  obtain ⟨X, Y, X0, X1, Y0, Y1, hgood⟩ := ex_pair hgct rf.pos.a
  have hK36 := kf.a
  obtain ⟨K, hK⟩ : ∃ K : Int, K = max X Y := ⟨_, rfl⟩
  have hfb := kf.bd
  have hgb := kg.bd
  have hfa := rf.pos.a
  refine pc_body1 true Try.func16 rfl rfl rfl (Nat.le_of_ble_eq_true rfl) (CellT.agg agg_F) ?_
  refine goA ?_
  refine evG ggA (ss_call (InB_of rfl) rfl rfl c0) ?_
  refine goA ?_
  refine evG ggA (ss_call (InB_of rfl) rfl rfl c1) ?_
  refine goA ?_
  refine evG ggA (ss_call (InB_of rfl) rfl rfl c2) ?_
  refine goA ?_
  refine T.loop (fun n s1 => ∃ k : Int, 1 ≤ k ∧ k ≤ K ∧ n = (K + 1 - k).toNat ∧ s1 = mkS [(2, .ptr 2 0), (3, .ptr 3 0), (4, .ptr 4 0), (5, .v (iV D)), (6, .v (iV k))] [(2, .var [.v (iV f.a), .v (iV f.b), .v (iV f.c)]), (3, .var [.v (iV g.a), .v (iV g.b), .v (iV g.c)]), (4, .var [.v (iV 0), .v (iV 0), .v (iV 0)])] 149 true) K.toNat
    (s' := mkS [(2, .ptr 2 0), (3, .ptr 3 0), (4, .ptr 4 0), (5, .v (iV D)), (6, .v (iV 1))] [(2, .var [.v (iV f.a), .v (iV f.b), .v (iV f.c)]), (3, .var [.v (iV g.a), .v (iV g.b), .v (iV g.c)]), (4, .var [.v (iV 0), .v (iV 0), .v (iV 0)])] 149 true) (by exact entA) ⟨1, by omega, by omega, by omega, rfl⟩ ?_
  rintro _ _ ⟨k, k1, kK, rfl, rfl⟩
  refine goA ?_
  refine T.loop (fun n s1 => ∃ x : Int, -k ≤ x ∧ x ≤ k + 1 ∧ (k = K → x ≤ X) ∧ n = (k + 1 - x).toNat ∧ s1 = mkS [(2, .ptr 2 0), (3, .ptr 3 0), (4, .ptr 4 0), (5, .v (iV D)), (6, .v (iV k)), (7, .v (iV x))] [(2, .var [.v (iV f.a), .v (iV f.b), .v (iV f.c)]), (3, .var [.v (iV g.a), .v (iV g.b), .v (iV g.c)]), (4, .var [.v (iV 0), .v (iV 0), .v (iV 0)])] 149 true) (2 * k + 1).toNat
    (s' := mkS [(2, .ptr 2 0), (3, .ptr 3 0), (4, .ptr 4 0), (5, .v (iV D)), (6, .v (iV k)), (7, .v (iV (0 - k)))] [(2, .var [.v (iV f.a), .v (iV f.b), .v (iV f.c)]), (3, .var [.v (iV g.a), .v (iV g.b), .v (iV g.c)]), (4, .var [.v (iV 0), .v (iV 0), .v (iV 0)])] 149 true) (by exact entA) ⟨0 - k, by omega, by omega, by omega, by omega, rfl⟩ ?_
  rintro _ _ ⟨x, x1, x2, xK, rfl, rfl⟩
  by_cases cx : x ≤ k
  case neg =>
    have hb : decide (x ≤ k) = false := by simpa using cx
    refine goA ?_
    exact loopQ_intro (k := (K + 1 - (k + 1)).toNat) (s' := mkS [(2, .ptr 2 0), (3, .ptr 3 0), (4, .ptr 4 0), (5, .v (iV D)), (6, .v (iV (k + 1)))] [(2, .var [.v (iV f.a), .v (iV f.b), .v (iV f.c)]), (3, .var [.v (iV g.a), .v (iV g.b), .v (iV g.c)]), (4, .var [.v (iV 0), .v (iV 0), .v (iV 0)])] 149 true) (by omega) (by exact entA) ⟨k + 1, by omega, by omega, rfl, rfl⟩
  have hbx : decide (x ≤ k) = true := by simpa using cx
  refine goA ?_
  refine T.loop (fun n s1 => ∃ y : Int, 0 ≤ y ∧ y ≤ k + 1 ∧ (k = K ∧ x = X → y ≤ Y) ∧ n = (k + 1 - y).toNat ∧ s1 = mkS [(2, .ptr 2 0), (3, .ptr 3 0), (4, .ptr 4 0), (5, .v (iV D)), (6, .v (iV k)), (7, .v (iV x)), (8, .v (iV y))] [(2, .var [.v (iV f.a), .v (iV f.b), .v (iV f.c)]), (3, .var [.v (iV g.a), .v (iV g.b), .v (iV g.c)]), (4, .var [.v (iV 0), .v (iV 0), .v (iV 0)])] 149 true) (k + 1).toNat
    (s' := mkS [(2, .ptr 2 0), (3, .ptr 3 0), (4, .ptr 4 0), (5, .v (iV D)), (6, .v (iV k)), (7, .v (iV x)), (8, .v (iV 0))] [(2, .var [.v (iV f.a), .v (iV f.b), .v (iV f.c)]), (3, .var [.v (iV g.a), .v (iV g.b), .v (iV g.c)]), (4, .var [.v (iV 0), .v (iV 0), .v (iV 0)])] 149 true) (by exact entA) ⟨0, by omega, by omega, by omega, by omega, rfl⟩ ?_
  rintro _ _ ⟨y, y1, y2, yK, rfl, rfl⟩
  by_cases cy : y ≤ k
  case neg =>
    have hb : decide (y ≤ k) = false := by simpa using cy
    refine goA ?_
    exact loopQ_intro (k := (k + 1 - (x + 1)).toNat) (s' := mkS [(2, .ptr 2 0), (3, .ptr 3 0), (4, .ptr 4 0), (5, .v (iV D)), (6, .v (iV k)), (7, .v (iV (x + 1)))] [(2, .var [.v (iV f.a), .v (iV f.b), .v (iV f.c)]), (3, .var [.v (iV g.a), .v (iV g.b), .v (iV g.c)]), (4, .var [.v (iV 0), .v (iV 0), .v (iV 0)])] 149 true) (by omega) (by exact entA) ⟨x + 1, by omega, by omega, fun e => by
      refine Classical.byContradiction fun h => ?_
      have := xK e
      have := yK ⟨e, by omega⟩
      omega, rfl, rfl⟩
  have hby : decide (y ≤ k) = true := by simpa using cy
  have cg1 := rgcd_p (a := x) (b := y) (by unfold Bd; omega) (by unfold Bd; omega)
  have hv := vb_of (X := 36) hgb (x := x) (y := y) (by unfold Bd; omega) (by unfold Bd; omega) (by decide) (by decide)
  have cv := rvalue_p hv
  have hvb : Bd 2000000 (g.val x y) := by
    have z1 := bmul (bmul (show Bd 36 g.a by have := kg.a; have := rg.pos.a; unfold Bd; omega) (show Bd 36 x by unfold Bd; omega)) (show Bd 36 x by unfold Bd; omega)
    have z2 := bmul (bmul kg.b (show Bd 36 x by unfold Bd; omega)) (show Bd 36 y by unfold Bd; omega)
    have z3 := bmul (bmul hgb.c (show Bd 36 y by unfold Bd; omega)) (show Bd 36 y by unfold Bd; omega)
    unfold F.val Bd at *
    omega
  have cg2 := rgcd_p (a := g.val x y) (b := f.a) (by unfold Bd at *; omega) (by unfold Bd at *; omega)
  have next : Hid (¬ (max (max x (0 - x)) y = k ∧ gd g f.a x y) → ∃ y' : Int, 0 ≤ y' ∧ y' ≤ k + 1 ∧ (k = K ∧ x = X → y' ≤ Y) ∧ (k + 1 - (y + 1)).toNat = (k + 1 - y').toNat ∧ mkS [(2, .ptr 2 0), (3, .ptr 3 0), (4, .ptr 4 0), (5, .v (iV D)), (6, .v (iV k)), (7, .v (iV x)), (8, .v (iV (y + 1)))] [(2, .var [.v (iV f.a), .v (iV f.b), .v (iV f.c)]), (3, .var [.v (iV g.a), .v (iV g.b), .v (iV g.c)]), (4, .var [.v (iV 0), .v (iV 0), .v (iV 0)])] 149 true = mkS [(2, .ptr 2 0), (3, .ptr 3 0), (4, .ptr 4 0), (5, .v (iV D)), (6, .v (iV k)), (7, .v (iV x)), (8, .v (iV y'))] [(2, .var [.v (iV f.a), .v (iV f.b), .v (iV f.c)]), (3, .var [.v (iV g.a), .v (iV g.b), .v (iV g.c)]), (4, .var [.v (iV 0), .v (iV 0), .v (iV 0)])] 149 true) := Lib.hid fun hn => by
    refine ⟨y + 1, by omega, by omega, fun e => ?_, rfl, rfl⟩
    have h1 := yK e
    refine Classical.byContradiction fun h => hn ?_
    have h2 : y = Y := by omega
    rw [h2, e.2]
    exact ⟨by omega, hgood⟩
  by_cases cm : max (max x (0 - x)) y = k
  case neg =>
    have hbm : (max (max x (0 - x)) y != k) = true := by simpa using cm
    refine goA ?_
    refine evG ggA (ss_max3 (InB_of rfl) rfl rfl rfl) ?_
    refine goA ?_
    exact loopQ_intro (k := (k + 1 - (y + 1)).toNat) (s' := mkS [(2, .ptr 2 0), (3, .ptr 3 0), (4, .ptr 4 0), (5, .v (iV D)), (6, .v (iV k)), (7, .v (iV x)), (8, .v (iV (y + 1)))] [(2, .var [.v (iV f.a), .v (iV f.b), .v (iV f.c)]), (3, .var [.v (iV g.a), .v (iV g.b), .v (iV g.c)]), (4, .var [.v (iV 0), .v (iV 0), .v (iV 0)])] 149 true) (by omega) (by exact entA) (next.out fun h => cm h.1)
  have hbm : (max (max x (0 - x)) y != k) = false := by simpa using cm
  by_cases c3 : gI x y = 1
  case neg =>
    have hb3 : (gI x y != 1) = true := by simpa using c3
    have nx := Lib.hid <| next.out fun h => c3 h.2.1
    generalize gI x y = q at *
    refine goA ?_
    refine evG ggA (ss_max3 (InB_of rfl) rfl rfl rfl) ?_
    refine goA ?_
    refine evG ggA (ss_call (InB_of rfl) rfl rfl cg1) ?_
    refine goA ?_
    exact loopQ_intro (k := (k + 1 - (y + 1)).toNat) (s' := mkS [(2, .ptr 2 0), (3, .ptr 3 0), (4, .ptr 4 0), (5, .v (iV D)), (6, .v (iV k)), (7, .v (iV x)), (8, .v (iV (y + 1)))] [(2, .var [.v (iV f.a), .v (iV f.b), .v (iV f.c)]), (3, .var [.v (iV g.a), .v (iV g.b), .v (iV g.c)]), (4, .var [.v (iV 0), .v (iV 0), .v (iV 0)])] 149 true) (by omega) (by exact entA) nx.out
  have hb3 : (gI x y != 1) = false := by simpa using c3
  by_cases c4 : gI (g.val x y) f.a = 1
  case neg =>
    have hb4 : (gI (g.val x y) f.a != 1) = true := by simpa using c4
    have nx := Lib.hid <| next.out fun h => c4 h.2.2
    clear hgood hv next
    generalize gI x y = q at *
    generalize gI (g.val x y) f.a = q2 at *
    generalize g.val x y = q3 at *
    refine goA ?_
    refine evG ggA (ss_max3 (InB_of rfl) rfl rfl rfl) ?_
    refine goA ?_
    refine evG ggA (ss_call (InB_of rfl) rfl rfl cg1) ?_
    refine goA ?_
    refine evG ggA (ss_call (InB_of rfl) rfl rfl cv) ?_
    refine goA ?_
    refine evG ggA (ss_call (InB_of rfl) rfl rfl cg2) ?_
    refine goA ?_
    exact loopQ_intro (k := (k + 1 - (y + 1)).toNat) (s' := mkS [(2, .ptr 2 0), (3, .ptr 3 0), (4, .ptr 4 0), (5, .v (iV D)), (6, .v (iV k)), (7, .v (iV x)), (8, .v (iV (y + 1)))] [(2, .var [.v (iV f.a), .v (iV f.b), .v (iV f.c)]), (3, .var [.v (iV g.a), .v (iV g.b), .v (iV g.c)]), (4, .var [.v (iV 0), .v (iV 0), .v (iV 0)])] 149 true) (by omega) (by exact entA) nx.out
  have hb4 : (gI (g.val x y) f.a != 1) = false := by simpa using c4
  -- the matrix
  obtain ⟨d0, d1, d2, d3⟩ := ex_d (x := x) (y := y) (k := k) k1 ⟨x1, cx⟩ y1 c3
  clear next hgood
  have hk36 : k ≤ 36 := by omega
  clear xK yK
  have cg3 : gI (g.val x y) f.a = 1 := c4
  have hprod : ∀ d : Int, -36 ≤ d → d ≤ 72 → Bd 2592 (x * d) := fun d h1 h2 => bmul (K := 36) (N := 72) (by unfold Bd; omega) (by unfold Bd; omega)
  generalize hq1 : gI x y = q1 at *
  generalize hq2 : gI (g.val x y) f.a = q2 at *
  generalize hq3 : g.val x y = q3 at *
  refine T.seq ?_
  refine r1A ?_
  refine T.condT rfl (by assumption) ?_
  refine T.skip ?_
  refine seqQ_n ?_
  refine T.seq ?_
  refine T.block ?_
  refine T.seqI (fun s1 => s1 = mkS [(2, .ptr 2 0), (3, .ptr 3 0), (4, .ptr 4 0), (5, .v (iV D)), (6, .v (iV k)), (7, .v (iV x)), (8, .v (iV y))] [(2, .var [.v (iV f.a), .v (iV f.b), .v (iV f.c)]), (3, .var [.v (iV g.a), .v (iV g.b), .v (iV g.c)]), (4, .var [.v (iV 0), .v (iV 0), .v (iV 0)])] 149 true) ?_ ?_
  · refine goA ?_
    refine evG ggA (ss_max3 (InB_of rfl) rfl rfl rfl) ?_
    refine goA ?_
    refine evG ggA (ss_call (InB_of rfl) rfl rfl cg1) ?_
    refine goA ?_
    refine evG ggA (ss_call (InB_of rfl) rfl rfl cv) ?_
    refine goA ?_
    refine evG ggA (ss_call (InB_of rfl) rfl rfl cg2) ?_
    refine goA ?_
    exact midQ_intro (by exact entA) rfl
  rintro _ rfl
  refine T.seqI (fun s1 => s1 = mkS [(2, .ptr 2 0), (3, .ptr 3 0), (4, .ptr 4 0), (5, .v (iV D)), (6, .v (iV k)), (7, .v (iV x)), (8, .v (iV y)), (9, .ptr 9 0)] [(2, .var [.v (iV f.a), .v (iV f.b), .v (iV f.c)]), (3, .var [.v (iV g.a), .v (iV g.b), .v (iV g.c)]), (4, .var [.v (iV 0), .v (iV 0), .v (iV 0)]), (9, .var [.v (iV x), .v (iV 0), .v (iV y), .v (iV 0)])] 149 true) ?_ ?_
  · refine goA ?_
    exact midQ_intro (by exact entA) rfl
  rintro _ rfl
  refine T.seqI (fun s1 => ∃ d : Int, -k ≤ d ∧ d ≤ d0 ∧ (x * d - 1 = 0 ∨ (y ≠ 0 ∧ (x * d - 1).tmod y = 0)) ∧ s1 = mkS [(2, .ptr 2 0), (3, .ptr 3 0), (4, .ptr 4 0), (5, .v (iV D)), (7, .v (iV x)), (8, .v (iV y)), (9, .ptr 9 0)] [(2, .var [.v (iV f.a), .v (iV f.b), .v (iV f.c)]), (3, .var [.v (iV g.a), .v (iV g.b), .v (iV g.c)]), (4, .var [.v (iV 0), .v (iV 0), .v (iV 0)]), (9, .var [.v (iV x), .v (iV 0), .v (iV y), .v (iV d)])] 149 true) ?_ ?_
  · refine goA ?_
    refine T.loop (fun n s1 => ∃ d : Int, -k ≤ d ∧ d ≤ d0 ∧ n = (d0 + 1 - d).toNat ∧ s1 = mkS [(2, .ptr 2 0), (3, .ptr 3 0), (4, .ptr 4 0), (5, .v (iV D)), (7, .v (iV x)), (8, .v (iV y)), (9, .ptr 9 0)] [(2, .var [.v (iV f.a), .v (iV f.b), .v (iV f.c)]), (3, .var [.v (iV g.a), .v (iV g.b), .v (iV g.c)]), (4, .var [.v (iV 0), .v (iV 0), .v (iV 0)]), (9, .var [.v (iV x), .v (iV 0), .v (iV y), .v (iV d)])] 149 true) (d0 + 1 + k).toNat
      (s' := mkS [(2, .ptr 2 0), (3, .ptr 3 0), (4, .ptr 4 0), (5, .v (iV D)), (7, .v (iV x)), (8, .v (iV y)), (9, .ptr 9 0)] [(2, .var [.v (iV f.a), .v (iV f.b), .v (iV f.c)]), (3, .var [.v (iV g.a), .v (iV g.b), .v (iV g.c)]), (4, .var [.v (iV 0), .v (iV 0), .v (iV 0)]), (9, .var [.v (iV x), .v (iV 0), .v (iV y), .v (iV (0 - k))])] 149 true) (by exact entA) ⟨0 - k, by omega, by omega, by omega, rfl⟩ ?_
    rintro _ _ ⟨d, e1, e2, rfl, rfl⟩
    have hp := hprod d (by omega) (by omega)
    unfold Bd at hp
    by_cases z : x * d - 1 = 0
    · have b1 : (x * d - 1 != 0) = false := by simpa using z
      refine goA ?_
      exact midQ_intro (s' := mkS [(2, .ptr 2 0), (3, .ptr 3 0), (4, .ptr 4 0), (5, .v (iV D)), (7, .v (iV x)), (8, .v (iV y)), (9, .ptr 9 0)] [(2, .var [.v (iV f.a), .v (iV f.b), .v (iV f.c)]), (3, .var [.v (iV g.a), .v (iV g.b), .v (iV g.c)]), (4, .var [.v (iV 0), .v (iV 0), .v (iV 0)]), (9, .var [.v (iV x), .v (iV 0), .v (iV y), .v (iV d)])] 149 true) (by exact entA) ⟨d, e1, e2, .inl z, rfl⟩
    have b1 : (x * d - 1 != 0) = true := by simpa using z
    by_cases w : y = 0
    · have b2 : (y == 0) = true := by simpa using w
      have hlt : d < d0 := by
        refine Classical.byContradiction fun h => ?_
        have e : d = d0 := by omega
        rw [← e] at d3
        rcases d3 with h | h
        · exact z h
        · exact h.1 w
      refine goA ?_
      exact loopQ_intro (k := (d0 + 1 - (d + 1)).toNat) (s' := mkS [(2, .ptr 2 0), (3, .ptr 3 0), (4, .ptr 4 0), (5, .v (iV D)), (7, .v (iV x)), (8, .v (iV y)), (9, .ptr 9 0)] [(2, .var [.v (iV f.a), .v (iV f.b), .v (iV f.c)]), (3, .var [.v (iV g.a), .v (iV g.b), .v (iV g.c)]), (4, .var [.v (iV 0), .v (iV 0), .v (iV 0)]), (9, .var [.v (iV x), .v (iV 0), .v (iV y), .v (iV (d + 1))])] 149 true) (by omega) (by exact entA) ⟨d + 1, by omega, by omega, rfl, rfl⟩
    have b2 : (y == 0) = false := by simpa using w
    by_cases v : (x * d - 1).tmod y = 0
    · have b3 : ((x * d - 1).tmod y != 0) = false := by simpa using v
      refine goA ?_
      refine evG ggA (ss_div (op := .rem) (InB_of rfl) rfl rfl (by omega) rfl) ?_
      refine goA ?_
      exact midQ_intro (s' := mkS [(2, .ptr 2 0), (3, .ptr 3 0), (4, .ptr 4 0), (5, .v (iV D)), (7, .v (iV x)), (8, .v (iV y)), (9, .ptr 9 0)] [(2, .var [.v (iV f.a), .v (iV f.b), .v (iV f.c)]), (3, .var [.v (iV g.a), .v (iV g.b), .v (iV g.c)]), (4, .var [.v (iV 0), .v (iV 0), .v (iV 0)]), (9, .var [.v (iV x), .v (iV 0), .v (iV y), .v (iV d)])] 149 true) (by exact entA) ⟨d, e1, e2, .inr ⟨w, v⟩, rfl⟩
    · have b3 : ((x * d - 1).tmod y != 0) = true := by simpa using v
      have hlt : d < d0 := by
        refine Classical.byContradiction fun h => ?_
        have e : d = d0 := by omega
        rw [← e] at d3
        rcases d3 with h | h
        · exact z h
        · exact v h.2
      refine goA ?_
      refine evG ggA (ss_div (op := .rem) (InB_of rfl) rfl rfl (by omega) rfl) ?_
      refine goA ?_
      exact loopQ_intro (k := (d0 + 1 - (d + 1)).toNat) (s' := mkS [(2, .ptr 2 0), (3, .ptr 3 0), (4, .ptr 4 0), (5, .v (iV D)), (7, .v (iV x)), (8, .v (iV y)), (9, .ptr 9 0)] [(2, .var [.v (iV f.a), .v (iV f.b), .v (iV f.c)]), (3, .var [.v (iV g.a), .v (iV g.b), .v (iV g.c)]), (4, .var [.v (iV 0), .v (iV 0), .v (iV 0)]), (9, .var [.v (iV x), .v (iV 0), .v (iV y), .v (iV (d + 1))])] 149 true) (by omega) (by exact entA) ⟨d + 1, by omega, by omega, rfl, rfl⟩
  rintro _ ⟨d, e1, e2, e3, rfl⟩
  have hdet := d_mat e3 (fun e => by
    rcases e3 with h | h
    · exact h
    · exact absurd e h.1)
  have hp := hprod d (by omega) (by omega)
  obtain ⟨B, hB⟩ : ∃ B, B = if y = 0 then 0 else (x * d - 1).tdiv y := ⟨_, rfl⟩
  rw [← hB] at hdet
  have hBb : Bd 2600 B := by
    rw [hB]
    split
    · unfold Bd; omega
    · exact tdiv_bd (by unfold Bd at *; omega)
  unfold Bd at hp
  refine T.seqI (fun s1 => s1 = mkS [(2, .ptr 2 0), (3, .ptr 3 0), (4, .ptr 4 0), (5, .v (iV D)), (7, .v (iV x)), (8, .v (iV y)), (9, .ptr 9 0)] [(2, .var [.v (iV f.a), .v (iV f.b), .v (iV f.c)]), (3, .var [.v (iV g.a), .v (iV g.b), .v (iV g.c)]), (4, .var [.v (iV 0), .v (iV 0), .v (iV 0)]), (9, .var [.v (iV x), .v (iV B), .v (iV y), .v (iV d)])] 149 true) ?_ ?_
  · by_cases w : y = 0
    · have b2 : (y != 0) = false := by simpa using w
      rw [if_pos w] at hB
      subst hB
      refine goA ?_
      exact midQ_intro (by exact entA) rfl
    · have b2 : (y != 0) = true := by simpa using w
      rw [if_neg w] at hB
      have hw : IntKind.i64.wrap ((x * d - 1).tdiv y) = B := by
        rw [← hB]
        unfold Bd at hBb
        exact w64 (by omega) (by omega)
      refine goA ?_
      refine evG ggA (ss_div (InB_of rfl) rfl rfl (by omega) hw) ?_
      refine goA ?_
      exact midQ_intro (by exact entA) rfl
  rintro _ rfl
  have sG0 : Sim g (g.by ⟨x, B, y, d⟩) := ⟨_, hdet, rfl⟩
  have pG := sG0.pos rg.pos
  have hGd : (g.by ⟨x, B, y, d⟩).disc = f.disc := by rw [sG0.disc, hgd]
  have hGa : (g.by ⟨x, B, y, d⟩).a = q3 := hq3
  have mx : Bd 3000 x := by unfold Bd; omega
  have mB : Bd 3000 B := hBb.mono (by decide)
  have my : Bd 3000 y := by unfold Bd; omega
  have md : Bd 3000 d := by unfold Bd; omega
  have k1 := bmul (show Bd 2800 (2 * g.a) by have := hgb.a; unfold Bd at *; omega) mx
  have k2 := bmul k1 mB
  have k4 := bmul (show Bd 2800 (2 * g.c) by have := hgb.c; unfold Bd at *; omega) my
  have k5 := bmul k4 md
  have n1 := bmul mx md
  have n2 := bmul mB my
  have k3 := bmul hgb.b (show Bd 18000000 (x * d + B * y) by unfold Bd at *; omega)
  have cby := rby_p (f := g) (m := ⟨x, B, y, d⟩) (vb_of hgb mx my (by decide) (by decide)) (vb_of hgb mB md (by decide) (by decide)) (hgb.a.mono (by decide)) (hgb.c.mono (by decide)) ⟨mx.mono (by decide), mB.mono (by decide), my.mono (by decide), md.mono (by decide)⟩
    (k1.mono (by decide)) (k2.mono (by decide)) (k3.mono (by decide)) (k4.mono (by decide)) (k5.mono (by decide))
  have hGb : Bd 100000000000 (g.by ⟨x, B, y, d⟩).b := by
    show Bd _ (2 * g.a * x * B + g.b * (x * d + B * y) + 2 * g.c * y * d)
    unfold Bd at *
    omega
  have hgc : gI f.a q3 = 1 := by
    have e := hq2.trans cg3
    unfold gI at e ⊢
    rw [Nat.gcd_comm]
    exact e
  clear k1 k2 k3 k4 k5 n1 n2 mx mB my md hprod d3 e3 hdet cg1 cg2 cv hv hq3 hq2 hq1 hp
  generalize g.by ⟨x, B, y, d⟩ = G at *
  subst hGa
  have hGa0 := pG.a
  obtain ⟨b0, b1, b2, b3, b4, b5⟩ := ex_b rf.pos pG hGd hgc
  have hA0 := Int.mul_pos hfa hGa0
  have hA1 := bmul (show Bd 36 f.a by unfold Bd; omega) hvb
  have fin : Hid (∀ b : Int, 0 ≤ b → b ≤ b0 → (b - f.b).tmod (2 * f.a) = 0 → (b - G.b).tmod (2 * G.a) = 0 → ∃ C, (b * b - D).tdiv (4 * (f.a * G.a)) = C ∧ Bd 200000000 C ∧ PC Try.prog 38 [.agg [iV (f.a * G.a), iV b, iV C]] (fA r)) := Lib.hid fun b z1 z2 z3 z4 => by
    obtain ⟨hdv, hpo, hc⟩ := fin_b sf (sg.trans sG0) rf.pos pG hGd hgc z3 z4
    have e := hc.unique hr (Sim.refl _) (Sim.refl _)
    rw [hfd] at hdv hpo e
    have hce := (Int.mul_ediv_cancel' hdv).symm
    have hct := Int.tdiv_eq_ediv_of_dvd hdv
    have hBB := bmul (show Bd (2 * (f.a * G.a)) b by unfold Bd; omega) (show Bd (2 * (f.a * G.a)) b by unfold Bd; omega)
    generalize (b * b - D) / (4 * (f.a * G.a)) = C at *
    have hcp : 0 < C := hpo.c
    have hcb : C ≤ f.a * G.a + 1000 := by
      refine Classical.byContradiction fun hn => ?_
      have x1 := Int.mul_le_mul_of_nonneg_left (show f.a * G.a + 1001 ≤ C by omega) (show 0 ≤ 4 * (f.a * G.a) by omega)
      have x2 : 4 * (f.a * G.a) * (f.a * G.a + 1001) = 2 * (f.a * G.a) * (2 * (f.a * G.a)) + 4004 * (f.a * G.a) := by grind
      unfold Bd at hBB
      omega
    have hCb : Bd 200000000 C := by unfold Bd at *; omega
    have c5 := rreduce_p (N := 200000000) hpo ⟨by unfold Bd at *; simp only; omega, by unfold Bd at *; simp only; omega, hCb⟩ (by decide) (by decide)
    rw [e] at c5
    exact ⟨C, hct, hCb, c5⟩
  have hbb : ∀ b : Int, 0 ≤ b → b ≤ b0 → Bd 40000000000000000 (b * b) := fun b h1 h2 => bmul (K := 200000000) (N := 200000000) (by unfold Bd at *; omega) (by unfold Bd at *; omega)
  rw [hfd] at b5
  clear sf sg hr pG hGd sG0 rf rg kf kg hgc hgd hfd
  unfold Bd at hvb hA1 hGb
  have hfb2 := hfb.b
  unfold Bd at hfb2
  refine goA ?_
  refine evG ggA (ss_call (InB_of rfl) rfl rfl cby) ?_
  refine goA ?_
  refine T.loop (fun n s1 => ∃ b : Int, 0 ≤ b ∧ b ≤ b0 ∧ n = (b0 + 1 - b).toNat ∧ s1 = mkS [(2, .ptr 2 0), (4, .ptr 4 0), (5, .v (iV D)), (10, .ptr 10 0), (11, .v (iV (f.a * G.a))), (12, .v (iV b))] [(2, .var [.v (iV f.a), .v (iV f.b), .v (iV f.c)]), (4, .var [.v (iV 0), .v (iV 0), .v (iV 0)]), (10, .var [.v (iV G.a), .v (iV G.b), .v (iV G.c)])] 149 true) (b0 + 1).toNat
    (s' := mkS [(2, .ptr 2 0), (4, .ptr 4 0), (5, .v (iV D)), (10, .ptr 10 0), (11, .v (iV (f.a * G.a))), (12, .v (iV 0))] [(2, .var [.v (iV f.a), .v (iV f.b), .v (iV f.c)]), (4, .var [.v (iV 0), .v (iV 0), .v (iV 0)]), (10, .var [.v (iV G.a), .v (iV G.b), .v (iV G.c)])] 149 true) (by exact entA) ⟨0, by omega, by omega, by omega, rfl⟩ ?_
  rintro _ _ ⟨b, c1, c2, rfl, rfl⟩
  have hb2 := hbb b c1 c2
  unfold Bd at hb2
  clear hbb
  by_cases z1 : (b - f.b).tmod (2 * f.a) = 0
  case neg =>
    have hc1 : ((b - f.b).tmod (2 * f.a) == 0) = false := by simpa using z1
    have hlt : b < b0 := by
      refine Classical.byContradiction fun h => z1 ?_
      rw [show b = b0 by omega]
      assumption
    refine goA ?_
    refine evG ggA (ss_div (op := .rem) (InB_of rfl) rfl rfl (by omega) rfl) ?_
    refine goA ?_
    exact loopQ_intro (k := (b0 + 1 - (b + 1)).toNat) (s' := mkS [(2, .ptr 2 0), (4, .ptr 4 0), (5, .v (iV D)), (10, .ptr 10 0), (11, .v (iV (f.a * G.a))), (12, .v (iV (b + 1)))] [(2, .var [.v (iV f.a), .v (iV f.b), .v (iV f.c)]), (4, .var [.v (iV 0), .v (iV 0), .v (iV 0)]), (10, .var [.v (iV G.a), .v (iV G.b), .v (iV G.c)])] 149 true) (by omega) (by exact entA) ⟨b + 1, by omega, by omega, rfl, rfl⟩
  have hc1 : ((b - f.b).tmod (2 * f.a) == 0) = true := by simpa using z1
  by_cases z2 : (b - G.b).tmod (2 * G.a) = 0
  case neg =>
    have hc2 : ((b - G.b).tmod (2 * G.a) == 0) = false := by simpa using z2
    have hlt : b < b0 := by
      refine Classical.byContradiction fun h => z2 ?_
      rw [show b = b0 by omega]
      assumption
    refine goA ?_
    refine evG ggA (ss_div (op := .rem) (InB_of rfl) rfl rfl (by omega) rfl) ?_
    refine goA ?_
    refine evG ggA (ss_div (op := .rem) (InB_of rfl) rfl rfl (by omega) rfl) ?_
    refine goA ?_
    exact loopQ_intro (k := (b0 + 1 - (b + 1)).toNat) (s' := mkS [(2, .ptr 2 0), (4, .ptr 4 0), (5, .v (iV D)), (10, .ptr 10 0), (11, .v (iV (f.a * G.a))), (12, .v (iV (b + 1)))] [(2, .var [.v (iV f.a), .v (iV f.b), .v (iV f.c)]), (4, .var [.v (iV 0), .v (iV 0), .v (iV 0)]), (10, .var [.v (iV G.a), .v (iV G.b), .v (iV G.c)])] 149 true) (by omega) (by exact entA) ⟨b + 1, by omega, by omega, rfl, rfl⟩
  have hc2 : ((b - G.b).tmod (2 * G.a) == 0) = true := by simpa using z2
  by_cases z3 : (b * b - D).tmod (4 * (f.a * G.a)) = 0
  case neg =>
    have hc3 : ((b * b - D).tmod (4 * (f.a * G.a)) == 0) = false := by simpa using z3
    have hlt : b < b0 := by
      refine Classical.byContradiction fun h => z3 ?_
      rw [show b = b0 by omega]
      assumption
    refine goA ?_
    refine evG ggA (ss_div (op := .rem) (InB_of rfl) rfl rfl (by omega) rfl) ?_
    refine goA ?_
    refine evG ggA (ss_div (op := .rem) (InB_of rfl) rfl rfl (by omega) rfl) ?_
    refine goA ?_
    refine evG ggA (ss_div (op := .rem) (InB_of rfl) rfl rfl (by omega) rfl) ?_
    refine goA ?_
    exact loopQ_intro (k := (b0 + 1 - (b + 1)).toNat) (s' := mkS [(2, .ptr 2 0), (4, .ptr 4 0), (5, .v (iV D)), (10, .ptr 10 0), (11, .v (iV (f.a * G.a))), (12, .v (iV (b + 1)))] [(2, .var [.v (iV f.a), .v (iV f.b), .v (iV f.c)]), (4, .var [.v (iV 0), .v (iV 0), .v (iV 0)]), (10, .var [.v (iV G.a), .v (iV G.b), .v (iV G.c)])] 149 true) (by omega) (by exact entA) ⟨b + 1, by omega, by omega, rfl, rfl⟩
  have hc3 : ((b * b - D).tmod (4 * (f.a * G.a)) == 0) = true := by simpa using z3
  obtain ⟨C, hC, hCb, c5⟩ := fin.out b c1 c2 z1 z2
  have hw : IntKind.i64.wrap ((b * b - D).tdiv (4 * (f.a * G.a))) = C := by
    rw [hC]
    unfold Bd at hCb
    exact w64 (by omega) (by omega)
  refine goA ?_
  refine evG ggA (ss_div (op := .rem) (InB_of rfl) rfl rfl (by omega) rfl) ?_
  refine goA ?_
  refine evG ggA (ss_div (op := .rem) (InB_of rfl) rfl rfl (by omega) rfl) ?_
  refine goA ?_
  refine evG ggA (ss_div (op := .rem) (InB_of rfl) rfl rfl (by omega) rfl) ?_
  refine goA ?_
  refine evG ggA (ss_div (InB_of rfl) rfl rfl (by omega) hw) ?_
  refine goA ?_
  refine evG ggA (ss_call (InB_of rfl) rfl rfl c5) ?_
  refine goA ?_
  exact rfl
end Ab
