/- quadform.Represent, walked. -/
import Derived.Test.YtajlkcnlfiikeaaQwF
set_option linter.all false
namespace Ab
open Go Go.RowKit Go.Proofs Qf
set_option maxRecDepth 100000

/-- what is known of a reduced form whose coefficients were small -/
structure Sm (g : F) : Prop where
  r : g.Red
  a : g.a ≤ 13000
  b : Bd 13000 g.b
  c : g.c ≤ 200000000
  d : g.disc ≤ -3
  d2 : -600000000 ≤ g.disc
theorem sm_rd {f : F} (hp : f.Pos) (hB : FBd 10000 f) : Sm f.rd := by
  obtain ⟨h1, h2, h3⟩ := rd_spec hp
  have hd : f.rd.disc = f.disc := (Sim.rd hp).disc
  have x1 := bmul hB.b hB.b
  have x2 := bmul (show Bd 40000 (4 * f.a) by have := hB.a; unfold Bd at *; omega) hB.c
  have e : f.disc = f.b * f.b - 4 * f.a * f.c := rfl
  have h5 := h1.disc
  have h6 := disc_le h1.pos
  have hpa := h1.pos.a
  have hpc := h1.pos.c
  unfold Bd at x1 x2
  have ha : f.rd.a ≤ 13000 := by
    refine Classical.byContradiction fun hn => ?_
    have := Int.mul_le_mul (show 13000 ≤ f.rd.a by omega) (show 13000 ≤ f.rd.a by omega) (by decide) (by omega)
    omega
  have b1 := h1.b1
  have b2 := h1.b2
  have hb : Bd 13000 f.rd.b := by unfold Bd; omega
  have x3 := bmul hb hb
  unfold Bd at x3
  have hc : f.rd.c ≤ 200000000 := by
    have e2 : f.rd.disc = f.rd.b * f.rd.b - 4 * (f.rd.a * f.rd.c) := by simp only [F.disc]; grind
    have := Int.mul_le_mul_of_nonneg_right (show 1 ≤ f.rd.a by omega) (show 0 ≤ f.rd.c by omega)
    omega
  exact ⟨h1, ha, hb, hc, by omega, by omega⟩
theorem y_small {g : F} (h : Sm g) {n y : Int} (n0 : 0 ≤ n) (n1 : n ≤ 4000) (hy : -g.disc * (y * y) ≤ 4 * g.a * n) : Bd 74 y := by
  refine abs_le_of_sq (by decide) ?_
  have ha := h.r.pos.a
  have hd := h.r.disc
  have h1 := Int.mul_le_mul_of_nonneg_right hd (sq_nonneg y)
  have h2 : g.a * (3 * (g.a * (y * y))) ≤ g.a * (4 * n) := by
    have e1 : g.a * (3 * (g.a * (y * y))) = 3 * (g.a * g.a) * (y * y) := by grind
    have e2 : g.a * (4 * n) = 4 * g.a * n := by grind
    omega
  have h3 := le_of_mul ha h2
  have h4 := Int.mul_le_mul_of_nonneg_right (show 1 ≤ g.a by omega) (sq_nonneg y)
  omega
def repY (g : F) (n : Int) : Int := isq ((4 * g.a * n).tdiv (0 - g.disc))
def rep (g : F) (n : Int) : Int := sz (cy g n isq) (0 - repY g n) (2 * (repY g n).toNat + 1)
theorem repY_spec {g : F} (h : Sm g) {n : Int} (n0 : 0 ≤ n) (n1 : n ≤ 4000) : 0 ≤ repY g n ∧ repY g n ≤ 74 ∧ ∀ y, -g.disc * (y * y) ≤ 4 * g.a * n ↔ y * y ≤ (4 * g.a * n).tdiv (0 - g.disc) := by
  have ha := h.r.pos.a
  have hd := h.d
  have hq : 0 ≤ 4 * g.a * n := Int.mul_nonneg (by omega) n0
  have key : ∀ y, -g.disc * (y * y) ≤ 4 * g.a * n ↔ y * y ≤ (4 * g.a * n).tdiv (0 - g.disc) := fun y => by
    rw [Int.tdiv_eq_ediv_of_nonneg hq, Int.le_ediv_iff_mul_le (by omega), Int.mul_comm, show 0 - g.disc = -g.disc by omega]
  have h0 : 0 ≤ (4 * g.a * n).tdiv (0 - g.disc) := by rw [Int.tdiv_eq_ediv_of_nonneg hq]; exact Int.ediv_nonneg hq (by omega)
  obtain ⟨r0, r1, r2⟩ := isq_rt h0
  exact ⟨r0, (y_small h n0 n1 ((key _).2 r1)).2, key⟩
theorem ind_bd (p : Prop) [Decidable p] : 0 ≤ ind p ∧ ind p ≤ 1 := by unfold ind; split <;> omega
theorem cy_def (f : F) (n : Int) (root : Int → Int) (y : Int) : cy f n root y = if f.b * f.b * y * y - 4 * f.a * (f.c * y * y - n) < 0 then 0 else if root (f.b * f.b * y * y - 4 * f.a * (f.c * y * y - n)) * root (f.b * f.b * y * y - 4 * f.a * (f.c * y * y - n)) ≠ f.b * f.b * y * y - 4 * f.a * (f.c * y * y - n) then 0 else
    ind (Int.tmod (root (f.b * f.b * y * y - 4 * f.a * (f.c * y * y - n)) - f.b * y) (2 * f.a) = 0) + ind (0 < root (f.b * f.b * y * y - 4 * f.a * (f.c * y * y - n)) ∧ Int.tmod (-root (f.b * f.b * y * y - 4 * f.a * (f.c * y * y - n)) - f.b * y) (2 * f.a) = 0) := rfl
theorem cy_bd (f : F) (n : Int) (root : Int → Int) (y : Int) : 0 ≤ cy f n root y ∧ cy f n root y ≤ 2 := by
  unfold cy
  simp only
  split
  · omega
  · split
    · omega
    · have := ind_bd (Int.tmod (root (f.b * f.b * y * y - 4 * f.a * (f.c * y * y - n)) - f.b * y) (2 * f.a) = 0)
      have := ind_bd (0 < root (f.b * f.b * y * y - 4 * f.a * (f.c * y * y - n)) ∧ Int.tmod (-root (f.b * f.b * y * y - 4 * f.a * (f.c * y * y - n)) - f.b * y) (2 * f.a) = 0)
      omega
theorem sz_bd {h : Int → Int} {lo : Int} (hh : ∀ y, 0 ≤ h y ∧ h y ≤ 2) : ∀ i : Nat, 0 ≤ sz h lo i ∧ sz h lo i ≤ 2 * i
  | 0 => by simp [sz]
  | i + 1 => by
    have := sz_bd hh (lo := lo) i
    have := hh (lo + i)
    rw [sz]
    omega
set_option maxHeartbeats 4000000 in
theorem represent_p {f : F} {n : Int} (n0 : -9223372036854775808 ≤ n) (n1 : n ≤ 9223372036854775807) : PC Try.prog 17 [fA f, iV n] (.tup (if chk f = 0 then (if 0 ≤ n ∧ n ≤ 4000 then [iV (rep f.rd n), iV 0] else [iV 0, iV 2]) else [iV 0, iV (chk f)])) := by
  have ck := check_p f
  by_cases h0 : chk f = 0
  case neg =>
    rw [if_neg h0]
    have hb : (chk f != 0) = true := by simpa using h0
    refine pc_body2 true Try.func17 rfl rfl rfl (Nat.le_of_ble_eq_true rfl) CellT.tmp CellT.tmp ?_
    refine goA ?_
    refine evG ggA (ss_call (InB_of rfl) rfl rfl ck) ?_
    refine goA ?_
    exact rfl
  rw [if_pos h0]
  obtain ⟨hp, hB⟩ := chk_zero h0
  rw [h0] at ck
  by_cases k0 : 0 ≤ n
  case neg =>
    rw [if_neg (by omega)]
    have b0 : decide (n < 0) = true := by simp; omega
    refine pc_body2 true Try.func17 rfl rfl rfl (Nat.le_of_ble_eq_true rfl) CellT.tmp CellT.tmp ?_
    refine goA ?_
    refine evG ggA (ss_call (InB_of rfl) rfl rfl ck) ?_
    refine goA ?_
    exact rfl
  have b0 : decide (n < 0) = false := by simp; omega
  by_cases k1 : n ≤ 4000
  case neg =>
    rw [if_neg (by omega)]
    have b1 : decide (n > 4000) = true := by simp; omega
    refine pc_body2 true Try.func17 rfl rfl rfl (Nat.le_of_ble_eq_true rfl) CellT.tmp CellT.tmp ?_
    refine goA ?_
    refine evG ggA (ss_call (InB_of rfl) rfl rfl ck) ?_
    refine goA ?_
    exact rfl
  have b1 : decide (n > 4000) = false := by simp; omega
  rw [if_pos ⟨k0, k1⟩]
  have cr := reduce_p hp hB (by decide) (by decide)
  have sm := sm_rd hp hB
  clear hp hB h0
  generalize f.rd = g at *
  have ga := sm.a
  have ga0 := sm.r.pos.a
  have gc := sm.c
  have gc0 := sm.r.pos.c
  have gb := sm.b
  have gd := sm.d
  have gd2 := sm.d2
  have cd := disc_p (f := g) (N := 200000000) ⟨by unfold Bd; omega, gb.mono (by decide), by unfold Bd; omega⟩ (by decide)
  have q1 := bmul (show Bd 52000 (4 * g.a) by unfold Bd; omega) (show Bd 4000 n by unfold Bd; omega)
  have q2 := tdiv_bd (y := 0 - g.disc) q1
  obtain ⟨y0, y1, ykey⟩ := repY_spec sm k0 k1
  have hq : 0 ≤ (4 * g.a * n).tdiv (0 - g.disc) := by
    rw [Int.tdiv_eq_ediv_of_nonneg (Int.mul_nonneg (by omega) k0)]
    exact Int.ediv_nonneg (Int.mul_nonneg (by omega) k0) (by omega)
  have croot : PC Try.prog 56 [iV ((4 * g.a * n).tdiv (0 - g.disc))] (iV (repY g n)) := root_p hq (by unfold Bd at q2; omega)
  unfold rep
  unfold Bd at q1 q2
  generalize repY g n = Y at *
  refine pc_body2 true Try.func17 rfl rfl rfl (Nat.le_of_ble_eq_true rfl) CellT.tmp CellT.tmp ?_
  refine goA ?_
  refine evG ggA (ss_call (InB_of rfl) rfl rfl ck) ?_
  refine goA ?_
  refine evG ggA (ss_call (InB_of rfl) rfl rfl cr) ?_
  refine goA ?_
  refine evG ggA (ss_call (InB_of rfl) rfl rfl cd) ?_
  refine goA ?_
  refine evG ggA (ss_div (InB_of rfl) rfl rfl (by omega) (w64 (by omega) (by omega))) ?_
  refine goA ?_
  refine evG ggA (ss_call (InB_of rfl) rfl rfl croot) ?_
  refine goA ?_
  refine T.loop (fun j s1 => ∃ i : Nat, i ≤ 2 * Y.toNat + 1 ∧ j = 2 * Y.toNat + 1 - i ∧ s1 = mkS [(1, .v (iV n)), (2, .ptr 2 0), (4, .v (iV 0)), (5, .v (iV 0)), (7, .v (iV Y)), (8, .v (iV (sz (cy g n isq) (0 - Y) i))), (9, .v (iV (0 - Y + (i : Nat))))] [(2, .var [.v (iV g.a), .v (iV g.b), .v (iV g.c)])] 108 true) (2 * Y.toNat + 1)
    (s' := mkS [(1, .v (iV n)), (2, .ptr 2 0), (4, .v (iV 0)), (5, .v (iV 0)), (7, .v (iV Y)), (8, .v (iV 0)), (9, .v (iV (0 - Y)))] [(2, .var [.v (iV g.a), .v (iV g.b), .v (iV g.c)])] 108 true) (by exact entA) ⟨0, by omega, rfl, by rw [show (0 - Y + ((0 : Nat) : Int)) = 0 - Y by omega]; rfl⟩ ?_
  clear croot hq q2 ykey cd cr ck q1
  rintro j _ ⟨i, hi, rfl, rfl⟩
  by_cases hl : i = 2 * Y.toNat + 1
  · subst hl
    have hb : decide (0 - Y + ((2 * Y.toNat + 1 : Nat) : Int) ≤ Y) = false := by simp; omega
    refine goA ?_
    exact rfl
  have hb : decide (0 - Y + (i : Int) ≤ Y) = true := by simp; omega
  have hc0 := sz_bd (h := cy g n isq) (lo := 0 - Y) (fun y => cy_bd g n isq y) i
  have hsz : sz (cy g n isq) (0 - Y) (i + 1) = sz (cy g n isq) (0 - Y) i + cy g n isq (0 - Y + i) := rfl
  have hyi : (0 - Y + ((i + 1 : Nat) : Int)) = 0 - Y + (i : Int) + 1 := by omega
  have hyb : Bd 74 (0 - Y + (i : Int)) := by unfold Bd; omega
  have hi2 : (i : Int) ≤ 200 := by omega
  generalize sz (cy g n isq) (0 - Y) i = c0 at *
  have fin : ∀ (v : Int) (s2 : AS), sz (cy g n isq) (0 - Y) (i + 1) = v → s2 = mkS [(1, .v (iV n)), (2, .ptr 2 0), (4, .v (iV 0)), (5, .v (iV 0)), (7, .v (iV Y)), (8, .v (iV v)), (9, .v (iV (0 - Y + (i : Int) + 1)))] [(2, .var [.v (iV g.a), .v (iV g.b), .v (iV g.c)])] 108 true →
      ∃ i' : Nat, i' ≤ 2 * Y.toNat + 1 ∧ 2 * Y.toNat + 1 - (i + 1) = 2 * Y.toNat + 1 - i' ∧ s2 = mkS [(1, .v (iV n)), (2, .ptr 2 0), (4, .v (iV 0)), (5, .v (iV 0)), (7, .v (iV Y)), (8, .v (iV (sz (cy g n isq) (0 - Y) i'))), (9, .v (iV (0 - Y + (i' : Nat))))] [(2, .var [.v (iV g.a), .v (iV g.b), .v (iV g.c)])] 108 true :=
    fun v s2 e e2 => ⟨i + 1, by omega, rfl, by rw [e2, e, hyi]⟩
  clear hyi
  generalize 0 - Y + (i : Int) = y at *
  have hcy := cy_def g n isq y
  have z1 := bmul gb gb
  have z2 := bmul z1 hyb
  have z3 := bmul z2 hyb
  have z4 := bmul (show Bd 200000000 g.c by unfold Bd; omega) hyb
  have z5 := bmul z4 hyb
  have z6 := bmul (show Bd 52000 (4 * g.a) by unfold Bd; omega) (show Bd 1200000000000 (g.c * y * y - n) by unfold Bd at *; omega)
  have z7 := bmul gb hyb
  unfold Bd at z1 z2 z3 z4 z5 z6 z7 hyb gb
  have zI : -100000000000000000 ≤ g.b * g.b * y * y - 4 * g.a * (g.c * y * y - n) ∧ g.b * g.b * y * y - 4 * g.a * (g.c * y * y - n) ≤ 100000000000000000 := by omega
  refine goA ?_
  generalize g.b * g.b * y * y - 4 * g.a * (g.c * y * y - n) = I at *
  by_cases c1 : I < 0
  · have b1 : decide (I < 0) = true := by simpa using c1
    rw [if_pos c1] at hcy
    refine goA ?_
    exact loopQ_intro (k := 2 * Y.toNat + 1 - (i + 1)) (s' := mkS [(1, .v (iV n)), (2, .ptr 2 0), (4, .v (iV 0)), (5, .v (iV 0)), (7, .v (iV Y)), (8, .v (iV (c0))), (9, .v (iV (y + 1)))] [(2, .var [.v (iV g.a), .v (iV g.b), .v (iV g.c)])] 108 true) (by omega) (by exact entA) (fin _ _ (by rw [hsz, hcy, Int.add_zero]) rfl)
  have b1 : decide (I < 0) = false := by simpa using c1
  rw [if_neg c1] at hcy
  obtain ⟨r0, r1, r2⟩ := isq_rt (n := I) (by omega)
  have croot : PC Try.prog 56 [iV I] (iV (isq I)) := root_p (by omega) (by omega)
  generalize isq I = s at *
  have rs : s ≤ s * s := (sq_abs s).1
  refine goA ?_
  refine evG ggA (ss_call (InB_of rfl) rfl rfl croot) ?_
  refine goA ?_
  by_cases c2 : s * s = I
  case neg =>
    have b2 : (s * s != I) = true := by simpa using c2
    rw [if_pos (by simpa using c2)] at hcy
    refine goA ?_
    exact loopQ_intro (k := 2 * Y.toNat + 1 - (i + 1)) (s' := mkS [(1, .v (iV n)), (2, .ptr 2 0), (4, .v (iV 0)), (5, .v (iV 0)), (7, .v (iV Y)), (8, .v (iV (c0))), (9, .v (iV (y + 1)))] [(2, .var [.v (iV g.a), .v (iV g.b), .v (iV g.c)])] 108 true) (by omega) (by exact entA) (fin _ _ (by rw [hsz, hcy, Int.add_zero]) rfl)
  have b2 : (s * s != I) = false := by simpa using c2
  rw [if_neg (by simpa using c2), show -s - g.b * y = 0 - s - g.b * y by omega] at hcy
  have t1 := tdiv_bd (y := 2 * g.a) (N := 1000000000000000000) (x := s - g.b * y) (by unfold Bd; omega)
  refine goA ?_
  refine evG ggA (ss_div (op := .rem) (InB_of rfl) rfl rfl (by omega) rfl) ?_
  refine runA ?_
  by_cases c3 : (s - g.b * y).tmod (2 * g.a) = 0
  · have b3 : ((s - g.b * y).tmod (2 * g.a) == 0) = true := by simpa using c3
    rw [indT c3] at hcy
    refine goA ?_
    by_cases c4 : 0 < s
    case neg =>
      have b4 : decide (s > 0) = false := by simpa using c4
      rw [indF (fun h => c4 h.1)] at hcy
      refine goA ?_
      exact loopQ_intro (k := 2 * Y.toNat + 1 - (i + 1)) (s' := mkS [(1, .v (iV n)), (2, .ptr 2 0), (4, .v (iV 0)), (5, .v (iV 0)), (7, .v (iV Y)), (8, .v (iV (c0 + 1))), (9, .v (iV (y + 1)))] [(2, .var [.v (iV g.a), .v (iV g.b), .v (iV g.c)])] 108 true) (by omega) (by exact entA) (fin _ _ (by rw [hsz, hcy, Int.add_zero]) rfl)
    have b4 : decide (s > 0) = true := by simpa using c4
    refine goA ?_
    refine evG ggA (ss_div (op := .rem) (InB_of rfl) rfl rfl (by omega) rfl) ?_
    refine runA ?_
    by_cases c5 : (0 - s - g.b * y).tmod (2 * g.a) = 0
    · have b5 : ((0 - s - g.b * y).tmod (2 * g.a) == 0) = true := by simpa using c5
      rw [indT ⟨c4, c5⟩] at hcy
      refine goA ?_
      exact loopQ_intro (k := 2 * Y.toNat + 1 - (i + 1)) (s' := mkS [(1, .v (iV n)), (2, .ptr 2 0), (4, .v (iV 0)), (5, .v (iV 0)), (7, .v (iV Y)), (8, .v (iV (c0 + 1 + 1))), (9, .v (iV (y + 1)))] [(2, .var [.v (iV g.a), .v (iV g.b), .v (iV g.c)])] 108 true) (by omega) (by exact entA) (fin _ _ (by rw [hsz, hcy, ← Int.add_assoc]) rfl)
    · have b5 : ((0 - s - g.b * y).tmod (2 * g.a) == 0) = false := by simpa using c5
      rw [indF (fun h => c5 h.2)] at hcy
      refine goA ?_
      exact loopQ_intro (k := 2 * Y.toNat + 1 - (i + 1)) (s' := mkS [(1, .v (iV n)), (2, .ptr 2 0), (4, .v (iV 0)), (5, .v (iV 0)), (7, .v (iV Y)), (8, .v (iV (c0 + 1))), (9, .v (iV (y + 1)))] [(2, .var [.v (iV g.a), .v (iV g.b), .v (iV g.c)])] 108 true) (by omega) (by exact entA) (fin _ _ (by rw [hsz, hcy, Int.add_zero]) rfl)
  · have b3 : ((s - g.b * y).tmod (2 * g.a) == 0) = false := by simpa using c3
    rw [indF c3] at hcy
    refine goA ?_
    by_cases c4 : 0 < s
    case neg =>
      have b4 : decide (s > 0) = false := by simpa using c4
      rw [indF (fun h => c4 h.1)] at hcy
      refine goA ?_
      exact loopQ_intro (k := 2 * Y.toNat + 1 - (i + 1)) (s' := mkS [(1, .v (iV n)), (2, .ptr 2 0), (4, .v (iV 0)), (5, .v (iV 0)), (7, .v (iV Y)), (8, .v (iV (c0))), (9, .v (iV (y + 1)))] [(2, .var [.v (iV g.a), .v (iV g.b), .v (iV g.c)])] 108 true) (by omega) (by exact entA) (fin _ _ (by rw [hsz, hcy, Int.add_zero, Int.add_zero]) rfl)
    have b4 : decide (s > 0) = true := by simpa using c4
    refine goA ?_
    refine evG ggA (ss_div (op := .rem) (InB_of rfl) rfl rfl (by omega) rfl) ?_
    refine runA ?_
    by_cases c5 : (0 - s - g.b * y).tmod (2 * g.a) = 0
    · have b5 : ((0 - s - g.b * y).tmod (2 * g.a) == 0) = true := by simpa using c5
      rw [indT ⟨c4, c5⟩] at hcy
      refine goA ?_
      exact loopQ_intro (k := 2 * Y.toNat + 1 - (i + 1)) (s' := mkS [(1, .v (iV n)), (2, .ptr 2 0), (4, .v (iV 0)), (5, .v (iV 0)), (7, .v (iV Y)), (8, .v (iV (c0 + 1))), (9, .v (iV (y + 1)))] [(2, .var [.v (iV g.a), .v (iV g.b), .v (iV g.c)])] 108 true) (by omega) (by exact entA) (fin _ _ (by rw [hsz, hcy, Int.zero_add]) rfl)
    · have b5 : ((0 - s - g.b * y).tmod (2 * g.a) == 0) = false := by simpa using c5
      rw [indF (fun h => c5 h.2)] at hcy
      refine goA ?_
      exact loopQ_intro (k := 2 * Y.toNat + 1 - (i + 1)) (s' := mkS [(1, .v (iV n)), (2, .ptr 2 0), (4, .v (iV 0)), (5, .v (iV 0)), (7, .v (iV Y)), (8, .v (iV (c0))), (9, .v (iV (y + 1)))] [(2, .var [.v (iV g.a), .v (iV g.b), .v (iV g.c)])] 108 true) (by omega) (by exact entA) (fin _ _ (by rw [hsz, hcy, Int.add_zero, Int.add_zero]) rfl)
end Ab
