/- Values, moved forms, coprime values: walked. -/
import Derived.Test.YtajlkcnlfiikeaaQwM
set_option linter.all false
namespace Ab
open Go Go.RowKit Go.Proofs Qf
set_option maxRecDepth 100000

theorem value_p {f : F} {x y : Int} (h : VB f x y) : PC Try.prog 97 [fA f, iV x, iV y] (iV (f.val x y)) := by
  obtain ⟨h1, h2, h3, h4, h5, h6⟩ := h
  unfold Bd at *
  refine pc_body1 true Try.func97 rfl rfl rfl (Nat.le_of_ble_eq_true rfl) CellT.tmp ?_
  refine goA ?_
  exact rfl
/-- a reduced form of a small discriminant -/
structure Sd (g : F) : Prop where
  r : g.Red
  a : g.a ≤ 36
  b : Bd 36 g.b
  c : g.c ≤ 1400
  d : -4000 ≤ g.disc
theorem sd_of {g : F} (h : g.Red) (hd : -4000 ≤ g.disc) : Sd g := by
  have h5 := h.disc
  have hpa := h.pos.a
  have hpc := h.pos.c
  have ha : g.a ≤ 36 := by
    refine Classical.byContradiction fun hn => ?_
    have := Int.mul_le_mul (show 37 ≤ g.a by omega) (show 37 ≤ g.a by omega) (by decide) (by omega)
    omega
  have b1 := h.b1
  have b2 := h.b2
  have hb : Bd 36 g.b := by unfold Bd; omega
  have x3 := bmul hb hb
  unfold Bd at x3
  have hc : g.c ≤ 1400 := by
    have e2 : g.disc = g.b * g.b - 4 * (g.a * g.c) := by simp only [F.disc]; grind
    have := Int.mul_le_mul_of_nonneg_right (show 1 ≤ g.a by omega) (show 0 ≤ g.c by omega)
    omega
  exact ⟨h, ha, hb, hc, hd⟩
theorem Sd.bd {g : F} (h : Sd g) : FBd 1400 g := by
  have := h.r.pos.a
  have := h.r.pos.c
  have := h.a
  have := h.b
  have := h.c
  exact ⟨by unfold Bd; omega, by unfold Bd at *; omega, by unfold Bd; omega⟩
theorem one_gI {x : Int} (h : gI x 0 = 1) (hx : 0 ≤ x) : x = 1 := by rw [gI_zero] at h; omega
theorem xg_moved {x y : Int} (hx : 0 ≤ x) (hx1 : x ≤ 80) (hy : 0 ≤ y) (hy1 : y ≤ 80) (hg : gI x y = 1) : ∃ u v : Int, u * x + v * y = 1 ∧ Bd 81 u ∧ Bd 81 v ∧ PC Try.prog 99 [iV x, iV y] (.tup [iV 1, iV u, iV v, iV 0]) := by
  by_cases h0 : y = 0
  · subst h0
    obtain rfl := one_gI hg hx
    exact ⟨1, 0, by decide, by unfold Bd; decide, by unfold Bd; decide, xgcd0_p (by decide) (by decide)⟩
  · have c := xgcd_p hx (by omega) (show 0 < y by omega) (by omega)
    obtain ⟨h1, h2, h3, h4, h5⟩ := xg_spec hx (show 0 < y by omega)
    have h6 := xgV_bd hx (show 0 < y by omega)
    rw [hg] at c h5
    exact ⟨xgU x y, xgV x y, h5.symm, by unfold Bd; omega, by unfold Bd; omega, c⟩
set_option maxHeartbeats 1000000 in
theorem moved_p {g : F} (hS : Sd g) {x y : Int} (hx : 0 ≤ x) (hx1 : x ≤ 80) (hy : 0 ≤ y) (hy1 : y ≤ 80) (hg : gI x y = 1) : ∃ m : M, m.det = 1 ∧ m.a = x ∧ m.c = y ∧ MBd 81 m ∧ PC Try.prog 98 [fA g, iV x, iV y] (fA (g.by m)) := by
  obtain ⟨u, v, e, hu, hv, c1⟩ := xg_moved hx hx1 hy hy1 hg
  have hb := hS.bd
  have bx : Bd 81 x := by unfold Bd; omega
  have by' : Bd 81 y := by unfold Bd; omega
  have bv : Bd 81 (0 - v) := by unfold Bd at *; omega
  refine ⟨⟨x, 0 - v, y, u⟩, by simp only [M.det]; grind, rfl, rfl, ⟨bx, bv, by', hu⟩, ?_⟩
  have c2 := value_p (vb_of hb bx by' (by decide) (by decide))
  have c3 := value_p (vb_of hb bv hu (by decide) (by decide))
  have er : fA (g.by ⟨x, 0 - v, y, u⟩) = .agg [iV (g.val x y), iV (2 * g.a * x * (0 - v) + g.b * (x * u - y * v) + 2 * g.c * y * u), iV (g.val (0 - v) u)] := by
    have : (g.by ⟨x, 0 - v, y, u⟩).b = 2 * g.a * x * (0 - v) + g.b * (x * u - y * v) + 2 * g.c * y * u := by simp only [F.by]; grind
    unfold fA
    rw [this]
    rfl
  rw [er]
  have q1 := bmul (show Bd 2800 (2 * g.a) by have := hb.a; unfold Bd at *; omega) bx
  have q2 := bmul q1 bv
  have q3 := bmul bx hu
  have q4 := bmul by' hv
  have q5 := bmul hb.b (show Bd 20000 (x * u - y * v) by unfold Bd at *; omega)
  have q6 := bmul (show Bd 2800 (2 * g.c) by have := hb.c; unfold Bd at *; omega) by'
  have q7 := bmul q6 hu
  have hba := hb.a
  have hbc := hb.c
  clear er hS hb
  unfold Bd at *
  refine pc_body1 true Try.func98 rfl rfl rfl (Nat.le_of_ble_eq_true rfl) (CellT.agg agg_F) ?_
  refine goA ?_
  refine evG ggA (ss_call (InB_of rfl) rfl rfl c1) ?_
  refine goA ?_
  refine evG ggA (ss_call (InB_of rfl) rfl rfl c2) ?_
  refine goA ?_
  refine evG ggA (ss_call (InB_of rfl) rfl rfl c3) ?_
  refine goA ?_
  exact rfl
theorem min_pair (P : Nat → Nat → Prop) : ∀ s x, x ≤ s → P s x → ∃ S X, X ≤ S ∧ S ≤ s ∧ P S X ∧ (∀ s' x', s' < S → x' ≤ s' → ¬ P s' x') ∧ ∀ x', x' < X → ¬ P S x' := by
  intro s
  induction s using Nat.strongRecOn with
  | _ s ih =>
    intro x hx hp
    by_cases h : ∃ s' x', s' < s ∧ x' ≤ s' ∧ P s' x'
    · obtain ⟨s', x', h1, h2, h3⟩ := h
      obtain ⟨S, X, k1, k2, k3⟩ := ih s' h1 x' h2 h3
      exact ⟨S, X, k1, by omega, k3⟩
    · induction x using Nat.strongRecOn with
      | _ x ih2 =>
        by_cases h2 : ∃ x', x' < x ∧ P s x'
        · obtain ⟨x', k1, k2⟩ := h2
          exact ih2 x' k1 (by omega) k2
        · exact ⟨s, x, hx, Nat.le_refl _, hp, fun s' x' a b c => h ⟨s', x', a, b, c⟩, fun x' a b => h2 ⟨x', a, b⟩⟩
def good (g : F) (n : Int) (s x : Nat) : Prop := gI x ((s : Int) - x) = 1 ∧ gI (g.val x ((s : Int) - x)) n = 1
set_option maxHeartbeats 4000000 in
theorem unite_p {g : F} (hS : Sd g) (hct : g.ct = 1) {n : Int} (hn : 0 < n) (hn1 : n ≤ 36) : ∃ m : M, m.det = 1 ∧ gI (g.by m).a n = 1 ∧ MBd 81 m ∧ PC Try.prog 81 [fA g, iV n] (fA (g.by m)) := by
  obtain ⟨x0, y0, e1, e2, x1, x2, y1, y2⟩ := prim_val hct (a := n.natAbs) (by omega)
  have hgood : good g n (x0 + y0) x0 := by
    unfold good
    rw [show ((x0 + y0 : Nat) : Int) - x0 = y0 by omega]
    constructor
    · unfold gI
      simp only [Int.natAbs_natCast]
      rw [e1]
      rfl
    · unfold gI
      rw [e2]
      rfl
  obtain ⟨S, X, k1, k2, ⟨k3, k3'⟩, k4, k5⟩ := min_pair (good g n) _ _ (by omega) hgood
  clear hgood e1 e2
  have hS72 : S ≤ 72 := by omega
  clear x1 x2 y1 y2 k2
  obtain ⟨m, m1, m2, m3, m4, cm⟩ := moved_p hS (x := X) (y := (S : Int) - X) (by omega) (by omega) (by omega) (by omega) k3
  refine ⟨m, m1, ?_, m4, ?_⟩
  · show gI (g.val m.a m.c) n = 1
    rw [m2, m3]
    exact k3'
  have hb := hS.bd
  have hS0 : 1 ≤ S := by
    refine Classical.byContradiction fun h => ?_
    obtain rfl : S = 0 := by omega
    obtain rfl : X = 0 := by omega
    exact absurd k3 (by decide)
  have cg : ∀ s x : Nat, x ≤ s → s ≤ 72 → PC Try.prog 84 [iV x, iV ((s : Int) - x)] (iV (gI x ((s : Int) - x))) := fun s x h1 h2 => gcd_p (by unfold Bd; omega) (by unfold Bd; omega)
  have cv : ∀ s x : Nat, x ≤ s → s ≤ 72 → PC Try.prog 97 [fA g, iV x, iV ((s : Int) - x)] (iV (g.val x ((s : Int) - x))) := fun s x h1 h2 => value_p (vb_of (X := 100) hb (by unfold Bd; omega) (by unfold Bd; omega) (by decide) (by decide))
  have cgv : ∀ s x : Nat, x ≤ s → s ≤ 72 → PC Try.prog 84 [iV (g.val x ((s : Int) - x)), iV n] (iV (gI (g.val x ((s : Int) - x)) n)) := fun s x h1 h2 => by
    have hv := vb_of (X := 100) hb (x := x) (y := (s : Int) - x) (by unfold Bd; omega) (by unfold Bd; omega) (by decide) (by decide)
    refine gcd_p ?_ (by unfold Bd; omega)
    have := hv.a2
    have := hv.b2
    have := hv.c2
    unfold F.val Bd at *
    omega
  clear hb hct hS
  unfold good at k4 k5
  refine pc_body1 true Try.func81 rfl rfl rfl (Nat.le_of_ble_eq_true rfl) (CellT.agg agg_F) ?_
  refine goA ?_
  refine T.loop (fun k s1 => ∃ s : Nat, 1 ≤ s ∧ s ≤ S ∧ k = 73 - s ∧ s1 = mkS [(1, .v (iV n)), (2, .ptr 2 0), (4, .ptr 4 0), (5, .v (iV (s : Nat)))] [(2, .var [.v (iV g.a), .v (iV g.b), .v (iV g.c)]), (4, .var [.v (iV 0), .v (iV 0), .v (iV 0)])] 35 true) 72
    (s' := mkS [(1, .v (iV n)), (2, .ptr 2 0), (4, .ptr 4 0), (5, .v (iV (1 : Nat)))] [(2, .var [.v (iV g.a), .v (iV g.b), .v (iV g.c)]), (4, .var [.v (iV 0), .v (iV 0), .v (iV 0)])] 35 true) (by exact entA) ⟨1, by omega, hS0, rfl, rfl⟩ ?_
  rintro _ _ ⟨s, s0, s1, rfl, rfl⟩
  refine goA ?_
  refine T.loop (fun k s1 => ∃ x : Nat, x ≤ s + 1 ∧ (s = S → x ≤ X) ∧ k = s + 1 - x ∧ s1 = mkS [(1, .v (iV n)), (2, .ptr 2 0), (4, .ptr 4 0), (5, .v (iV (s : Nat))), (6, .v (iV (x : Nat)))] [(2, .var [.v (iV g.a), .v (iV g.b), .v (iV g.c)]), (4, .var [.v (iV 0), .v (iV 0), .v (iV 0)])] 35 true) (s + 1)
    (s' := mkS [(1, .v (iV n)), (2, .ptr 2 0), (4, .ptr 4 0), (5, .v (iV (s : Nat))), (6, .v (iV (0 : Nat)))] [(2, .var [.v (iV g.a), .v (iV g.b), .v (iV g.c)]), (4, .var [.v (iV 0), .v (iV 0), .v (iV 0)])] 35 true) (by exact entA) ⟨0, by omega, fun _ => Nat.zero_le _, rfl, rfl⟩ ?_
  rintro _ _ ⟨x, x0, x1, rfl, rfl⟩
  by_cases hx : x ≤ s
  case neg =>
    have hb : decide ((x : Int) ≤ (s : Int)) = false := by simp; omega
    refine goA ?_
    exact loopQ_intro (k := 73 - (s + 1)) (s' := mkS [(1, .v (iV n)), (2, .ptr 2 0), (4, .ptr 4 0), (5, .v (iV ((s : Int) + 1)))] [(2, .var [.v (iV g.a), .v (iV g.b), .v (iV g.c)]), (4, .var [.v (iV 0), .v (iV 0), .v (iV 0)])] 35 true) (by omega) (by exact entA) ⟨s + 1, by omega, by
      refine Classical.byContradiction fun h => ?_
      obtain rfl : s = S := by omega
      have := x1 rfl
      omega, rfl, rfl⟩
  have hb : decide ((x : Int) ≤ (s : Int)) = true := by simp; omega
  have g1 := cg s x hx (by omega)
  have g2 := cv s x hx (by omega)
  have g3 := cgv s x hx (by omega)
  have hnx : ¬ good g n s x → (s = S → x + 1 ≤ X) := fun hn e => by
    subst e
    have := x1 rfl
    refine Classical.byContradiction fun h => hn ?_
    obtain rfl : x = X := by omega
    exact ⟨k3, k3'⟩
  have hng : ∀ s2 : AS, ¬ good g n s x → s2 = mkS [(1, .v (iV n)), (2, .ptr 2 0), (4, .ptr 4 0), (5, .v (iV (s : Nat))), (6, .v (iV ((x : Int) + 1)))] [(2, .var [.v (iV g.a), .v (iV g.b), .v (iV g.c)]), (4, .var [.v (iV 0), .v (iV 0), .v (iV 0)])] 35 true →
    ∃ x' : Nat, x' ≤ s + 1 ∧ (s = S → x' ≤ X) ∧ s + 1 - (x + 1) = s + 1 - x' ∧ s2 = mkS [(1, .v (iV n)), (2, .ptr 2 0), (4, .ptr 4 0), (5, .v (iV (s : Nat))), (6, .v (iV (x' : Nat)))] [(2, .var [.v (iV g.a), .v (iV g.b), .v (iV g.c)]), (4, .var [.v (iV 0), .v (iV 0), .v (iV 0)])] 35 true := fun s2 hn e => ⟨x + 1, by omega, hnx hn, rfl, e⟩
  by_cases c1 : gI x ((s : Int) - x) = 1
  case neg =>
    have b1 : (gI x ((s : Int) - x) == 1) = false := by simpa using c1
    have ng : ¬ good g n s x := fun h => c1 h.1
    generalize gI x ((s : Int) - x) = q at *
    refine goA ?_
    refine evG ggA (ss_call (InB_of rfl) rfl rfl g1) ?_
    refine goA ?_
    exact loopQ_intro (k := s + 1 - (x + 1)) (s' := mkS [(1, .v (iV n)), (2, .ptr 2 0), (4, .ptr 4 0), (5, .v (iV (s : Nat))), (6, .v (iV ((x : Int) + 1)))] [(2, .var [.v (iV g.a), .v (iV g.b), .v (iV g.c)]), (4, .var [.v (iV 0), .v (iV 0), .v (iV 0)])] 35 true) (by omega) (by exact entA) (hng _ ng rfl)
  have b1 : (gI x ((s : Int) - x) == 1) = true := by simpa using c1
  by_cases c2 : gI (g.val x ((s : Int) - x)) n = 1
  case neg =>
    have b2 : (gI (g.val x ((s : Int) - x)) n == 1) = false := by simpa using c2
    have ng : ¬ good g n s x := fun h => c2 h.2
    generalize gI x ((s : Int) - x) = q at *
    generalize gI (g.val x ((s : Int) - x)) n = q2 at *
    generalize g.val x ((s : Int) - x) = q3 at *
    refine goA ?_
    refine evG ggA (ss_call (InB_of rfl) rfl rfl g1) ?_
    refine goA ?_
    refine evG ggA (ss_call (InB_of rfl) rfl rfl g2) ?_
    refine goA ?_
    refine evG ggA (ss_call (InB_of rfl) rfl rfl g3) ?_
    refine goA ?_
    exact loopQ_intro (k := s + 1 - (x + 1)) (s' := mkS [(1, .v (iV n)), (2, .ptr 2 0), (4, .ptr 4 0), (5, .v (iV (s : Nat))), (6, .v (iV ((x : Int) + 1)))] [(2, .var [.v (iV g.a), .v (iV g.b), .v (iV g.c)]), (4, .var [.v (iV 0), .v (iV 0), .v (iV 0)])] 35 true) (by omega) (by exact entA) (hng _ ng rfl)
  have b2 : (gI (g.val x ((s : Int) - x)) n == 1) = true := by simpa using c2
  obtain ⟨rfl, rfl⟩ : s = S ∧ x = X := by
    have h1 : s = S := by
      refine Classical.byContradiction fun h => ?_
      exact k4 s x (by omega) hx ⟨c1, c2⟩
    subst h1
    refine ⟨rfl, ?_⟩
    have := x1 rfl
    refine Classical.byContradiction fun h => ?_
    exact k5 x (by omega) ⟨c1, c2⟩
  clear hng hnx k3 k3' k4 k5 c1 c2 x1 m2 m3
  generalize gI x ((s : Int) - x) = q at *
  generalize gI (g.val x ((s : Int) - x)) n = q2 at *
  generalize g.val x ((s : Int) - x) = q3 at *
  refine goA ?_
  refine evG ggA (ss_call (InB_of rfl) rfl rfl g1) ?_
  refine goA ?_
  refine evG ggA (ss_call (InB_of rfl) rfl rfl g2) ?_
  refine goA ?_
  refine evG ggA (ss_call (InB_of rfl) rfl rfl g3) ?_
  refine goA ?_
  refine evG ggA (ss_call (InB_of rfl) rfl rfl cm) ?_
  refine goA ?_
  exact rfl
end Ab
