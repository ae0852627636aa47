/- The statement QuadformRepresents: walked. -/
import Derived.Test.YtajlkcnlfiikeaaQwS
set_option linter.all false
namespace Ab
open Go Go.RowKit Go.Proofs Qf
set_option maxRecDepth 100000

/-- sums over x below k, both signs -/
def sx (h : Int → Int) : Nat → Int
  | 0 => 0
  | k + 1 => sx h k + s2 h k
theorem sx_ss (h : Int → Int) : ∀ Y, ss h Y = sx h (Y + 1)
  | 0 => by simp [ss, sx]
  | Y + 1 => by
    rw [ss, sx_ss h Y]
    rfl
theorem s2_add (h g : Int → Int) (y : Nat) : s2 (fun v => h v + g v) y = s2 h y + s2 g y := by
  unfold s2
  split
  · rfl
  · simp only
    omega
/-- one of the four signs -/
def tm (h : Int → Int → Int) (x y s : Nat) : Int := if (0 < x ∨ s % 2 = 0) ∧ (0 < y ∨ s / 2 = 0) then h (if s % 2 = 1 then -(x : Int) else x) (if s / 2 = 1 then -(y : Int) else y) else 0
def ts (h : Int → Int → Int) (x y : Nat) : Nat → Int
  | 0 => 0
  | s + 1 => ts h x y s + tm h x y s
theorem ts_signs (h : Int → Int → Int) (x y : Nat) : ts h x y 4 = s2 (fun v => s2 (fun u => h u v) x) y := by
  rw [signs]
  simp only [ts, tm]
  by_cases c1 : 0 < x <;> by_cases c2 : 0 < y <;> simp [c1, c2] <;> omega
def rg (g : F) (n : Int) (u v : Int) : Int := ind (g.val u v = n)
def repX (g : F) (n : Int) : Int := isq ((4 * g.c * n).tdiv (0 - g.disc))
theorem x_small {g : F} (h : Sm g) {n x : Int} (n0 : 0 ≤ n) (n1 : n ≤ 4000) (hy : -g.disc * (x * x) ≤ 4 * g.c * n) : Bd 74 x := by
  refine abs_le_of_sq (by decide) ?_
  have ha := h.r.pos.a
  have hc := h.r.pos.c
  have b1 := h.r.b1
  have b2 := h.r.b2
  have hac : g.a ≤ g.c := h.r.ac
  have hbb : g.b * g.b ≤ g.a * g.a := by
    have := Int.mul_nonneg (show 0 ≤ g.a - g.b by omega) (show 0 ≤ g.a + g.b by omega)
    have e : (g.a - g.b) * (g.a + g.b) = g.a * g.a - g.b * g.b := by grind
    omega
  have haa : g.a * g.a ≤ g.a * g.c := Int.mul_le_mul_of_nonneg_left hac (by omega)
  have hcc : 1 * g.c ≤ g.a * g.c := Int.mul_le_mul_of_nonneg_right (by omega) (by omega)
  have ed : g.disc = g.b * g.b - 4 * (g.a * g.c) := by simp only [F.disc]; grind
  have hd : 3 * g.c ≤ -g.disc := by omega
  have h1 := Int.mul_le_mul_of_nonneg_right hd (sq_nonneg x)
  have h2 : g.c * (3 * (x * x)) ≤ g.c * (4 * n) := by
    have e1 : g.c * (3 * (x * x)) = 3 * g.c * (x * x) := by grind
    have e2 : g.c * (4 * n) = 4 * g.c * n := by grind
    omega
  have h3 := le_of_mul hc h2
  omega
theorem repX_spec {g : F} (h : Sm g) {n : Int} (n0 : 0 ≤ n) (n1 : n ≤ 4000) : 0 ≤ repX g n ∧ repX g n ≤ 74 ∧ ∀ x, -g.disc * (x * x) ≤ 4 * g.c * n ↔ x * x ≤ (4 * g.c * n).tdiv (0 - g.disc) := by
  have hc := h.r.pos.c
  have hd := h.d
  have hq : 0 ≤ 4 * g.c * n := Int.mul_nonneg (by omega) n0
  have key : ∀ y, -g.disc * (y * y) ≤ 4 * g.c * n ↔ y * y ≤ (4 * g.c * n).tdiv (0 - g.disc) := fun y => by
    rw [Int.tdiv_eq_ediv_of_nonneg hq, Int.le_ediv_iff_mul_le (by omega), Int.mul_comm, show 0 - g.disc = -g.disc by omega]
  have h0 : 0 ≤ (4 * g.c * n).tdiv (0 - g.disc) := by rw [Int.tdiv_eq_ediv_of_nonneg hq]; exact Int.ediv_nonneg hq (by omega)
  obtain ⟨r0, r1, r2⟩ := isq_rt h0
  exact ⟨r0, (x_small h n0 n1 ((key _).2 r1)).2, key⟩
/-- the program's count is the document's -/
theorem rep_eq {g : F} (h : Sm g) {n : Int} (n0 : 0 ≤ n) (n1 : n ≤ 4000) : rep g n = sx (fun v => sx (fun u => rg g n u v) ((repX g n).toNat + 1)) ((repY g n).toNat + 1) := by
  obtain ⟨y0, -, -⟩ := repY_spec h n0 n1
  obtain ⟨x0, -, hx⟩ := repX_spec h n0 n1
  have hc := h.r.pos.c
  have hq : 0 ≤ 4 * g.c * n := Int.mul_nonneg (by omega) n0
  have hr := isq_rt (n := (4 * g.c * n).tdiv (0 - g.disc)) (by rw [Int.tdiv_eq_ediv_of_nonneg hq]; exact Int.ediv_nonneg hq (by have := h.d; omega))
  rw [← sx_ss]
  unfold rep
  have e : 0 - repY g n = -(((repY g n).toNat : Nat) : Int) := by omega
  rw [e, sz_ss]
  refine ss_congr _ fun y _ _ => ?_
  rw [← sx_ss]
  refine cy_eq h.r.pos (fun m m0 _ => isq_rt m0) fun x hv => ?_
  have h1 : -g.disc * (x * x) ≤ 4 * g.c * n := by
    have := four_val_c g x y
    rw [hv] at this
    have := sq_nonneg (2 * g.c * y + g.b * x)
    omega
  have h2 := (hx x).1 h1
  have habs : (x.natAbs : Int) * x.natAbs ≤ (4 * g.c * n).tdiv (0 - g.disc) := by
    rcases Int.le_total 0 x with hp | hp
    · rw [show (x.natAbs : Int) = x by omega]; exact h2
    · rw [show (x.natAbs : Int) = -x by omega]
      have e : -x * -x = x * x := by grind
      omega
  have h3 := hr.le (x := x.natAbs) (by omega) habs
  have e2 : repX g n = isq ((4 * g.c * n).tdiv (0 - g.disc)) := rfl
  omega
theorem tm_no {h : Int → Int → Int} {x y s : Nat} (hc : ¬ ((0 < x ∨ s % 2 = 0) ∧ (0 < y ∨ s / 2 = 0))) : tm h x y s = 0 := if_neg hc
theorem tm_yes {h : Int → Int → Int} {x y s : Nat} (hc : (0 < x ∨ s % 2 = 0) ∧ (0 < y ∨ s / 2 = 0)) : tm h x y s = h (if s % 2 = 1 then -(x : Int) else x) (if s / 2 = 1 then -(y : Int) else y) := if_pos hc
theorem tm_bd (g : F) (n : Int) (x y s : Nat) : 0 ≤ tm (rg g n) x y s ∧ tm (rg g n) x y s ≤ 1 := by
  unfold tm
  split
  · exact ind_bd _
  · omega
theorem thr {q y r : Int} (h : Rt q r) (hy : 0 ≤ y) : y * y ≤ q ↔ y ≤ r := ⟨h.le hy, h.ge hy⟩
theorem rg_one {g : F} {n u v : Int} (h : g.val u v = n) : rg g n u v = 1 := by unfold rg ind; rw [if_pos h]
theorem rg_zero {g : F} {n u v : Int} (h : ¬ g.val u v = n) : rg g n u v = 0 := by unfold rg ind; rw [if_neg h]
set_option maxHeartbeats 8000000 in
theorem rrepresent_p {f : F} (p : f.Pos) (b : FBd 10000 f) {n : Int} (n0 : 0 ≤ n) (n1 : n ≤ 4000) : PC Try.prog 19 [fA f, iV n] (iV (rep f.rd n)) := by
  have c1 := rreduce_p p b (by decide) (by decide)
  have hs := sm_rd p b
  clear p b
  generalize f.rd = g at *
  have hgb : FBd 200000000 g := by
    have := hs.r.pos.a
    have := hs.r.pos.c
    have := hs.a
    have := hs.b
    have := hs.c
    exact ⟨by unfold Bd; omega, by unfold Bd at *; omega, by unfold Bd; omega⟩
  have c2 := rdisc_p hgb (by decide)
  have cv : ∀ u v : Int, Bd 80 u → Bd 80 v → PC Try.prog 20 [fA g, iV u, iV v] (iV (g.val u v)) := fun u v hu hv => rvalue_p (vb_of hgb hu hv (by decide) (by decide))
  rw [rep_eq hs n0 n1]
  obtain ⟨y0, y1, hy⟩ := repY_spec hs n0 n1
  obtain ⟨x0, x1, hx⟩ := repX_spec hs n0 n1
  have hqy : 0 ≤ 4 * g.a * n := Int.mul_nonneg (by have := hs.r.pos.a; omega) n0
  have hqx : 0 ≤ 4 * g.c * n := Int.mul_nonneg (by have := hs.r.pos.c; omega) n0
  have ry := isq_rt (n := (4 * g.a * n).tdiv (0 - g.disc)) (by rw [Int.tdiv_eq_ediv_of_nonneg hqy]; exact Int.ediv_nonneg hqy (by have := hs.d; omega))
  have rx := isq_rt (n := (4 * g.c * n).tdiv (0 - g.disc)) (by rw [Int.tdiv_eq_ediv_of_nonneg hqx]; exact Int.ediv_nonneg hqx (by have := hs.d; omega))
  have hy' : ∀ y : Int, 0 ≤ y → ((0 - g.disc) * y * y ≤ 4 * g.a * n ↔ y ≤ repY g n) := fun y h0 => by
    rw [show (0 - g.disc) * y * y = -g.disc * (y * y) by grind, hy y, thr ry h0]
    rfl
  have hx' : ∀ x : Int, 0 ≤ x → ((0 - g.disc) * x * x ≤ 4 * g.c * n ↔ x ≤ repX g n) := fun x h0 => by
    rw [show (0 - g.disc) * x * x = -g.disc * (x * x) by grind, hx x, thr rx h0]
    rfl
  obtain ⟨Y, hY⟩ : ∃ Y : Nat, (Y : Int) = repY g n := ⟨(repY g n).toNat, by omega⟩
  obtain ⟨X, hX⟩ : ∃ X : Nat, (X : Int) = repX g n := ⟨(repX g n).toNat, by omega⟩
  rw [show (repY g n).toNat = Y by omega, show (repX g n).toNat = X by omega]
  rw [← hY] at hy'
  rw [← hX] at hx'
  have hY74 : Y ≤ 74 := by omega
  have hX74 : X ≤ 74 := by omega
  clear hy hx hqy hqx ry rx hY hX y0 y1 x0 x1
  have hdb : Bd 600000000 (0 - g.disc) := by have := hs.d; have := hs.d2; unfold Bd; omega
  have hab : Bd 800000000 (4 * g.a) := by have := hgb.a; unfold Bd at *; omega
  have hcb : Bd 800000000 (4 * g.c) := by have := hgb.c; unfold Bd at *; omega
  have qa := bmul hab (show Bd 4000 n by unfold Bd; omega)
  have qc := bmul hcb (show Bd 4000 n by unfold Bd; omega)
  have hga := hgb.a
  have hgc := hgb.c
  have qd : ∀ y : Nat, y ≤ 75 → Bd 50000000000 ((0 - g.disc) * y) ∧ Bd 5000000000000 ((0 - g.disc) * y * y) := fun y h => by
    have z1 := bmul hdb (show Bd 75 (y : Int) by unfold Bd; omega)
    have z2 := bmul z1 (show Bd 75 (y : Int) by unfold Bd; omega)
    unfold Bd at *
    omega
  clear hgb hs hab hcb
  have htb := tm_bd g n
  unfold Bd at hdb qa qc qd hga hgc
  refine pc_body1 true Try.func19 rfl rfl rfl (Nat.le_of_ble_eq_true rfl) CellT.tmp ?_
  refine goA ?_
  refine evG ggA (ss_call (InB_of rfl) rfl rfl c1) ?_
  refine goA ?_
  refine evG ggA (ss_call (InB_of rfl) rfl rfl c2) ?_
  refine goA ?_
  refine T.loop (fun k s1 => ∃ (y : Nat) (C : Int), y ≤ Y + 1 ∧ k = Y + 1 - y ∧ C = sx (fun v => sx (fun u => rg g n u v) (X + 1)) y ∧ 0 ≤ C ∧ C ≤ 320 * y ∧ s1 = mkS [(1, .v (iV n)), (2, .ptr 2 0), (5, .v (iV (0 - g.disc))), (6, .v (iV C)), (7, .v (iV (y : Nat)))] [(2, .var [.v (iV g.a), .v (iV g.b), .v (iV g.c)])] 86 true) (Y + 1)
    (s' := mkS [(1, .v (iV n)), (2, .ptr 2 0), (5, .v (iV (0 - g.disc))), (6, .v (iV 0)), (7, .v (iV (0 : Nat)))] [(2, .var [.v (iV g.a), .v (iV g.b), .v (iV g.c)])] 86 true) (by exact entA) ⟨0, 0, by omega, rfl, rfl, by omega, by omega, rfl⟩ ?_
  rintro _ _ ⟨y, C, hyY, rfl, hC, hC0, hC1, rfl⟩
  obtain ⟨z1, z2⟩ := qd y (by omega)
  have hyc := hy' y (by omega)
  by_cases cy : y ≤ Y
  case neg =>
    obtain rfl : y = Y + 1 := by omega
    have hb : decide ((0 - g.disc) * ((Y + 1 : Nat) : Int) * ((Y + 1 : Nat) : Int) ≤ 4 * g.a * n) = false := by
      rw [decide_eq_false_iff_not, hyc]
      omega
    rw [← hC]
    refine goA ?_
    exact rfl
  have hb : decide ((0 - g.disc) * (y : Int) * (y : Int) ≤ 4 * g.a * n) = true := by
    rw [decide_eq_true_iff, hyc]
    omega
  refine goA ?_
  refine T.loop (fun k s1 => ∃ (x : Nat) (E : Int), x ≤ X + 1 ∧ k = X + 1 - x ∧ E = C + s2 (fun v => sx (fun u => rg g n u v) x) y ∧ 0 ≤ E ∧ E ≤ 320 * y + 4 * x ∧ s1 = mkS [(1, .v (iV n)), (2, .ptr 2 0), (5, .v (iV (0 - g.disc))), (6, .v (iV E)), (7, .v (iV (y : Nat))), (8, .v (iV (x : Nat)))] [(2, .var [.v (iV g.a), .v (iV g.b), .v (iV g.c)])] 86 true) (X + 1)
    (s' := mkS [(1, .v (iV n)), (2, .ptr 2 0), (5, .v (iV (0 - g.disc))), (6, .v (iV C)), (7, .v (iV (y : Nat))), (8, .v (iV (0 : Nat)))] [(2, .var [.v (iV g.a), .v (iV g.b), .v (iV g.c)])] 86 true) (by exact entA) ⟨0, C, by omega, rfl, by simp [sx, s2], by omega, by omega, rfl⟩ ?_
  rintro _ _ ⟨x, E, hxX, rfl, hE, hE0, hE1, rfl⟩
  obtain ⟨z3, z4⟩ := qd x (by omega)
  have hxc := hx' x (by omega)
  by_cases cx : x ≤ X
  case neg =>
    obtain rfl : x = X + 1 := by omega
    have hb2 : decide ((0 - g.disc) * ((X + 1 : Nat) : Int) * ((X + 1 : Nat) : Int) ≤ 4 * g.c * n) = false := by
      rw [decide_eq_false_iff_not, hxc]
      omega
    have e : sx (fun v => sx (fun u => rg g n u v) (X + 1)) (y + 1) = E := by rw [sx, ← hC, hE]
    refine goA ?_
    exact loopQ_intro (k := Y + 1 - (y + 1)) (s' := mkS [(1, .v (iV n)), (2, .ptr 2 0), (5, .v (iV (0 - g.disc))), (6, .v (iV E)), (7, .v (iV ((y : Int) + 1)))] [(2, .var [.v (iV g.a), .v (iV g.b), .v (iV g.c)])] 86 true) (by omega) (by exact entA) ⟨y + 1, E, by omega, rfl, e.symm, hE0, by omega, rfl⟩
  have hb2 : decide ((0 - g.disc) * (x : Int) * (x : Int) ≤ 4 * g.c * n) = true := by
    rw [decide_eq_true_iff, hxc]
    omega
  have eE : C + s2 (fun v => sx (fun u => rg g n u v) (x + 1)) y = E + ts (rg g n) x y 4 := by
    rw [ts_signs, hE]
    have : (fun v => sx (fun u => rg g n u v) (x + 1)) = fun v => sx (fun u => rg g n u v) x + s2 (fun u => rg g n u v) x := rfl
    rw [this, s2_add]
    omega
  have hts0 : ts (rg g n) x y 0 = 0 := rfl
  have htsS : ∀ s, ts (rg g n) x y (s + 1) = ts (rg g n) x y s + tm (rg g n) x y s := fun s => rfl
  generalize ts (rg g n) x y = W at *
  refine goA ?_
  refine T.loop (fun k s1 => ∃ (s : Nat) (V : Int), s ≤ 4 ∧ k = 4 - s ∧ V = E + W s ∧ 0 ≤ V ∧ V ≤ 320 * y + 4 * x + s ∧ s1 = mkS [(1, .v (iV n)), (2, .ptr 2 0), (5, .v (iV (0 - g.disc))), (6, .v (iV V)), (7, .v (iV (y : Nat))), (8, .v (iV (x : Nat))), (9, .v (iV (s : Nat)))] [(2, .var [.v (iV g.a), .v (iV g.b), .v (iV g.c)])] 86 true) 4
    (s' := mkS [(1, .v (iV n)), (2, .ptr 2 0), (5, .v (iV (0 - g.disc))), (6, .v (iV E)), (7, .v (iV (y : Nat))), (8, .v (iV (x : Nat))), (9, .v (iV (0 : Nat)))] [(2, .var [.v (iV g.a), .v (iV g.b), .v (iV g.c)])] 86 true) (by exact entA) ⟨0, E, by omega, rfl, by omega, by omega, by omega, rfl⟩ ?_
  rintro _ _ ⟨s, V, hs4, rfl, hV, hV0, hV1, rfl⟩
  have ht := htb x y s
  have fin : ∀ (V' : Int), tm (rg g n) x y s = V' - V → ∀ s2 : AS, s2 = mkS [(1, .v (iV n)), (2, .ptr 2 0), (5, .v (iV (0 - g.disc))), (6, .v (iV V')), (7, .v (iV (y : Nat))), (8, .v (iV (x : Nat))), (9, .v (iV ((s : Int) + 1)))] [(2, .var [.v (iV g.a), .v (iV g.b), .v (iV g.c)])] 86 true → s < 4 →
      ∃ (s' : Nat) (V'' : Int), s' ≤ 4 ∧ 4 - (s + 1) = 4 - s' ∧ V'' = E + W s' ∧ 0 ≤ V'' ∧ V'' ≤ 320 * y + 4 * x + s' ∧ s2 = mkS [(1, .v (iV n)), (2, .ptr 2 0), (5, .v (iV (0 - g.disc))), (6, .v (iV V'')), (7, .v (iV (y : Nat))), (8, .v (iV (x : Nat))), (9, .v (iV (s' : Nat)))] [(2, .var [.v (iV g.a), .v (iV g.b), .v (iV g.c)])] 86 true :=
    fun V' e s2 e2 hlt => ⟨s + 1, V', by omega, rfl, by rw [htsS]; omega, by omega, by omega, e2⟩
  by_cases c4 : s = 4
  · subst c4
    have hb3 : decide (((4 : Nat) : Int) < 4) = false := rfl
    refine goA ?_
    exact loopQ_intro (k := X + 1 - (x + 1)) (s' := mkS [(1, .v (iV n)), (2, .ptr 2 0), (5, .v (iV (0 - g.disc))), (6, .v (iV V)), (7, .v (iV (y : Nat))), (8, .v (iV ((x : Int) + 1)))] [(2, .var [.v (iV g.a), .v (iV g.b), .v (iV g.c)])] 86 true) (by omega) (by exact entA) ⟨x + 1, V, by omega, rfl, hV.trans eE.symm, hV0, by omega, rfl⟩
  clear hV eE hts0 htsS hE hC hxc hyc hb hb2
  have hs : s = 0 ∨ s = 1 ∨ s = 2 ∨ s = 3 := by omega
  rcases hs with rfl | rfl | rfl | rfl
  · have hb3 : decide (((0 : Nat) : Int) < 4) = true := rfl
    by_cases px : 0 < x
    · have kx : decide ((x : Int) > 0) = true := by simp; omega
      by_cases py : 0 < y
      · have ky : decide ((y : Int) > 0) = true := by simp; omega
        have et : tm (rg g n) x y 0 = rg g n (x : Int) (y : Int) := by rw [tm_yes (by omega)]; simp
        have cv1 := cv (x : Int) (y : Int) (by unfold Bd; omega) (by unfold Bd; omega)
        by_cases hv : g.val (x : Int) (y : Int) = n
        · have kv : (g.val (x : Int) (y : Int) == n) = true := by simpa using hv
          rw [rg_one hv] at et
          generalize g.val (x : Int) (y : Int) = val at *
          refine goA ?_
          refine evG ggA (ss_div (op := .rem) (InB_of rfl) rfl rfl (by omega) (show ((0 : Nat) : Int).tmod 2 = 0 from rfl)) ?_
          refine goA ?_
          refine evG ggA (ss_div (op := .quo) (InB_of rfl) rfl rfl (by omega) (show IntKind.i64.wrap (((0 : Nat) : Int).tdiv 2) = 0 from rfl)) ?_
          refine goA ?_
          refine evG ggA (ss_call (InB_of rfl) rfl rfl cv1) ?_
          refine goA ?_
          exact loopQ_intro (k := 4 - (0 + 1)) (s' := mkS [(1, .v (iV n)), (2, .ptr 2 0), (5, .v (iV (0 - g.disc))), (6, .v (iV (V + 1))), (7, .v (iV (y : Nat))), (8, .v (iV (x : Nat))), (9, .v (iV (((0 : Nat) : Int) + 1)))] [(2, .var [.v (iV g.a), .v (iV g.b), .v (iV g.c)])] 86 true) (by omega) (by exact entA) (fin (V + 1) (by omega) _ rfl (by omega))
        · have kv : (g.val (x : Int) (y : Int) == n) = false := by simpa using hv
          rw [rg_zero hv] at et
          generalize g.val (x : Int) (y : Int) = val at *
          refine goA ?_
          refine evG ggA (ss_div (op := .rem) (InB_of rfl) rfl rfl (by omega) (show ((0 : Nat) : Int).tmod 2 = 0 from rfl)) ?_
          refine goA ?_
          refine evG ggA (ss_div (op := .quo) (InB_of rfl) rfl rfl (by omega) (show IntKind.i64.wrap (((0 : Nat) : Int).tdiv 2) = 0 from rfl)) ?_
          refine goA ?_
          refine evG ggA (ss_call (InB_of rfl) rfl rfl cv1) ?_
          refine goA ?_
          exact loopQ_intro (k := 4 - (0 + 1)) (s' := mkS [(1, .v (iV n)), (2, .ptr 2 0), (5, .v (iV (0 - g.disc))), (6, .v (iV V)), (7, .v (iV (y : Nat))), (8, .v (iV (x : Nat))), (9, .v (iV (((0 : Nat) : Int) + 1)))] [(2, .var [.v (iV g.a), .v (iV g.b), .v (iV g.c)])] 86 true) (by omega) (by exact entA) (fin V (by omega) _ rfl (by omega))
      · have ky : decide ((y : Int) > 0) = false := by simp; omega
        have et : tm (rg g n) x y 0 = rg g n (x : Int) (y : Int) := by rw [tm_yes (by omega)]; simp
        have cv1 := cv (x : Int) (y : Int) (by unfold Bd; omega) (by unfold Bd; omega)
        by_cases hv : g.val (x : Int) (y : Int) = n
        · have kv : (g.val (x : Int) (y : Int) == n) = true := by simpa using hv
          rw [rg_one hv] at et
          generalize g.val (x : Int) (y : Int) = val at *
          refine goA ?_
          refine evG ggA (ss_div (op := .rem) (InB_of rfl) rfl rfl (by omega) (show ((0 : Nat) : Int).tmod 2 = 0 from rfl)) ?_
          refine goA ?_
          refine evG ggA (ss_div (op := .quo) (InB_of rfl) rfl rfl (by omega) (show IntKind.i64.wrap (((0 : Nat) : Int).tdiv 2) = 0 from rfl)) ?_
          refine goA ?_
          refine evG ggA (ss_div (op := .quo) (InB_of rfl) rfl rfl (by omega) (show IntKind.i64.wrap (((0 : Nat) : Int).tdiv 2) = 0 from rfl)) ?_
          refine goA ?_
          refine evG ggA (ss_call (InB_of rfl) rfl rfl cv1) ?_
          refine goA ?_
          exact loopQ_intro (k := 4 - (0 + 1)) (s' := mkS [(1, .v (iV n)), (2, .ptr 2 0), (5, .v (iV (0 - g.disc))), (6, .v (iV (V + 1))), (7, .v (iV (y : Nat))), (8, .v (iV (x : Nat))), (9, .v (iV (((0 : Nat) : Int) + 1)))] [(2, .var [.v (iV g.a), .v (iV g.b), .v (iV g.c)])] 86 true) (by omega) (by exact entA) (fin (V + 1) (by omega) _ rfl (by omega))
        · have kv : (g.val (x : Int) (y : Int) == n) = false := by simpa using hv
          rw [rg_zero hv] at et
          generalize g.val (x : Int) (y : Int) = val at *
          refine goA ?_
          refine evG ggA (ss_div (op := .rem) (InB_of rfl) rfl rfl (by omega) (show ((0 : Nat) : Int).tmod 2 = 0 from rfl)) ?_
          refine goA ?_
          refine evG ggA (ss_div (op := .quo) (InB_of rfl) rfl rfl (by omega) (show IntKind.i64.wrap (((0 : Nat) : Int).tdiv 2) = 0 from rfl)) ?_
          refine goA ?_
          refine evG ggA (ss_div (op := .quo) (InB_of rfl) rfl rfl (by omega) (show IntKind.i64.wrap (((0 : Nat) : Int).tdiv 2) = 0 from rfl)) ?_
          refine goA ?_
          refine evG ggA (ss_call (InB_of rfl) rfl rfl cv1) ?_
          refine goA ?_
          exact loopQ_intro (k := 4 - (0 + 1)) (s' := mkS [(1, .v (iV n)), (2, .ptr 2 0), (5, .v (iV (0 - g.disc))), (6, .v (iV V)), (7, .v (iV (y : Nat))), (8, .v (iV (x : Nat))), (9, .v (iV (((0 : Nat) : Int) + 1)))] [(2, .var [.v (iV g.a), .v (iV g.b), .v (iV g.c)])] 86 true) (by omega) (by exact entA) (fin V (by omega) _ rfl (by omega))
    · have kx : decide ((x : Int) > 0) = false := by simp; omega
      by_cases py : 0 < y
      · have ky : decide ((y : Int) > 0) = true := by simp; omega
        have et : tm (rg g n) x y 0 = rg g n (x : Int) (y : Int) := by rw [tm_yes (by omega)]; simp
        have cv1 := cv (x : Int) (y : Int) (by unfold Bd; omega) (by unfold Bd; omega)
        by_cases hv : g.val (x : Int) (y : Int) = n
        · have kv : (g.val (x : Int) (y : Int) == n) = true := by simpa using hv
          rw [rg_one hv] at et
          generalize g.val (x : Int) (y : Int) = val at *
          refine goA ?_
          refine evG ggA (ss_div (op := .rem) (InB_of rfl) rfl rfl (by omega) (show ((0 : Nat) : Int).tmod 2 = 0 from rfl)) ?_
          refine goA ?_
          refine evG ggA (ss_div (op := .quo) (InB_of rfl) rfl rfl (by omega) (show IntKind.i64.wrap (((0 : Nat) : Int).tdiv 2) = 0 from rfl)) ?_
          refine goA ?_
          refine evG ggA (ss_div (op := .rem) (InB_of rfl) rfl rfl (by omega) (show ((0 : Nat) : Int).tmod 2 = 0 from rfl)) ?_
          refine goA ?_
          refine evG ggA (ss_call (InB_of rfl) rfl rfl cv1) ?_
          refine goA ?_
          exact loopQ_intro (k := 4 - (0 + 1)) (s' := mkS [(1, .v (iV n)), (2, .ptr 2 0), (5, .v (iV (0 - g.disc))), (6, .v (iV (V + 1))), (7, .v (iV (y : Nat))), (8, .v (iV (x : Nat))), (9, .v (iV (((0 : Nat) : Int) + 1)))] [(2, .var [.v (iV g.a), .v (iV g.b), .v (iV g.c)])] 86 true) (by omega) (by exact entA) (fin (V + 1) (by omega) _ rfl (by omega))
        · have kv : (g.val (x : Int) (y : Int) == n) = false := by simpa using hv
          rw [rg_zero hv] at et
          generalize g.val (x : Int) (y : Int) = val at *
          refine goA ?_
          refine evG ggA (ss_div (op := .rem) (InB_of rfl) rfl rfl (by omega) (show ((0 : Nat) : Int).tmod 2 = 0 from rfl)) ?_
          refine goA ?_
          refine evG ggA (ss_div (op := .quo) (InB_of rfl) rfl rfl (by omega) (show IntKind.i64.wrap (((0 : Nat) : Int).tdiv 2) = 0 from rfl)) ?_
          refine goA ?_
          refine evG ggA (ss_div (op := .rem) (InB_of rfl) rfl rfl (by omega) (show ((0 : Nat) : Int).tmod 2 = 0 from rfl)) ?_
          refine goA ?_
          refine evG ggA (ss_call (InB_of rfl) rfl rfl cv1) ?_
          refine goA ?_
          exact loopQ_intro (k := 4 - (0 + 1)) (s' := mkS [(1, .v (iV n)), (2, .ptr 2 0), (5, .v (iV (0 - g.disc))), (6, .v (iV V)), (7, .v (iV (y : Nat))), (8, .v (iV (x : Nat))), (9, .v (iV (((0 : Nat) : Int) + 1)))] [(2, .var [.v (iV g.a), .v (iV g.b), .v (iV g.c)])] 86 true) (by omega) (by exact entA) (fin V (by omega) _ rfl (by omega))
      · have ky : decide ((y : Int) > 0) = false := by simp; omega
        have et : tm (rg g n) x y 0 = rg g n (x : Int) (y : Int) := by rw [tm_yes (by omega)]; simp
        have cv1 := cv (x : Int) (y : Int) (by unfold Bd; omega) (by unfold Bd; omega)
        by_cases hv : g.val (x : Int) (y : Int) = n
        · have kv : (g.val (x : Int) (y : Int) == n) = true := by simpa using hv
          rw [rg_one hv] at et
          generalize g.val (x : Int) (y : Int) = val at *
          refine goA ?_
          refine evG ggA (ss_div (op := .rem) (InB_of rfl) rfl rfl (by omega) (show ((0 : Nat) : Int).tmod 2 = 0 from rfl)) ?_
          refine goA ?_
          refine evG ggA (ss_div (op := .quo) (InB_of rfl) rfl rfl (by omega) (show IntKind.i64.wrap (((0 : Nat) : Int).tdiv 2) = 0 from rfl)) ?_
          refine goA ?_
          refine evG ggA (ss_div (op := .rem) (InB_of rfl) rfl rfl (by omega) (show ((0 : Nat) : Int).tmod 2 = 0 from rfl)) ?_
          refine goA ?_
          refine evG ggA (ss_div (op := .quo) (InB_of rfl) rfl rfl (by omega) (show IntKind.i64.wrap (((0 : Nat) : Int).tdiv 2) = 0 from rfl)) ?_
          refine goA ?_
          refine evG ggA (ss_call (InB_of rfl) rfl rfl cv1) ?_
          refine goA ?_
          exact loopQ_intro (k := 4 - (0 + 1)) (s' := mkS [(1, .v (iV n)), (2, .ptr 2 0), (5, .v (iV (0 - g.disc))), (6, .v (iV (V + 1))), (7, .v (iV (y : Nat))), (8, .v (iV (x : Nat))), (9, .v (iV (((0 : Nat) : Int) + 1)))] [(2, .var [.v (iV g.a), .v (iV g.b), .v (iV g.c)])] 86 true) (by omega) (by exact entA) (fin (V + 1) (by omega) _ rfl (by omega))
        · have kv : (g.val (x : Int) (y : Int) == n) = false := by simpa using hv
          rw [rg_zero hv] at et
          generalize g.val (x : Int) (y : Int) = val at *
          refine goA ?_
          refine evG ggA (ss_div (op := .rem) (InB_of rfl) rfl rfl (by omega) (show ((0 : Nat) : Int).tmod 2 = 0 from rfl)) ?_
          refine goA ?_
          refine evG ggA (ss_div (op := .quo) (InB_of rfl) rfl rfl (by omega) (show IntKind.i64.wrap (((0 : Nat) : Int).tdiv 2) = 0 from rfl)) ?_
          refine goA ?_
          refine evG ggA (ss_div (op := .rem) (InB_of rfl) rfl rfl (by omega) (show ((0 : Nat) : Int).tmod 2 = 0 from rfl)) ?_
          refine goA ?_
          refine evG ggA (ss_div (op := .quo) (InB_of rfl) rfl rfl (by omega) (show IntKind.i64.wrap (((0 : Nat) : Int).tdiv 2) = 0 from rfl)) ?_
          refine goA ?_
          refine evG ggA (ss_call (InB_of rfl) rfl rfl cv1) ?_
          refine goA ?_
          exact loopQ_intro (k := 4 - (0 + 1)) (s' := mkS [(1, .v (iV n)), (2, .ptr 2 0), (5, .v (iV (0 - g.disc))), (6, .v (iV V)), (7, .v (iV (y : Nat))), (8, .v (iV (x : Nat))), (9, .v (iV (((0 : Nat) : Int) + 1)))] [(2, .var [.v (iV g.a), .v (iV g.b), .v (iV g.c)])] 86 true) (by omega) (by exact entA) (fin V (by omega) _ rfl (by omega))
  · have hb3 : decide (((1 : Nat) : Int) < 4) = true := rfl
    by_cases px : 0 < x
    · have kx : decide ((x : Int) > 0) = true := by simp; omega
      by_cases py : 0 < y
      · have ky : decide ((y : Int) > 0) = true := by simp; omega
        have et : tm (rg g n) x y 1 = rg g n (0 - (x : Int)) (y : Int) := by rw [tm_yes (by omega)]; simp
        have cv1 := cv (0 - (x : Int)) (y : Int) (by unfold Bd; omega) (by unfold Bd; omega)
        by_cases hv : g.val (0 - (x : Int)) (y : Int) = n
        · have kv : (g.val (0 - (x : Int)) (y : Int) == n) = true := by simpa using hv
          rw [rg_one hv] at et
          generalize g.val (0 - (x : Int)) (y : Int) = val at *
          refine goA ?_
          refine evG ggA (ss_div (op := .rem) (InB_of rfl) rfl rfl (by omega) (show ((1 : Nat) : Int).tmod 2 = 1 from rfl)) ?_
          refine goA ?_
          refine evG ggA (ss_div (op := .quo) (InB_of rfl) rfl rfl (by omega) (show IntKind.i64.wrap (((1 : Nat) : Int).tdiv 2) = 0 from rfl)) ?_
          refine goA ?_
          refine evG ggA (ss_call (InB_of rfl) rfl rfl cv1) ?_
          refine goA ?_
          exact loopQ_intro (k := 4 - (1 + 1)) (s' := mkS [(1, .v (iV n)), (2, .ptr 2 0), (5, .v (iV (0 - g.disc))), (6, .v (iV (V + 1))), (7, .v (iV (y : Nat))), (8, .v (iV (x : Nat))), (9, .v (iV (((1 : Nat) : Int) + 1)))] [(2, .var [.v (iV g.a), .v (iV g.b), .v (iV g.c)])] 86 true) (by omega) (by exact entA) (fin (V + 1) (by omega) _ rfl (by omega))
        · have kv : (g.val (0 - (x : Int)) (y : Int) == n) = false := by simpa using hv
          rw [rg_zero hv] at et
          generalize g.val (0 - (x : Int)) (y : Int) = val at *
          refine goA ?_
          refine evG ggA (ss_div (op := .rem) (InB_of rfl) rfl rfl (by omega) (show ((1 : Nat) : Int).tmod 2 = 1 from rfl)) ?_
          refine goA ?_
          refine evG ggA (ss_div (op := .quo) (InB_of rfl) rfl rfl (by omega) (show IntKind.i64.wrap (((1 : Nat) : Int).tdiv 2) = 0 from rfl)) ?_
          refine goA ?_
          refine evG ggA (ss_call (InB_of rfl) rfl rfl cv1) ?_
          refine goA ?_
          exact loopQ_intro (k := 4 - (1 + 1)) (s' := mkS [(1, .v (iV n)), (2, .ptr 2 0), (5, .v (iV (0 - g.disc))), (6, .v (iV V)), (7, .v (iV (y : Nat))), (8, .v (iV (x : Nat))), (9, .v (iV (((1 : Nat) : Int) + 1)))] [(2, .var [.v (iV g.a), .v (iV g.b), .v (iV g.c)])] 86 true) (by omega) (by exact entA) (fin V (by omega) _ rfl (by omega))
      · have ky : decide ((y : Int) > 0) = false := by simp; omega
        have et : tm (rg g n) x y 1 = rg g n (0 - (x : Int)) (y : Int) := by rw [tm_yes (by omega)]; simp
        have cv1 := cv (0 - (x : Int)) (y : Int) (by unfold Bd; omega) (by unfold Bd; omega)
        by_cases hv : g.val (0 - (x : Int)) (y : Int) = n
        · have kv : (g.val (0 - (x : Int)) (y : Int) == n) = true := by simpa using hv
          rw [rg_one hv] at et
          generalize g.val (0 - (x : Int)) (y : Int) = val at *
          refine goA ?_
          refine evG ggA (ss_div (op := .rem) (InB_of rfl) rfl rfl (by omega) (show ((1 : Nat) : Int).tmod 2 = 1 from rfl)) ?_
          refine goA ?_
          refine evG ggA (ss_div (op := .quo) (InB_of rfl) rfl rfl (by omega) (show IntKind.i64.wrap (((1 : Nat) : Int).tdiv 2) = 0 from rfl)) ?_
          refine goA ?_
          refine evG ggA (ss_div (op := .quo) (InB_of rfl) rfl rfl (by omega) (show IntKind.i64.wrap (((1 : Nat) : Int).tdiv 2) = 0 from rfl)) ?_
          refine goA ?_
          refine evG ggA (ss_call (InB_of rfl) rfl rfl cv1) ?_
          refine goA ?_
          exact loopQ_intro (k := 4 - (1 + 1)) (s' := mkS [(1, .v (iV n)), (2, .ptr 2 0), (5, .v (iV (0 - g.disc))), (6, .v (iV (V + 1))), (7, .v (iV (y : Nat))), (8, .v (iV (x : Nat))), (9, .v (iV (((1 : Nat) : Int) + 1)))] [(2, .var [.v (iV g.a), .v (iV g.b), .v (iV g.c)])] 86 true) (by omega) (by exact entA) (fin (V + 1) (by omega) _ rfl (by omega))
        · have kv : (g.val (0 - (x : Int)) (y : Int) == n) = false := by simpa using hv
          rw [rg_zero hv] at et
          generalize g.val (0 - (x : Int)) (y : Int) = val at *
          refine goA ?_
          refine evG ggA (ss_div (op := .rem) (InB_of rfl) rfl rfl (by omega) (show ((1 : Nat) : Int).tmod 2 = 1 from rfl)) ?_
          refine goA ?_
          refine evG ggA (ss_div (op := .quo) (InB_of rfl) rfl rfl (by omega) (show IntKind.i64.wrap (((1 : Nat) : Int).tdiv 2) = 0 from rfl)) ?_
          refine goA ?_
          refine evG ggA (ss_div (op := .quo) (InB_of rfl) rfl rfl (by omega) (show IntKind.i64.wrap (((1 : Nat) : Int).tdiv 2) = 0 from rfl)) ?_
          refine goA ?_
          refine evG ggA (ss_call (InB_of rfl) rfl rfl cv1) ?_
          refine goA ?_
          exact loopQ_intro (k := 4 - (1 + 1)) (s' := mkS [(1, .v (iV n)), (2, .ptr 2 0), (5, .v (iV (0 - g.disc))), (6, .v (iV V)), (7, .v (iV (y : Nat))), (8, .v (iV (x : Nat))), (9, .v (iV (((1 : Nat) : Int) + 1)))] [(2, .var [.v (iV g.a), .v (iV g.b), .v (iV g.c)])] 86 true) (by omega) (by exact entA) (fin V (by omega) _ rfl (by omega))
    · have kx : decide ((x : Int) > 0) = false := by simp; omega
      refine goA ?_
      refine evG ggA (ss_div (op := .rem) (InB_of rfl) rfl rfl (by omega) (show ((1 : Nat) : Int).tmod 2 = 1 from rfl)) ?_
      refine goA ?_
      refine evG ggA (ss_div (op := .quo) (InB_of rfl) rfl rfl (by omega) (show IntKind.i64.wrap (((1 : Nat) : Int).tdiv 2) = 0 from rfl)) ?_
      refine goA ?_
      refine evG ggA (ss_div (op := .rem) (InB_of rfl) rfl rfl (by omega) (show ((1 : Nat) : Int).tmod 2 = 1 from rfl)) ?_
      refine goA ?_
      exact loopQ_intro (k := 4 - (1 + 1)) (s' := mkS [(1, .v (iV n)), (2, .ptr 2 0), (5, .v (iV (0 - g.disc))), (6, .v (iV V)), (7, .v (iV (y : Nat))), (8, .v (iV (x : Nat))), (9, .v (iV (((1 : Nat) : Int) + 1)))] [(2, .var [.v (iV g.a), .v (iV g.b), .v (iV g.c)])] 86 true) (by omega) (by exact entA) (fin V (by rw [tm_no (by omega)]; omega) _ rfl (by omega))
  · have hb3 : decide (((2 : Nat) : Int) < 4) = true := rfl
    by_cases px : 0 < x
    · have kx : decide ((x : Int) > 0) = true := by simp; omega
      by_cases py : 0 < y
      · have ky : decide ((y : Int) > 0) = true := by simp; omega
        have et : tm (rg g n) x y 2 = rg g n (x : Int) (0 - (y : Int)) := by rw [tm_yes (by omega)]; simp
        have cv1 := cv (x : Int) (0 - (y : Int)) (by unfold Bd; omega) (by unfold Bd; omega)
        by_cases hv : g.val (x : Int) (0 - (y : Int)) = n
        · have kv : (g.val (x : Int) (0 - (y : Int)) == n) = true := by simpa using hv
          rw [rg_one hv] at et
          generalize g.val (x : Int) (0 - (y : Int)) = val at *
          refine goA ?_
          refine evG ggA (ss_div (op := .rem) (InB_of rfl) rfl rfl (by omega) (show ((2 : Nat) : Int).tmod 2 = 0 from rfl)) ?_
          refine goA ?_
          refine evG ggA (ss_div (op := .quo) (InB_of rfl) rfl rfl (by omega) (show IntKind.i64.wrap (((2 : Nat) : Int).tdiv 2) = 1 from rfl)) ?_
          refine goA ?_
          refine evG ggA (ss_call (InB_of rfl) rfl rfl cv1) ?_
          refine goA ?_
          exact loopQ_intro (k := 4 - (2 + 1)) (s' := mkS [(1, .v (iV n)), (2, .ptr 2 0), (5, .v (iV (0 - g.disc))), (6, .v (iV (V + 1))), (7, .v (iV (y : Nat))), (8, .v (iV (x : Nat))), (9, .v (iV (((2 : Nat) : Int) + 1)))] [(2, .var [.v (iV g.a), .v (iV g.b), .v (iV g.c)])] 86 true) (by omega) (by exact entA) (fin (V + 1) (by omega) _ rfl (by omega))
        · have kv : (g.val (x : Int) (0 - (y : Int)) == n) = false := by simpa using hv
          rw [rg_zero hv] at et
          generalize g.val (x : Int) (0 - (y : Int)) = val at *
          refine goA ?_
          refine evG ggA (ss_div (op := .rem) (InB_of rfl) rfl rfl (by omega) (show ((2 : Nat) : Int).tmod 2 = 0 from rfl)) ?_
          refine goA ?_
          refine evG ggA (ss_div (op := .quo) (InB_of rfl) rfl rfl (by omega) (show IntKind.i64.wrap (((2 : Nat) : Int).tdiv 2) = 1 from rfl)) ?_
          refine goA ?_
          refine evG ggA (ss_call (InB_of rfl) rfl rfl cv1) ?_
          refine goA ?_
          exact loopQ_intro (k := 4 - (2 + 1)) (s' := mkS [(1, .v (iV n)), (2, .ptr 2 0), (5, .v (iV (0 - g.disc))), (6, .v (iV V)), (7, .v (iV (y : Nat))), (8, .v (iV (x : Nat))), (9, .v (iV (((2 : Nat) : Int) + 1)))] [(2, .var [.v (iV g.a), .v (iV g.b), .v (iV g.c)])] 86 true) (by omega) (by exact entA) (fin V (by omega) _ rfl (by omega))
      · have ky : decide ((y : Int) > 0) = false := by simp; omega
        refine goA ?_
        refine evG ggA (ss_div (op := .rem) (InB_of rfl) rfl rfl (by omega) (show ((2 : Nat) : Int).tmod 2 = 0 from rfl)) ?_
        refine goA ?_
        refine evG ggA (ss_div (op := .quo) (InB_of rfl) rfl rfl (by omega) (show IntKind.i64.wrap (((2 : Nat) : Int).tdiv 2) = 1 from rfl)) ?_
        refine goA ?_
        refine evG ggA (ss_div (op := .quo) (InB_of rfl) rfl rfl (by omega) (show IntKind.i64.wrap (((2 : Nat) : Int).tdiv 2) = 1 from rfl)) ?_
        refine goA ?_
        exact loopQ_intro (k := 4 - (2 + 1)) (s' := mkS [(1, .v (iV n)), (2, .ptr 2 0), (5, .v (iV (0 - g.disc))), (6, .v (iV V)), (7, .v (iV (y : Nat))), (8, .v (iV (x : Nat))), (9, .v (iV (((2 : Nat) : Int) + 1)))] [(2, .var [.v (iV g.a), .v (iV g.b), .v (iV g.c)])] 86 true) (by omega) (by exact entA) (fin V (by rw [tm_no (by omega)]; omega) _ rfl (by omega))
    · have kx : decide ((x : Int) > 0) = false := by simp; omega
      by_cases py : 0 < y
      · have ky : decide ((y : Int) > 0) = true := by simp; omega
        have et : tm (rg g n) x y 2 = rg g n (x : Int) (0 - (y : Int)) := by rw [tm_yes (by omega)]; simp
        have cv1 := cv (x : Int) (0 - (y : Int)) (by unfold Bd; omega) (by unfold Bd; omega)
        by_cases hv : g.val (x : Int) (0 - (y : Int)) = n
        · have kv : (g.val (x : Int) (0 - (y : Int)) == n) = true := by simpa using hv
          rw [rg_one hv] at et
          generalize g.val (x : Int) (0 - (y : Int)) = val at *
          refine goA ?_
          refine evG ggA (ss_div (op := .rem) (InB_of rfl) rfl rfl (by omega) (show ((2 : Nat) : Int).tmod 2 = 0 from rfl)) ?_
          refine goA ?_
          refine evG ggA (ss_div (op := .quo) (InB_of rfl) rfl rfl (by omega) (show IntKind.i64.wrap (((2 : Nat) : Int).tdiv 2) = 1 from rfl)) ?_
          refine goA ?_
          refine evG ggA (ss_div (op := .rem) (InB_of rfl) rfl rfl (by omega) (show ((2 : Nat) : Int).tmod 2 = 0 from rfl)) ?_
          refine goA ?_
          refine evG ggA (ss_call (InB_of rfl) rfl rfl cv1) ?_
          refine goA ?_
          exact loopQ_intro (k := 4 - (2 + 1)) (s' := mkS [(1, .v (iV n)), (2, .ptr 2 0), (5, .v (iV (0 - g.disc))), (6, .v (iV (V + 1))), (7, .v (iV (y : Nat))), (8, .v (iV (x : Nat))), (9, .v (iV (((2 : Nat) : Int) + 1)))] [(2, .var [.v (iV g.a), .v (iV g.b), .v (iV g.c)])] 86 true) (by omega) (by exact entA) (fin (V + 1) (by omega) _ rfl (by omega))
        · have kv : (g.val (x : Int) (0 - (y : Int)) == n) = false := by simpa using hv
          rw [rg_zero hv] at et
          generalize g.val (x : Int) (0 - (y : Int)) = val at *
          refine goA ?_
          refine evG ggA (ss_div (op := .rem) (InB_of rfl) rfl rfl (by omega) (show ((2 : Nat) : Int).tmod 2 = 0 from rfl)) ?_
          refine goA ?_
          refine evG ggA (ss_div (op := .quo) (InB_of rfl) rfl rfl (by omega) (show IntKind.i64.wrap (((2 : Nat) : Int).tdiv 2) = 1 from rfl)) ?_
          refine goA ?_
          refine evG ggA (ss_div (op := .rem) (InB_of rfl) rfl rfl (by omega) (show ((2 : Nat) : Int).tmod 2 = 0 from rfl)) ?_
          refine goA ?_
          refine evG ggA (ss_call (InB_of rfl) rfl rfl cv1) ?_
          refine goA ?_
          exact loopQ_intro (k := 4 - (2 + 1)) (s' := mkS [(1, .v (iV n)), (2, .ptr 2 0), (5, .v (iV (0 - g.disc))), (6, .v (iV V)), (7, .v (iV (y : Nat))), (8, .v (iV (x : Nat))), (9, .v (iV (((2 : Nat) : Int) + 1)))] [(2, .var [.v (iV g.a), .v (iV g.b), .v (iV g.c)])] 86 true) (by omega) (by exact entA) (fin V (by omega) _ rfl (by omega))
      · have ky : decide ((y : Int) > 0) = false := by simp; omega
        refine goA ?_
        refine evG ggA (ss_div (op := .rem) (InB_of rfl) rfl rfl (by omega) (show ((2 : Nat) : Int).tmod 2 = 0 from rfl)) ?_
        refine goA ?_
        refine evG ggA (ss_div (op := .quo) (InB_of rfl) rfl rfl (by omega) (show IntKind.i64.wrap (((2 : Nat) : Int).tdiv 2) = 1 from rfl)) ?_
        refine goA ?_
        refine evG ggA (ss_div (op := .rem) (InB_of rfl) rfl rfl (by omega) (show ((2 : Nat) : Int).tmod 2 = 0 from rfl)) ?_
        refine goA ?_
        refine evG ggA (ss_div (op := .quo) (InB_of rfl) rfl rfl (by omega) (show IntKind.i64.wrap (((2 : Nat) : Int).tdiv 2) = 1 from rfl)) ?_
        refine goA ?_
        exact loopQ_intro (k := 4 - (2 + 1)) (s' := mkS [(1, .v (iV n)), (2, .ptr 2 0), (5, .v (iV (0 - g.disc))), (6, .v (iV V)), (7, .v (iV (y : Nat))), (8, .v (iV (x : Nat))), (9, .v (iV (((2 : Nat) : Int) + 1)))] [(2, .var [.v (iV g.a), .v (iV g.b), .v (iV g.c)])] 86 true) (by omega) (by exact entA) (fin V (by rw [tm_no (by omega)]; omega) _ rfl (by omega))
  · have hb3 : decide (((3 : Nat) : Int) < 4) = true := rfl
    by_cases px : 0 < x
    · have kx : decide ((x : Int) > 0) = true := by simp; omega
      by_cases py : 0 < y
      · have ky : decide ((y : Int) > 0) = true := by simp; omega
        have et : tm (rg g n) x y 3 = rg g n (0 - (x : Int)) (0 - (y : Int)) := by rw [tm_yes (by omega)]; simp
        have cv1 := cv (0 - (x : Int)) (0 - (y : Int)) (by unfold Bd; omega) (by unfold Bd; omega)
        by_cases hv : g.val (0 - (x : Int)) (0 - (y : Int)) = n
        · have kv : (g.val (0 - (x : Int)) (0 - (y : Int)) == n) = true := by simpa using hv
          rw [rg_one hv] at et
          generalize g.val (0 - (x : Int)) (0 - (y : Int)) = val at *
          refine goA ?_
          refine evG ggA (ss_div (op := .rem) (InB_of rfl) rfl rfl (by omega) (show ((3 : Nat) : Int).tmod 2 = 1 from rfl)) ?_
          refine goA ?_
          refine evG ggA (ss_div (op := .quo) (InB_of rfl) rfl rfl (by omega) (show IntKind.i64.wrap (((3 : Nat) : Int).tdiv 2) = 1 from rfl)) ?_
          refine goA ?_
          refine evG ggA (ss_call (InB_of rfl) rfl rfl cv1) ?_
          refine goA ?_
          exact loopQ_intro (k := 4 - (3 + 1)) (s' := mkS [(1, .v (iV n)), (2, .ptr 2 0), (5, .v (iV (0 - g.disc))), (6, .v (iV (V + 1))), (7, .v (iV (y : Nat))), (8, .v (iV (x : Nat))), (9, .v (iV (((3 : Nat) : Int) + 1)))] [(2, .var [.v (iV g.a), .v (iV g.b), .v (iV g.c)])] 86 true) (by omega) (by exact entA) (fin (V + 1) (by omega) _ rfl (by omega))
        · have kv : (g.val (0 - (x : Int)) (0 - (y : Int)) == n) = false := by simpa using hv
          rw [rg_zero hv] at et
          generalize g.val (0 - (x : Int)) (0 - (y : Int)) = val at *
          refine goA ?_
          refine evG ggA (ss_div (op := .rem) (InB_of rfl) rfl rfl (by omega) (show ((3 : Nat) : Int).tmod 2 = 1 from rfl)) ?_
          refine goA ?_
          refine evG ggA (ss_div (op := .quo) (InB_of rfl) rfl rfl (by omega) (show IntKind.i64.wrap (((3 : Nat) : Int).tdiv 2) = 1 from rfl)) ?_
          refine goA ?_
          refine evG ggA (ss_call (InB_of rfl) rfl rfl cv1) ?_
          refine goA ?_
          exact loopQ_intro (k := 4 - (3 + 1)) (s' := mkS [(1, .v (iV n)), (2, .ptr 2 0), (5, .v (iV (0 - g.disc))), (6, .v (iV V)), (7, .v (iV (y : Nat))), (8, .v (iV (x : Nat))), (9, .v (iV (((3 : Nat) : Int) + 1)))] [(2, .var [.v (iV g.a), .v (iV g.b), .v (iV g.c)])] 86 true) (by omega) (by exact entA) (fin V (by omega) _ rfl (by omega))
      · have ky : decide ((y : Int) > 0) = false := by simp; omega
        refine goA ?_
        refine evG ggA (ss_div (op := .rem) (InB_of rfl) rfl rfl (by omega) (show ((3 : Nat) : Int).tmod 2 = 1 from rfl)) ?_
        refine goA ?_
        refine evG ggA (ss_div (op := .quo) (InB_of rfl) rfl rfl (by omega) (show IntKind.i64.wrap (((3 : Nat) : Int).tdiv 2) = 1 from rfl)) ?_
        refine goA ?_
        refine evG ggA (ss_div (op := .quo) (InB_of rfl) rfl rfl (by omega) (show IntKind.i64.wrap (((3 : Nat) : Int).tdiv 2) = 1 from rfl)) ?_
        refine goA ?_
        exact loopQ_intro (k := 4 - (3 + 1)) (s' := mkS [(1, .v (iV n)), (2, .ptr 2 0), (5, .v (iV (0 - g.disc))), (6, .v (iV V)), (7, .v (iV (y : Nat))), (8, .v (iV (x : Nat))), (9, .v (iV (((3 : Nat) : Int) + 1)))] [(2, .var [.v (iV g.a), .v (iV g.b), .v (iV g.c)])] 86 true) (by omega) (by exact entA) (fin V (by rw [tm_no (by omega)]; omega) _ rfl (by omega))
    · have kx : decide ((x : Int) > 0) = false := by simp; omega
      refine goA ?_
      refine evG ggA (ss_div (op := .rem) (InB_of rfl) rfl rfl (by omega) (show ((3 : Nat) : Int).tmod 2 = 1 from rfl)) ?_
      refine goA ?_
      refine evG ggA (ss_div (op := .quo) (InB_of rfl) rfl rfl (by omega) (show IntKind.i64.wrap (((3 : Nat) : Int).tdiv 2) = 1 from rfl)) ?_
      refine goA ?_
      refine evG ggA (ss_div (op := .rem) (InB_of rfl) rfl rfl (by omega) (show ((3 : Nat) : Int).tmod 2 = 1 from rfl)) ?_
      refine goA ?_
      exact loopQ_intro (k := 4 - (3 + 1)) (s' := mkS [(1, .v (iV n)), (2, .ptr 2 0), (5, .v (iV (0 - g.disc))), (6, .v (iV V)), (7, .v (iV (y : Nat))), (8, .v (iV (x : Nat))), (9, .v (iV (((3 : Nat) : Int) + 1)))] [(2, .var [.v (iV g.a), .v (iV g.b), .v (iV g.c)])] 86 true) (by omega) (by exact entA) (fin V (by rw [tm_no (by omega)]; omega) _ rfl (by omega))
set_option maxHeartbeats 1000000 in
theorem represents_p (f : F) (n : Int) (n0 : -9223372036854775808 ≤ n) (n1 : n ≤ 9223372036854775807) : PC Try.prog 4 [fA f, iV n] (bV true) := by
  have ca := awake_p
  have cr := represent_p (f := f) n0 n1
  have cc := rcheck_p f
  by_cases h : chk f = 0
  case neg =>
    rw [if_neg h] at cr
    have k : (chk f != 0) = true := by simpa using h
    have k2 : (chk f == chk f) = true := by simp
    generalize chk f = c at *
    refine pc_body1 true Try.func4 rfl rfl rfl (Nat.le_of_ble_eq_true rfl) CellT.tmp ?_
    refine goA ?_
    refine evG ggA (ss_call (InB_of rfl) rfl rfl ca) ?_
    refine goA ?_
    refine evG ggA (ss_call (InB_of rfl) rfl rfl cr) ?_
    refine goA ?_
    refine evG ggA (ss_call (InB_of rfl) rfl rfl cc) ?_
    refine goA ?_
    exact rfl
  rw [if_pos h] at cr
  rw [h] at cc
  obtain ⟨p, b⟩ := chk_zero h
  by_cases h5 : 0 ≤ n ∧ n ≤ 4000
  · rw [if_pos h5] at cr
    have crr := rrepresent_p p b h5.1 h5.2
    have k1 : decide (n < 0) = false := by simp; omega
    have k2 : decide (n > 4000) = false := by simp; omega
    generalize rep f.rd n = v at *
    have k5 : (v == v) = true := by simp
    refine pc_body1 true Try.func4 rfl rfl rfl (Nat.le_of_ble_eq_true rfl) CellT.tmp ?_
    refine goA ?_
    refine evG ggA (ss_call (InB_of rfl) rfl rfl ca) ?_
    refine goA ?_
    refine evG ggA (ss_call (InB_of rfl) rfl rfl cr) ?_
    refine goA ?_
    refine evG ggA (ss_call (InB_of rfl) rfl rfl cc) ?_
    refine goA ?_
    refine evG ggA (ss_call (InB_of rfl) rfl rfl crr) ?_
    refine goA ?_
    rw [k5]
    exact rfl
  · rw [if_neg h5] at cr
    by_cases h6 : n < 0
    · have k1 : decide (n < 0) = true := by simpa using h6
      refine pc_body1 true Try.func4 rfl rfl rfl (Nat.le_of_ble_eq_true rfl) CellT.tmp ?_
      refine goA ?_
      refine evG ggA (ss_call (InB_of rfl) rfl rfl ca) ?_
      refine goA ?_
      refine evG ggA (ss_call (InB_of rfl) rfl rfl cr) ?_
      refine goA ?_
      refine evG ggA (ss_call (InB_of rfl) rfl rfl cc) ?_
      refine goA ?_
      exact rfl
    · have k1 : decide (n < 0) = false := by simpa using h6
      have k2 : decide (n > 4000) = true := by simp; omega
      refine pc_body1 true Try.func4 rfl rfl rfl (Nat.le_of_ble_eq_true rfl) CellT.tmp ?_
      refine goA ?_
      refine evG ggA (ss_call (InB_of rfl) rfl rfl ca) ?_
      refine goA ?_
      refine evG ggA (ss_call (InB_of rfl) rfl rfl cr) ?_
      refine goA ?_
      refine evG ggA (ss_call (InB_of rfl) rfl rfl cc) ?_
      refine goA ?_
      exact rfl
end Ab
