/- The statement QuadformChecks: walked. -/
import Derived.Test.YtajlkcnlfiikeaaQwQ
set_option linter.all false
namespace Ab
open Go Go.RowKit Go.Proofs Qf
set_option maxRecDepth 100000

def discO (f : F) : AV := if chk f = 0 then .tup [iV f.disc, iV 0] else .tup [iV 0, iV (chk f)]
theorem Disc_p (f : F) : PC Try.prog 24 [fA f] (discO f) := by
  have c1 := check_p f
  unfold discO
  by_cases h : chk f = 0
  · rw [if_pos h]
    obtain ⟨p, b⟩ := chk_zero h
    have c2 := disc_p b (by decide)
    rw [h] at c1
    refine pc_body2 true Try.func24 rfl rfl rfl (Nat.le_of_ble_eq_true rfl) CellT.tmp CellT.tmp ?_
    refine goA ?_
    refine evG ggA (ss_call (InB_of rfl) rfl rfl c1) ?_
    refine goA ?_
    refine evG ggA (ss_call (InB_of rfl) rfl rfl c2) ?_
    refine goA ?_
    exact rfl
  · rw [if_neg h]
    have k : (chk f != 0) = true := by simpa using h
    generalize chk f = c at *
    refine pc_body2 true Try.func24 rfl rfl rfl (Nat.le_of_ble_eq_true rfl) CellT.tmp CellT.tmp ?_
    refine goA ?_
    refine evG ggA (ss_call (InB_of rfl) rfl rfl c1) ?_
    refine goA ?_
    exact rfl
/-- the number of automorphs -/
def autN (f : F) : Int := aut f.rd 81
def autO (f : F) : AV := if chk f = 0 then .tup [iV (autN f), iV 0] else .tup [iV 0, iV (chk f)]
theorem Automorphs_p (f : F) : PC Try.prog 25 [fA f] (autO f) := by
  have c1 := check_p f
  unfold autO
  by_cases h : chk f = 0
  · rw [if_pos h]
    obtain ⟨p, b⟩ := chk_zero h
    have c2 := disc_p b (by decide)
    have c3 := content_p (b.mono (by decide))
    have hc0 : 0 < ctI f := by rw [ctI_eq]; have := ct_pos p; omega
    have hcb := gI_bd (gI_bd b.a b.b) b.c
    have hcb : Bd 10000 (ctI f) := hcb
    have e : uni (f.disc.tdiv (ctI f * ctI f)) = autN f := by
      rw [ctI_eq]
      exact units_eq p
    have c4 := units_p (f.disc.tdiv (ctI f * ctI f))
    rw [e] at c4
    have q1 := bmul hcb hcb
    have hpp := Int.mul_pos hc0 hc0
    obtain ⟨d1, d2⟩ := disc_bds b (by decide)
    have hdb : Bd 5000000000000000000 f.disc := by
      have : f.disc = f.b * f.b - 4 * f.a * f.c := rfl
      unfold Bd at *
      omega
    have q2 := tdiv_bd (y := ctI f * ctI f) hdb
    rw [h] at c1
    clear e p b d1 d2
    unfold Bd at *
    generalize ctI f = ct at *
    generalize f.disc = d at *
    generalize autN f = n at *
    refine pc_body2 true Try.func25 rfl rfl rfl (Nat.le_of_ble_eq_true rfl) CellT.tmp CellT.tmp ?_
    refine goA ?_
    refine evG ggA (ss_call (InB_of rfl) rfl rfl c1) ?_
    refine goA ?_
    refine evG ggA (ss_call (InB_of rfl) rfl rfl c3) ?_
    refine goA ?_
    refine evG ggA (ss_call (InB_of rfl) rfl rfl c2) ?_
    refine goA ?_
    refine evG ggA (ss_div (InB_of rfl) rfl rfl (by omega) (w64 (by omega) (by omega))) ?_
    refine goA ?_
    refine evG ggA (ss_call (InB_of rfl) rfl rfl c4) ?_
    refine goA ?_
    exact rfl
  · rw [if_neg h]
    have k : (chk f != 0) = true := by simpa using h
    generalize chk f = c at *
    refine pc_body2 true Try.func25 rfl rfl rfl (Nat.le_of_ble_eq_true rfl) CellT.tmp CellT.tmp ?_
    refine goA ?_
    refine evG ggA (ss_call (InB_of rfl) rfl rfl c1) ?_
    refine goA ?_
    exact rfl
theorem nth_bd {i : Nat} (h : i < 81) : MBd 2 (M.nth i) := ⟨by unfold Bd M.nth; simp only; omega, by unfold Bd M.nth; simp only; omega, by unfold Bd M.nth; simp only; omega, by unfold Bd M.nth; simp only; omega⟩
theorem nth_ops {i : Nat} : (i : Int).tmod 3 - 1 = (M.nth i).a ∧ ((i : Int).tdiv 3).tmod 3 - 1 = (M.nth i).b ∧ ((i : Int).tdiv 9).tmod 3 - 1 = (M.nth i).c ∧ (i : Int).tdiv 27 - 1 = (M.nth i).d := by
  have e : ∀ k : Int, (i : Int).tdiv k = (i : Int) / k := fun k => Int.tdiv_eq_ediv_of_nonneg (by omega)
  have e2 : (i : Int).tmod 3 = (i : Int) % 3 := Int.tmod_eq_emod_of_nonneg (by omega)
  have e3 : ((i : Int) / 3).tmod 3 = (i : Int) / 3 % 3 := Int.tmod_eq_emod_of_nonneg (by omega)
  have e4 : ((i : Int) / 9).tmod 3 = (i : Int) / 9 % 3 := Int.tmod_eq_emod_of_nonneg (by omega)
  rw [e, e, e, e2, e3, e4]
  unfold M.nth
  simp only
  omega
theorem aut_bd (f : F) : ∀ n : Nat, 0 ≤ aut f n ∧ aut f n ≤ n
  | 0 => ⟨by simp [aut], by simp [aut]⟩
  | n + 1 => by
    have := aut_bd f n
    have := ind_bd ((M.nth n).det = 1 ∧ f.by (.nth n) = f)
    rw [aut]
    omega
theorem det_bd {m : M} (h : MBd 2 m) : Bd 4 (m.a * m.d) ∧ Bd 4 (m.b * m.c) := ⟨bmul h.a h.d, bmul h.b h.c⟩
set_option maxHeartbeats 4000000 in
theorem rautomorphs_p {f : F} (p : f.Pos) (b : FBd 10000 f) : PC Try.prog 28 [fA f] (iV (autN f)) := by
  have c1 := rreduce_p p b (by decide) (by decide)
  have hs := sm_rd p b
  have hgb : FBd 200000000 f.rd := by
    have := hs.r.pos.a
    have := hs.r.pos.c
    have := hs.a
    have := hs.b
    have := hs.c
    exact ⟨by unfold Bd; omega, by unfold Bd at *; omega, by unfold Bd; omega⟩
  unfold autN
  clear p b hs
  generalize f.rd = g at *
  have cby : ∀ i : Nat, i < 81 → PC Try.prog 40 [fA g, mA (M.nth i)] (fA (g.by (M.nth i))) := fun i hi => by
    have hm := nth_bd hi
    have q2 := bmul (show Bd 400000000 (2 * g.a) by have := hgb.a; unfold Bd at *; omega) hm.a
    have q3 := bmul q2 hm.b
    have q4 := bmul (show Bd 400000000 (2 * g.c) by have := hgb.c; unfold Bd at *; omega) hm.c
    have q5 := bmul q4 hm.d
    have x1 := bmul hm.a hm.d
    have x2 := bmul hm.b hm.c
    have q6 := bmul hgb.b (show Bd 8 ((M.nth i).a * (M.nth i).d + (M.nth i).b * (M.nth i).c) by unfold Bd at *; omega)
    exact rby_p (vb_of hgb hm.a hm.c (by decide) (by decide)) (vb_of hgb hm.b hm.d (by decide) (by decide)) (hgb.a.mono (by decide)) (hgb.c.mono (by decide)) ⟨hm.a.mono (by decide), hm.b.mono (by decide), hm.c.mono (by decide), hm.d.mono (by decide)⟩
      (q2.mono (by decide)) (q3.mono (by decide)) (q6.mono (by decide)) (q4.mono (by decide)) (q5.mono (by decide))
  refine pc_body1 true Try.func28 rfl rfl rfl (Nat.le_of_ble_eq_true rfl) CellT.tmp ?_
  refine goA ?_
  refine evG ggA (ss_call (InB_of rfl) rfl rfl c1) ?_
  refine goA ?_
  refine T.loop (fun n s1 => ∃ i : Nat, i ≤ 81 ∧ n = 81 - i ∧ s1 = mkS [(1, .ptr 1 0), (3, .v (iV (aut g i))), (4, .v (iV (i : Nat)))] [(1, .var [.v (iV g.a), .v (iV g.b), .v (iV g.c)])] 49 true) 81
    (s' := mkS [(1, .ptr 1 0), (3, .v (iV (aut g 0))), (4, .v (iV (0 : Nat)))] [(1, .var [.v (iV g.a), .v (iV g.b), .v (iV g.c)])] 49 true) (by exact entA) ⟨0, by omega, rfl, rfl⟩ ?_
  rintro _ _ ⟨i, hi, rfl, rfl⟩
  by_cases c : i < 81
  case neg =>
    obtain rfl : i = 81 := by omega
    have hb : decide (((81 : Nat) : Int) < 81) = false := rfl
    refine goA ?_
    exact rfl
  have hb : decide ((i : Int) < 81) = true := by simp; omega
  have cb := cby i c
  have hm := nth_bd c
  obtain ⟨o1, o2, o3, o4⟩ := nth_ops (i := i)
  obtain ⟨x1, x2⟩ := det_bd hm
  have hau := aut_bd g i
  have es : aut g (i + 1) = aut g i + ind ((M.nth i).det = 1 ∧ g.by (M.nth i) = g) := rfl
  have ha := hm.a
  have hb2 := hm.b
  have hc := hm.c
  have hd := hm.d
  have edet : (M.nth i).det = (M.nth i).a * (M.nth i).d - (M.nth i).b * (M.nth i).c := rfl
  have t1 := tdiv_bd (y := 3) (N := 81) (x := i) (by unfold Bd; omega)
  have t2 := tdiv_bd (y := 9) (N := 81) (x := i) (by unfold Bd; omega)
  have t3 := tdiv_bd (y := 27) (N := 81) (x := i) (by unfold Bd; omega)
  have fin : ∀ (q : Int), aut g (i + 1) = q → ∀ s2 : AS, s2 = mkS [(1, .ptr 1 0), (3, .v (iV q)), (4, .v (iV ((i : Int) + 1)))] [(1, .var [.v (iV g.a), .v (iV g.b), .v (iV g.c)])] 49 true →
      ∃ j : Nat, j ≤ 81 ∧ 81 - (i + 1) = 81 - j ∧ s2 = mkS [(1, .ptr 1 0), (3, .v (iV (aut g j))), (4, .v (iV (j : Nat)))] [(1, .var [.v (iV g.a), .v (iV g.b), .v (iV g.c)])] 49 true := fun q e s2 e2 => ⟨i + 1, by omega, rfl, by rw [e2, e]; rfl⟩
  generalize aut g (i + 1) = Q at *
  generalize aut g i = q at *
  clear cby hgb hm
  unfold Bd at *
  generalize hG : g.by (M.nth i) = G at *
  generalize (M.nth i).det = D at *
  rw [show mA (M.nth i) = .agg [iV ((i : Int).tmod 3 - 1), iV (((i : Int).tdiv 3).tmod 3 - 1), iV (((i : Int).tdiv 9).tmod 3 - 1), iV ((i : Int).tdiv 27 - 1)] by rw [o1, o2, o3, o4]; rfl] at cb
  simp only [← o1, ← o2, ← o3, ← o4] at x1 x2 edet
  rw [← o1] at ha
  rw [← o2] at hb2
  rw [← o3] at hc
  rw [← o4] at hd
  clear o1 o2 o3 o4 hG
  have w1 : IntKind.i64.wrap ((i : Int).tdiv 3) = (i : Int).tdiv 3 := w64 (by omega) (by omega)
  have w2 : IntKind.i64.wrap ((i : Int).tdiv 9) = (i : Int).tdiv 9 := w64 (by omega) (by omega)
  have w3 : IntKind.i64.wrap ((i : Int).tdiv 27) = (i : Int).tdiv 27 := w64 (by omega) (by omega)
  by_cases c2 : D = 1
  case neg =>
    have k : (((i : Int).tmod 3 - 1) * ((i : Int).tdiv 27 - 1) - (((i : Int).tdiv 3).tmod 3 - 1) * (((i : Int).tdiv 9).tmod 3 - 1) == 1) = false := by rw [← edet]; simpa using c2
    have e2 : Q = q := by rw [es]; unfold ind; rw [if_neg (fun h => c2 h.1)]; omega
    clear es edet cb
    refine goA ?_
    refine evG ggA (ss_div (op := .rem) (InB_of rfl) rfl rfl (by omega) rfl) ?_
    refine goA ?_
    refine evG ggA (ss_div (InB_of rfl) rfl rfl (by omega) w1) ?_
    refine goA ?_
    refine evG ggA (ss_div (op := .rem) (InB_of rfl) rfl rfl (by omega) rfl) ?_
    refine goA ?_
    refine evG ggA (ss_div (InB_of rfl) rfl rfl (by omega) w2) ?_
    refine goA ?_
    refine evG ggA (ss_div (op := .rem) (InB_of rfl) rfl rfl (by omega) rfl) ?_
    refine goA ?_
    refine evG ggA (ss_div (InB_of rfl) rfl rfl (by omega) w3) ?_
    refine goA ?_
    exact loopQ_intro (k := 81 - (i + 1)) (s' := mkS [(1, .ptr 1 0), (3, .v (iV q)), (4, .v (iV ((i : Int) + 1)))] [(1, .var [.v (iV g.a), .v (iV g.b), .v (iV g.c)])] 49 true) (by omega) (by exact entA) (fin q e2 _ rfl)
  have k : (((i : Int).tmod 3 - 1) * ((i : Int).tdiv 27 - 1) - (((i : Int).tdiv 3).tmod 3 - 1) * (((i : Int).tdiv 9).tmod 3 - 1) == 1) = true := by rw [← edet]; simpa using c2
  by_cases c3 : G = g
  · have e2 : Q = q + 1 := by rw [es]; unfold ind; rw [if_pos ⟨c2, c3⟩]
    have k2 : decide ([G.a, G.b, G.c] = [g.a, g.b, g.c]) = true := by rw [c3]; simp
    clear es edet c3
    refine goA ?_
    refine evG ggA (ss_div (op := .rem) (InB_of rfl) rfl rfl (by omega) rfl) ?_
    refine goA ?_
    refine evG ggA (ss_div (InB_of rfl) rfl rfl (by omega) w1) ?_
    refine goA ?_
    refine evG ggA (ss_div (op := .rem) (InB_of rfl) rfl rfl (by omega) rfl) ?_
    refine goA ?_
    refine evG ggA (ss_div (InB_of rfl) rfl rfl (by omega) w2) ?_
    refine goA ?_
    refine evG ggA (ss_div (op := .rem) (InB_of rfl) rfl rfl (by omega) rfl) ?_
    refine goA ?_
    refine evG ggA (ss_div (InB_of rfl) rfl rfl (by omega) w3) ?_
    refine goA ?_
    refine evG ggA (ss_call (InB_of rfl) rfl rfl cb) ?_
    refine goA ?_
    refine evG ggA (ss_eq3 (InB_of rfl) rfl rfl rfl rfl) ?_
    refine goA ?_
    exact loopQ_intro (k := 81 - (i + 1)) (s' := mkS [(1, .ptr 1 0), (3, .v (iV (q + 1))), (4, .v (iV ((i : Int) + 1)))] [(1, .var [.v (iV g.a), .v (iV g.b), .v (iV g.c)])] 49 true) (by omega) (by exact entA) (fin _ e2 _ rfl)
  · have e2 : Q = q := by rw [es]; unfold ind; rw [if_neg (fun h => c3 h.2)]; omega
    have k2 : decide ([G.a, G.b, G.c] = [g.a, g.b, g.c]) = false := decide_eq_false (fun e => c3 (fA_inj.1 (by simpa using e)))
    clear es edet c3
    refine goA ?_
    refine evG ggA (ss_div (op := .rem) (InB_of rfl) rfl rfl (by omega) rfl) ?_
    refine goA ?_
    refine evG ggA (ss_div (InB_of rfl) rfl rfl (by omega) w1) ?_
    refine goA ?_
    refine evG ggA (ss_div (op := .rem) (InB_of rfl) rfl rfl (by omega) rfl) ?_
    refine goA ?_
    refine evG ggA (ss_div (InB_of rfl) rfl rfl (by omega) w2) ?_
    refine goA ?_
    refine evG ggA (ss_div (op := .rem) (InB_of rfl) rfl rfl (by omega) rfl) ?_
    refine goA ?_
    refine evG ggA (ss_div (InB_of rfl) rfl rfl (by omega) w3) ?_
    refine goA ?_
    refine evG ggA (ss_call (InB_of rfl) rfl rfl cb) ?_
    refine goA ?_
    refine evG ggA (ss_eq3 (InB_of rfl) rfl rfl rfl rfl) ?_
    refine goA ?_
    exact loopQ_intro (k := 81 - (i + 1)) (s' := mkS [(1, .ptr 1 0), (3, .v (iV q)), (4, .v (iV ((i : Int) + 1)))] [(1, .var [.v (iV g.a), .v (iV g.b), .v (iV g.c)])] 49 true) (by omega) (by exact entA) (fin q e2 _ rfl)
set_option maxHeartbeats 1000000 in
theorem checks_p (f : F) : PC Try.prog 7 [fA f] (bV true) := by
  have ca := awake_p
  have c0 := check_p f
  have cc := rcheck_p f
  have cd := Disc_p f
  have cu := Automorphs_p f
  unfold discO at cd
  unfold autO at cu
  have k0 : (chk f != chk f) = false := by simp
  by_cases h : chk f = 0
  case neg =>
    rw [if_neg h] at cd cu
    have k : (chk f != 0) = true := by simpa using h
    generalize chk f = c at *
    refine pc_body1 true Try.func7 rfl rfl rfl (Nat.le_of_ble_eq_true rfl) CellT.tmp ?_
    refine goA ?_
    refine evG ggA (ss_call (InB_of rfl) rfl rfl ca) ?_
    refine goA ?_
    refine evG ggA (ss_call (InB_of rfl) rfl rfl cc) ?_
    refine goA ?_
    refine evG ggA (ss_call (InB_of rfl) rfl rfl cd) ?_
    refine goA ?_
    refine evG ggA (ss_call (InB_of rfl) rfl rfl cu) ?_
    refine goA ?_
    refine evG ggA (ss_call (InB_of rfl) rfl rfl c0) ?_
    refine goA ?_
    exact rfl
  rw [if_pos h] at cd cu
  obtain ⟨p, b⟩ := chk_zero h
  have r1 := rdisc_p b (by decide)
  have r2 := rautomorphs_p p b
  rw [h] at cc c0
  clear p b h
  have k2 : (f.disc == f.disc) = true := by simp
  have k3 : (autN f == autN f) = true := by simp
  generalize f.disc = d at *
  generalize autN f = n at *
  refine pc_body1 true Try.func7 rfl rfl rfl (Nat.le_of_ble_eq_true rfl) CellT.tmp ?_
  refine goA ?_
  refine evG ggA (ss_call (InB_of rfl) rfl rfl ca) ?_
  refine goA ?_
  refine evG ggA (ss_call (InB_of rfl) rfl rfl cc) ?_
  refine goA ?_
  refine evG ggA (ss_call (InB_of rfl) rfl rfl cd) ?_
  refine goA ?_
  refine evG ggA (ss_call (InB_of rfl) rfl rfl cu) ?_
  refine goA ?_
  refine evG ggA (ss_call (InB_of rfl) rfl rfl c0) ?_
  refine goA ?_
  refine evG ggA (ss_call (InB_of rfl) rfl rfl r1) ?_
  refine goA ?_
  refine evG ggA (ss_call (InB_of rfl) rfl rfl r2) ?_
  refine goA ?_
  rw [k3]
  exact rfl
end Ab
