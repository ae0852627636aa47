/- The statement QuadformPowers: walked. -/
import Derived.Test.YtajlkcnlfiikeaaQyB
import Derived.Test.YtajlkcnlfiikeaaQwZ
set_option linter.all false
namespace Ab
open Go Go.RowKit Go.Proofs Qf
set_option maxRecDepth 100000

theorem lst_eq {x o : F} : [x.a, x.b, x.c] = [o.a, o.b, o.c] ↔ x = o := by
  obtain ⟨a, b, c⟩ := x
  obtain ⟨p, q, r⟩ := o
  simp
theorem Cl.pwr {d : Int} (hd : posC d = 0) {f : F} (h : Cl d f) (n : Nat) : Cl d (pwr cmpF (idF d) f n) := (mem_cl hd).1 ((gp_cls hd).pm ((mem_cl hd).2 h) n)
theorem step_can {d : Int} {o f : F} (ho : Cl d o) (h : Can f f) (hd : f.disc = d) : Can o f := ⟨ho.r.pos, h.pf, ho.bd (by rw [← hd]; exact h.d4), h.bf, ho.ct, h.cf, by rw [ho.d, hd], by rw [ho.d, ← hd]; exact h.d4⟩
theorem step_p {d : Int} {o f : F} (ho : Cl d o) (h : Can f f) (hd : f.disc = d) : PC Try.prog 53 [fA o, fA f] (fA (cmpF o f.rd)) := by
  have c := (compose_c (step_can ho h hd)).2
  rw [red_rd ho.r] at c
  exact c
theorem rstep_p {d : Int} {o f : F} (ho : Cl d o) (h : Can f f) (hd : f.disc = d) : PC Try.prog 16 [fA o, fA f] (fA (cmpF o f.rd)) := by
  have k := step_can ho h hd
  have c := (compose_c k).1
  rw [red_rd ho.r] at c
  exact rcompose_p k c
set_option maxHeartbeats 4000000 in
theorem power_pos {f : F} (h : Can f f) {n : Int} (hn : 0 ≤ n ∧ n ≤ 1000) : PC Try.prog 42 [fA f, iV n] (.tup [fA (pwr cmpF (idF f.disc) f.rd n.toNat), iV 0]) := by
  have cc := composable_p f f
  rw [compC_of h] at cc
  have hd := can_pos h
  have hf := h
  have hfd : f.disc = f.disc := rfl
  have cd := disc_p h.bf (by decide)
  have k1 : decide (n < -1000) = false := by simp; omega
  have k2 : decide (n > 1000) = false := by simp; omega
  have k3 : decide (n < 0) = false := by simp; omega
  have ci := identity_p (d := f.disc) (by have := h.d4; have := h.pf.d; unfold Bd; omega)
  have cl := (can_cl hf).1
  rw [hfd] at cl
  have cs : ∀ k, PC Try.prog 53 [fA (pwr cmpF (idF f.disc) f.rd k), fA f] (fA (pwr cmpF (idF f.disc) f.rd (k + 1))) := fun k => step_p (cl.pwr hd k) hf hfd
  clear cl hf hfd h
  generalize hpw : pwr cmpF (idF f.disc) f.rd = pw at *
  have h0 : pw 0 = idF f.disc := by rw [← hpw]; rfl
  rw [← h0] at ci
  clear hpw h0
  generalize f.disc = d at *
  refine pc_body2 true Try.func42 rfl rfl rfl (Nat.le_of_ble_eq_true rfl) (CellT.agg agg_F) CellT.tmp ?_
  refine goA ?_
  refine evG ggA (ss_call (InB_of rfl) rfl rfl cc) ?_
  refine goA ?_
  refine evG ggA (ss_call (InB_of rfl) rfl rfl cd) ?_
  refine goA ?_
  refine evG ggA (ss_call (InB_of rfl) rfl rfl ci) ?_
  refine goA ?_
  refine T.loop (fun c s1 => ∃ k : Nat, (k : Int) ≤ n ∧ c = n.toNat - k ∧ s1 = mkS [(2, .ptr 2 0), (4, .ptr 4 0), (7, .ptr 7 0), (33, .v (iV n)), (34, .v (iV k))] [(2, .var [.v (iV f.a), .v (iV f.b), .v (iV f.c)]), (4, .var [.v (iV 0), .v (iV 0), .v (iV 0)]), (7, .var [.v (iV (pw k).a), .v (iV (pw k).b), .v (iV (pw k).c)])] 41 true) n.toNat (s' := mkS [(2, .ptr 2 0), (4, .ptr 4 0), (7, .ptr 7 0), (33, .v (iV n)), (34, .v (iV (0 : Nat)))] [(2, .var [.v (iV f.a), .v (iV f.b), .v (iV f.c)]), (4, .var [.v (iV 0), .v (iV 0), .v (iV 0)]), (7, .var [.v (iV (pw 0).a), .v (iV (pw 0).b), .v (iV (pw 0).c)])] 41 true) (by exact entA) ⟨0, by omega, rfl, rfl⟩ ?_
  rintro _ _ ⟨k, hk, rfl, rfl⟩
  have cs := cs k
  by_cases c : (k : Int) < n
  · have hb : decide ((k : Int) < n) = true := by simpa using c
    refine goA ?_
    refine evG ggA (ss_call (InB_of rfl) rfl rfl cs) ?_
    refine goA ?_
    exact loopQ_intro (k := n.toNat - (k + 1)) (s' := mkS [(2, .ptr 2 0), (4, .ptr 4 0), (7, .ptr 7 0), (33, .v (iV n)), (34, .v (iV ((k + 1 : Nat) : Int)))] [(2, .var [.v (iV f.a), .v (iV f.b), .v (iV f.c)]), (4, .var [.v (iV 0), .v (iV 0), .v (iV 0)]), (7, .var [.v (iV (pw (k + 1)).a), .v (iV (pw (k + 1)).b), .v (iV (pw (k + 1)).c)])] 41 true) (by omega) (by exact entA) ⟨k + 1, by omega, rfl, rfl⟩
  · have hb : decide ((k : Int) < n) = false := by simpa using c
    have e : k = n.toNat := by omega
    subst e
    refine goA ?_
    exact rfl
set_option maxHeartbeats 4000000 in
theorem power_neg {f : F} (h : Can f f) {n : Int} (hn : 0 < n ∧ n ≤ 1000) : PC Try.prog 42 [fA f, iV (0 - n)] (.tup [fA (pwr cmpF (idF f.disc) f.bar.rd n.toNat), iV 0]) := by
  have cc := composable_p f f
  rw [compC_of h] at cc
  have hd := can_pos h
  have hf : Can f.bar f.bar := ⟨bar_pos h.pf, bar_pos h.pf, bar_bd h.bf, bar_bd h.bf, by rw [bar_ct]; exact h.cf, by rw [bar_ct]; exact h.cf, rfl, by rw [bar_disc]; exact h.d4⟩
  have hfd := bar_disc f
  have cd := disc_p hf.bf (by decide)
  rw [hfd] at cd
  have k1 : decide (0 - n < -1000) = false := by simp; omega
  have k2 : decide (0 - n > 1000) = false := by simp; omega
  have k3 : decide (0 - n < 0) = true := by simp; omega
  have k4 : 0 - (0 - n) = n := by omega
  have hfb := h.bf.b
  unfold Bd at hfb
  have ci := identity_p (d := f.disc) (by have := h.d4; have := h.pf.d; unfold Bd; omega)
  have cl := (can_cl hf).1
  rw [hfd] at cl
  have cs : ∀ k, PC Try.prog 53 [fA (pwr cmpF (idF f.disc) f.bar.rd k), fA f.bar] (fA (pwr cmpF (idF f.disc) f.bar.rd (k + 1))) := fun k => step_p (cl.pwr hd k) hf hfd
  have hbz : f.bar = ⟨f.a, 0 - f.b, f.c⟩ := by unfold F.bar; rw [Int.zero_sub]
  rw [hbz] at cd cs ⊢
  clear hbz
  clear cl hf hfd h
  generalize hpw : pwr cmpF (idF f.disc) (F.mk f.a (0 - f.b) f.c).rd = pw at *
  have h0 : pw 0 = idF f.disc := by rw [← hpw]; rfl
  rw [← h0] at ci
  clear hpw h0
  generalize f.disc = d at *
  refine pc_body2 true Try.func42 rfl rfl rfl (Nat.le_of_ble_eq_true rfl) (CellT.agg agg_F) CellT.tmp ?_
  refine goA ?_
  refine evG ggA (ss_call (InB_of rfl) rfl rfl cc) ?_
  refine goA ?_
  refine evG ggA (ss_call (InB_of rfl) rfl rfl cd) ?_
  refine goA ?_
  refine evG ggA (ss_call (InB_of rfl) rfl rfl ci) ?_
  refine goA ?_
  refine T.loop (fun c s1 => ∃ k : Nat, (k : Int) ≤ n ∧ c = n.toNat - k ∧ s1 = mkS [(2, .ptr 2 0), (4, .ptr 4 0), (7, .ptr 7 0), (33, .v (iV (0 - (0 - n)))), (34, .v (iV k))] [(2, .var [.v (iV f.a), .v (iV (0 - f.b)), .v (iV f.c)]), (4, .var [.v (iV 0), .v (iV 0), .v (iV 0)]), (7, .var [.v (iV (pw k).a), .v (iV (pw k).b), .v (iV (pw k).c)])] 41 true) n.toNat (s' := mkS [(2, .ptr 2 0), (4, .ptr 4 0), (7, .ptr 7 0), (33, .v (iV (0 - (0 - n)))), (34, .v (iV (0 : Nat)))] [(2, .var [.v (iV f.a), .v (iV (0 - f.b)), .v (iV f.c)]), (4, .var [.v (iV 0), .v (iV 0), .v (iV 0)]), (7, .var [.v (iV (pw 0).a), .v (iV (pw 0).b), .v (iV (pw 0).c)])] 41 true) (by exact entA) ⟨0, by omega, rfl, rfl⟩ ?_
  rintro _ _ ⟨k, hk, rfl, rfl⟩
  have cs := cs k
  by_cases c : (k : Int) < n
  · have hb : decide ((k : Int) < 0 - (0 - n)) = true := decide_eq_true (by omega)
    refine goA ?_
    refine evG ggA (ss_call (InB_of rfl) rfl rfl cs) ?_
    refine goA ?_
    exact loopQ_intro (k := n.toNat - (k + 1)) (s' := mkS [(2, .ptr 2 0), (4, .ptr 4 0), (7, .ptr 7 0), (33, .v (iV (0 - (0 - n)))), (34, .v (iV ((k + 1 : Nat) : Int)))] [(2, .var [.v (iV f.a), .v (iV (0 - f.b)), .v (iV f.c)]), (4, .var [.v (iV 0), .v (iV 0), .v (iV 0)]), (7, .var [.v (iV (pw (k + 1)).a), .v (iV (pw (k + 1)).b), .v (iV (pw (k + 1)).c)])] 41 true) (by omega) (by exact entA) ⟨k + 1, by omega, rfl, rfl⟩
  · have hb : decide ((k : Int) < 0 - (0 - n)) = false := decide_eq_false (by omega)
    have e : k = n.toNat := by omega
    subst e
    refine goA ?_
    exact rfl
set_option maxHeartbeats 4000000 in
theorem rpower_p {f : F} (h : Can f f) {n : Int} (hn : 0 ≤ n ∧ n ≤ 100000) : PC Try.prog 45 [fA f, iV n] (fA (pwr cmpF (idF f.disc) f.rd n.toNat)) := by
  have hd := can_pos h
  have cd := rdisc_p h.bf (by decide)
  have k3 : decide (n < 0) = false := by simp; omega
  have ci := ridentity_p h.d4 h.pf.d
  have cl := (can_cl h).1
  have cs : ∀ k, PC Try.prog 16 [fA (pwr cmpF (idF f.disc) f.rd k), fA f] (fA (pwr cmpF (idF f.disc) f.rd (k + 1))) := fun k => rstep_p (cl.pwr hd k) h rfl
  clear cl h
  generalize hpw : pwr cmpF (idF f.disc) f.rd = pw at *
  have h0 : pw 0 = idF f.disc := by rw [← hpw]; rfl
  rw [← h0] at ci
  clear hpw h0
  generalize f.disc = d at *
  refine pc_body1 true Try.func45 rfl rfl rfl (Nat.le_of_ble_eq_true rfl) (CellT.agg agg_F) ?_
  refine goA ?_
  refine evG ggA (ss_call (InB_of rfl) rfl rfl cd) ?_
  refine goA ?_
  refine evG ggA (ss_call (InB_of rfl) rfl rfl ci) ?_
  refine goA ?_
  refine T.loop (fun c s1 => ∃ k : Nat, (k : Int) ≤ n ∧ c = n.toNat - k ∧ s1 = mkS [(1, .v (iV (n - (k : Int)))), (2, .ptr 2 0), (4, .ptr 4 0), (5, .ptr 5 0)] [(2, .var [.v (iV f.a), .v (iV f.b), .v (iV f.c)]), (4, .var [.v (iV 0), .v (iV 0), .v (iV 0)]), (5, .var [.v (iV (pw k).a), .v (iV (pw k).b), .v (iV (pw k).c)])] 29 true) n.toNat (s' := mkS [(1, .v (iV (n))), (2, .ptr 2 0), (4, .ptr 4 0), (5, .ptr 5 0)] [(2, .var [.v (iV f.a), .v (iV f.b), .v (iV f.c)]), (4, .var [.v (iV 0), .v (iV 0), .v (iV 0)]), (5, .var [.v (iV (pw 0).a), .v (iV (pw 0).b), .v (iV (pw 0).c)])] 29 true) (by exact entA) ⟨0, by omega, rfl, by simp⟩ ?_
  rintro _ _ ⟨k, hk, rfl, rfl⟩
  have cs := cs k
  by_cases c : 0 < n - (k : Int)
  · have hb : decide (n - (k : Int) > 0) = true := by simpa using c
    refine goA ?_
    refine evG ggA (ss_call (InB_of rfl) rfl rfl cs) ?_
    refine goA ?_
    exact loopQ_intro (k := n.toNat - (k + 1)) (s' := mkS [(1, .v (iV (n - (k : Int) - 1))), (2, .ptr 2 0), (4, .ptr 4 0), (5, .ptr 5 0)] [(2, .var [.v (iV f.a), .v (iV f.b), .v (iV f.c)]), (4, .var [.v (iV 0), .v (iV 0), .v (iV 0)]), (5, .var [.v (iV (pw (k + 1)).a), .v (iV (pw (k + 1)).b), .v (iV (pw (k + 1)).c)])] 29 true) (by omega) (by exact entA) ⟨k + 1, by omega, rfl, by rw [show n - (k : Int) - 1 = n - ((k + 1 : Nat) : Int) by omega]⟩
  · have hb : decide (n - (k : Int) > 0) = false := by simpa using c
    have e : k = n.toNat := by omega
    subst e
    refine goA ?_
    exact rfl
set_option maxHeartbeats 4000000 in
theorem order_p {f : F} (h : Can f f) {k : Nat} (k1 : 1 ≤ k) (k2 : k ≤ 100000) (k3 : pwr cmpF (idF f.disc) f.rd k = idF f.disc) (k4 : ∀ j, 1 ≤ j → j < k → pwr cmpF (idF f.disc) f.rd j ≠ idF f.disc) : PC Try.prog 43 [fA f] (.tup [iV k, iV 0]) := by
  have hd := can_pos h
  have cc := composable_p f f
  rw [compC_of h] at cc
  have cd := disc_p h.bf (by decide)
  have ci := identity_p (d := f.disc) (by have := h.d4; have := h.pf.d; unfold Bd; omega)
  have cl := (can_cl h).1
  have cs : ∀ k, PC Try.prog 53 [fA (pwr cmpF (idF f.disc) f.rd k), fA f] (fA (pwr cmpF (idF f.disc) f.rd (k + 1))) := fun k => step_p (cl.pwr hd k) h rfl
  have h1 : pwr cmpF (idF f.disc) f.rd 1 = f.rd := (gp_cls hd).one _ ((mem_cl hd).2 cl)
  clear cl h h1
  generalize hpw : pwr cmpF (idF f.disc) f.rd = pw at *
  have h0 : pw 0 = idF f.disc := by rw [← hpw]; rfl
  rw [← h0] at ci k3 k4
  clear hpw h0
  generalize f.disc = d at *
  refine pc_body2 true Try.func43 rfl rfl rfl (Nat.le_of_ble_eq_true rfl) CellT.tmp CellT.tmp ?_
  refine goA ?_
  refine evG ggA (ss_call (InB_of rfl) rfl rfl cc) ?_
  refine goA ?_
  refine evG ggA (ss_call (InB_of rfl) rfl rfl cd) ?_
  refine goA ?_
  refine evG ggA (ss_call (InB_of rfl) rfl rfl ci) ?_
  refine goA ?_
  refine evG ggA (ss_call (InB_of rfl) rfl rfl (cs 0)) ?_
  refine goA ?_
  refine T.loop (fun c s1 => ∃ j : Nat, 1 ≤ j ∧ j ≤ k ∧ c = k - j ∧ s1 = mkS [(1, .ptr 1 0), (5, .ptr 5 0), (6, .v (iV (j : Int))), (7, .ptr 7 0)] [(1, .var [.v (iV f.a), .v (iV f.b), .v (iV f.c)]), (5, .var [.v (iV (pw 0).a), .v (iV (pw 0).b), .v (iV (pw 0).c)]), (7, .var [.v (iV (pw j).a), .v (iV (pw j).b), .v (iV (pw j).c)])] 29 true) (k - 1) (s' := mkS [(1, .ptr 1 0), (5, .ptr 5 0), (6, .v (iV 1)), (7, .ptr 7 0)] [(1, .var [.v (iV f.a), .v (iV f.b), .v (iV f.c)]), (5, .var [.v (iV (pw 0).a), .v (iV (pw 0).b), .v (iV (pw 0).c)]), (7, .var [.v (iV (pw 1).a), .v (iV (pw 1).b), .v (iV (pw 1).c)])] 29 true) (by exact entA) ⟨1, by omega, k1, rfl, rfl⟩ ?_
  rintro _ _ ⟨j, j1, j2, rfl, rfl⟩
  have cs := cs j
  by_cases c : j < k
  · have hb : (!decide ([(pw j).a, (pw j).b, (pw j).c] = [(pw 0).a, (pw 0).b, (pw 0).c])) = true := by
      rw [decide_eq_false fun e => k4 j j1 c (lst_eq.1 e)]
      rfl
    refine goA ?_
    refine evG ggA (ss_eq3 (InB_of rfl) rfl rfl rfl rfl) ?_
    refine goA ?_
    refine evG ggA (ss_call (InB_of rfl) rfl rfl cs) ?_
    refine goA ?_
    exact loopQ_intro (k := k - (j + 1)) (s' := mkS [(1, .ptr 1 0), (5, .ptr 5 0), (6, .v (iV ((j : Int) + 1))), (7, .ptr 7 0)] [(1, .var [.v (iV f.a), .v (iV f.b), .v (iV f.c)]), (5, .var [.v (iV (pw 0).a), .v (iV (pw 0).b), .v (iV (pw 0).c)]), (7, .var [.v (iV (pw (j + 1)).a), .v (iV (pw (j + 1)).b), .v (iV (pw (j + 1)).c)])] 29 true) (by omega) (by exact entA) ⟨j + 1, by omega, by omega, rfl, rfl⟩
  · have e : j = k := by omega
    subst e
    have hb : (!decide ([(pw j).a, (pw j).b, (pw j).c] = [(pw 0).a, (pw 0).b, (pw 0).c])) = false := by
      rw [k3, decide_eq_true rfl]
      rfl
    refine goA ?_
    refine evG ggA (ss_eq3 (InB_of rfl) rfl rfl rfl rfl) ?_
    refine goA ?_
    exact rfl
set_option maxHeartbeats 4000000 in
theorem rorder_p {f : F} (h : Can f f) {k : Nat} (k1 : 1 ≤ k) (k2 : k ≤ 100000) (k3 : pwr cmpF (idF f.disc) f.rd k = idF f.disc) (k4 : ∀ j, 1 ≤ j → j < k → pwr cmpF (idF f.disc) f.rd j ≠ idF f.disc) : PC Try.prog 44 [fA f] (iV k) := by
  have hd := can_pos h
  have cd := rdisc_p h.bf (by decide)
  have ci := ridentity_p h.d4 h.pf.d
  have cr := rreduce_p h.pf h.bf (by decide) (by decide)
  have cl := (can_cl h).1
  have cs : ∀ k, PC Try.prog 16 [fA (pwr cmpF (idF f.disc) f.rd k), fA f] (fA (pwr cmpF (idF f.disc) f.rd (k + 1))) := fun k => rstep_p (cl.pwr hd k) h rfl
  have h1 : pwr cmpF (idF f.disc) f.rd 1 = f.rd := (gp_cls hd).one _ ((mem_cl hd).2 cl)
  rw [← h1] at cr
  clear cl h h1
  generalize hpw : pwr cmpF (idF f.disc) f.rd = pw at *
  have h0 : pw 0 = idF f.disc := by rw [← hpw]; rfl
  rw [← h0] at ci k3 k4
  clear hpw h0
  generalize f.disc = d at *
  refine pc_body1 true Try.func44 rfl rfl rfl (Nat.le_of_ble_eq_true rfl) CellT.tmp ?_
  refine goA ?_
  refine evG ggA (ss_call (InB_of rfl) rfl rfl cd) ?_
  refine goA ?_
  refine evG ggA (ss_call (InB_of rfl) rfl rfl ci) ?_
  refine goA ?_
  refine evG ggA (ss_call (InB_of rfl) rfl rfl cr) ?_
  refine goA ?_
  refine T.loop (fun c s1 => ∃ j : Nat, 1 ≤ j ∧ j ≤ k ∧ c = k - j ∧ s1 = mkS [(1, .ptr 1 0), (3, .ptr 3 0), (4, .v (iV (j : Int))), (5, .ptr 5 0)] [(1, .var [.v (iV f.a), .v (iV f.b), .v (iV f.c)]), (3, .var [.v (iV (pw 0).a), .v (iV (pw 0).b), .v (iV (pw 0).c)]), (5, .var [.v (iV (pw j).a), .v (iV (pw j).b), .v (iV (pw j).c)])] 21 true) (k - 1) (s' := mkS [(1, .ptr 1 0), (3, .ptr 3 0), (4, .v (iV 1)), (5, .ptr 5 0)] [(1, .var [.v (iV f.a), .v (iV f.b), .v (iV f.c)]), (3, .var [.v (iV (pw 0).a), .v (iV (pw 0).b), .v (iV (pw 0).c)]), (5, .var [.v (iV (pw 1).a), .v (iV (pw 1).b), .v (iV (pw 1).c)])] 21 true) (by exact entA) ⟨1, by omega, k1, rfl, rfl⟩ ?_
  rintro _ _ ⟨j, j1, j2, rfl, rfl⟩
  have cs := cs j
  by_cases c : j < k
  · have hb : (!decide ([(pw j).a, (pw j).b, (pw j).c] = [(pw 0).a, (pw 0).b, (pw 0).c])) = true := by
      rw [decide_eq_false fun e => k4 j j1 c (lst_eq.1 e)]
      rfl
    refine goA ?_
    refine evG ggA (ss_eq3 (InB_of rfl) rfl rfl rfl rfl) ?_
    refine goA ?_
    refine evG ggA (ss_call (InB_of rfl) rfl rfl cs) ?_
    refine runA ?_
    refine ev_nil ?_
    (repeat (first | with_reducible refine seqQ_n ?_ | with_reducible refine seqQ_e ?_ | with_reducible refine seqQ_r ?_ | with_reducible refine blockQ_n ?_ | with_reducible refine blockQ_r ?_ | with_reducible refine blockQ_e rfl ?_ | with_reducible refine blockQ_o rfl ?_ | with_reducible refine loopQ_e ?_ | with_reducible refine loopQ_r ?_ | with_reducible refine midQ_e ?_ | with_reducible refine midQ_r ?_ | with_reducible refine roundQ_n ?_ | with_reducible refine roundQ_e ?_ | with_reducible refine roundQ_r ?_))
    refine T.seq ?_
    refine r1A ?_
    refine T.weak (s' := mkS [(1, .ptr 1 0), (3, .ptr 3 0), (4, .v (iV (j : Int))), (19, .v (fA (pw (j + 1))))] [(1, .var [.v (iV f.a), .v (iV f.b), .v (iV f.c)]), (3, .var [.v (iV (pw 0).a), .v (iV (pw 0).b), .v (iV (pw 0).c)])] 21 true) (by exact entA) ?_
    refine goA ?_
    exact loopQ_intro (k := k - (j + 1)) (s' := mkS [(1, .ptr 1 0), (3, .ptr 3 0), (4, .v (iV ((j : Int) + 1))), (5, .ptr 5 0)] [(1, .var [.v (iV f.a), .v (iV f.b), .v (iV f.c)]), (3, .var [.v (iV (pw 0).a), .v (iV (pw 0).b), .v (iV (pw 0).c)]), (5, .var [.v (iV (pw (j + 1)).a), .v (iV (pw (j + 1)).b), .v (iV (pw (j + 1)).c)])] 21 true) (by omega) (by exact entA) ⟨j + 1, by omega, by omega, rfl, rfl⟩
  · have e : j = k := by omega
    subst e
    have hb : (!decide ([(pw j).a, (pw j).b, (pw j).c] = [(pw 0).a, (pw 0).b, (pw 0).c])) = false := by
      rw [k3, decide_eq_true rfl]
      rfl
    refine goA ?_
    refine evG ggA (ss_eq3 (InB_of rfl) rfl rfl rfl rfl) ?_
    refine goA ?_
    exact rfl
theorem power_err {f : F} {n : Int} (h : compC f f ≠ 0) : PC Try.prog 42 [fA f, iV n] (.tup [fA ⟨0, 0, 0⟩, iV (compC f f)]) := by
  have cc := composable_p f f
  have k : (compC f f != 0) = true := by simpa using h
  generalize compC f f = c at *
  refine pc_body2 true Try.func42 rfl rfl rfl (Nat.le_of_ble_eq_true rfl) (CellT.agg agg_F) CellT.tmp ?_
  refine goA ?_
  refine evG ggA (ss_call (InB_of rfl) rfl rfl cc) ?_
  refine goA ?_
  exact rfl
theorem power_far {f : F} {n : Int} (h : compC f f = 0) (hn : n < -1000 ∨ 1000 < n) : PC Try.prog 42 [fA f, iV n] (.tup [fA ⟨0, 0, 0⟩, iV 2]) := by
  have cc := composable_p f f
  rw [h] at cc
  by_cases c : n < -1000
  · have k : decide (n < -1000) = true := by simpa using c
    refine pc_body2 true Try.func42 rfl rfl rfl (Nat.le_of_ble_eq_true rfl) (CellT.agg agg_F) CellT.tmp ?_
    refine goA ?_
    refine evG ggA (ss_call (InB_of rfl) rfl rfl cc) ?_
    refine goA ?_
    exact rfl
  · have k : decide (n < -1000) = false := by simpa using c
    have k2 : decide (n > 1000) = true := by simp; omega
    refine pc_body2 true Try.func42 rfl rfl rfl (Nat.le_of_ble_eq_true rfl) (CellT.agg agg_F) CellT.tmp ?_
    refine goA ?_
    refine evG ggA (ss_call (InB_of rfl) rfl rfl cc) ?_
    refine goA ?_
    exact rfl
theorem order_err {f : F} (h : compC f f ≠ 0) : PC Try.prog 43 [fA f] (.tup [iV 0, iV (compC f f)]) := by
  have cc := composable_p f f
  have k : (compC f f != 0) = true := by simpa using h
  generalize compC f f = c at *
  refine pc_body2 true Try.func43 rfl rfl rfl (Nat.le_of_ble_eq_true rfl) CellT.tmp CellT.tmp ?_
  refine goA ?_
  refine evG ggA (ss_call (InB_of rfl) rfl rfl cc) ?_
  refine goA ?_
  exact rfl
/-- Power, by the group's powers -/
theorem power_p {f : F} (h : Can f f) {n : Int} (hn : Bd 1000 n) {k : Nat} (k1 : 1 ≤ k) (k3 : pwr cmpF (idF f.disc) f.rd k = idF f.disc) : PC Try.prog 42 [fA f, iV n] (.tup [fA (pwr cmpF (idF f.disc) f.rd (n % k).toNat), iV 0]) := by
  have hd := can_pos h
  have G := gp_cls hd
  have mf := (mem_cl hd).2 (can_cl h).1
  unfold Bd at hn
  have r0 := Int.emod_nonneg n (show (k : Int) ≠ 0 by omega)
  have r2 := Int.mul_ediv_add_emod n k
  by_cases c : 0 ≤ n
  · have p := power_pos h ⟨c, hn.2⟩
    rw [G.pwr_mod mf k3] at p
    rw [show (n % k).toNat = n.toNat % k by
      obtain ⟨m, rfl⟩ := Int.eq_ofNat_of_zero_le c
      rw [← Int.natCast_emod]
      rfl]
    exact p
  · have p := power_neg h (n := 0 - n) ⟨by omega, by omega⟩
    rw [show 0 - (0 - n) = n by omega] at p
    have hb := can_bar h
    have e := cmp_inv (compC_of hb) hd
    have mb : f.bar.rd ∈ cls f.disc := by
      have := (can_cl (can_bar h)).2
      exact (mem_cl hd).2 this
    rw [G.comm _ _ mf mb] at e
    have hr : ((n % k).toNat + (0 - n).toNat) % k = 0 := by
      have h1 : (((n % k).toNat + (0 - n).toNat : Nat) : Int) = k * (-(n / k)) := by
        rw [Int.mul_neg]
        omega
      have h2 : ((((n % k).toNat + (0 - n).toNat) % k : Nat) : Int) = 0 := by
        rw [Int.natCast_emod, h1, Int.mul_emod_right]
      omega
    rw [G.pwr_neg mf mb e k3 hr] at p
    exact p
set_option maxHeartbeats 4000000 in
theorem powers_p (f : F) {n : Int} (n0 : -9223372036854775808 ≤ n) (n1 : n ≤ 9223372036854775807) : PC Try.prog 11 [fA f, iV n] (bV true) := by
  have ca := awake_p
  have cc := rcancompose_p f f
  by_cases h : compC f f = 0
  case neg =>
    have c1 := power_err (n := n) h
    have c2 := order_err h
    have k : (compC f f != 0) = true := by simpa using h
    have k2 : (compC f f == compC f f) = true := by simp
    generalize compC f f = c at *
    refine pc_body1 true Try.func11 rfl rfl rfl (Nat.le_of_ble_eq_true rfl) CellT.tmp ?_
    refine goA ?_
    refine evG ggA (ss_call (InB_of rfl) rfl rfl ca) ?_
    refine goA ?_
    refine evG ggA (ss_call (InB_of rfl) rfl rfl c1) ?_
    refine goA ?_
    refine evG ggA (ss_call (InB_of rfl) rfl rfl c2) ?_
    refine goA ?_
    refine evG ggA (ss_call (InB_of rfl) rfl rfl cc) ?_
    refine goA ?_
    refine evG ggA (ss_eq3 (InB_of rfl) rfl rfl rfl rfl) ?_
    refine goA ?_
    exact rfl
  have hC := compC_zero h
  have hd := can_pos hC
  have G := gp_cls hd
  have mf := (mem_cl hd).2 (can_cl hC).1
  obtain ⟨k, k1, k2, k3, k4, k5⟩ := G.ord mf
  have hlen : (cls f.disc).length ≤ 2664 := by
    have := cA_len f.disc 36 (by decide)
    unfold cls
    omega
  have c2 := order_p hC k1 (by omega) k4 k5
  have c3 := rorder_p hC k1 (by omega) k4 k5
  have c4 := rdisc_p hC.bf (by decide)
  have c5 := NumberG f.disc
  unfold numO at c5
  rw [if_pos hd] at c5
  rw [h] at cc
  have t1 : decide ((k : Int) < 1) = false := by simp; omega
  have t2 : (((cls f.disc).length : Int).tmod k != 0) = false := by
    rw [tmod_pos (by omega), ← Int.natCast_emod, k3]
    rfl
  have t3 : ((k : Int) != k) = false := by simp
  have hk0 : (k : Int) ≠ 0 := by omega
  by_cases hn : n < -1000 ∨ 1000 < n
  · have c1 := power_far h hn
    clear k5 k4 k3 mf G hC hd h
    generalize (cls f.disc).length = L at *
    generalize f.disc = d at *
    by_cases c : n < -1000
    · have u1 : decide (n < -1000) = true := by simpa using c
      refine pc_body1 true Try.func11 rfl rfl rfl (Nat.le_of_ble_eq_true rfl) CellT.tmp ?_
      refine goA ?_
      refine evG ggA (ss_call (InB_of rfl) rfl rfl ca) ?_
      refine goA ?_
      refine evG ggA (ss_call (InB_of rfl) rfl rfl c1) ?_
      refine goA ?_
      refine evG ggA (ss_call (InB_of rfl) rfl rfl c2) ?_
      refine goA ?_
      refine evG ggA (ss_call (InB_of rfl) rfl rfl cc) ?_
      refine goA ?_
      refine evG ggA (ss_call (InB_of rfl) rfl rfl c4) ?_
      refine goA ?_
      refine evG ggA (ss_call (InB_of rfl) rfl rfl c5) ?_
      refine goA ?_
      refine evG ggA (ss_div (op := .rem) (InB_of rfl) rfl rfl (by omega) rfl) ?_
      refine goA ?_
      refine evG ggA (ss_call (InB_of rfl) rfl rfl c3) ?_
      refine goA ?_
      refine evG ggA (ss_eq3 (InB_of rfl) rfl rfl rfl rfl) ?_
      refine goA ?_
      exact rfl
    · have u1 : decide (n < -1000) = false := by simpa using c
      have u2 : decide (n > 1000) = true := by simp; omega
      refine pc_body1 true Try.func11 rfl rfl rfl (Nat.le_of_ble_eq_true rfl) CellT.tmp ?_
      refine goA ?_
      refine evG ggA (ss_call (InB_of rfl) rfl rfl ca) ?_
      refine goA ?_
      refine evG ggA (ss_call (InB_of rfl) rfl rfl c1) ?_
      refine goA ?_
      refine evG ggA (ss_call (InB_of rfl) rfl rfl c2) ?_
      refine goA ?_
      refine evG ggA (ss_call (InB_of rfl) rfl rfl cc) ?_
      refine goA ?_
      refine evG ggA (ss_call (InB_of rfl) rfl rfl c4) ?_
      refine goA ?_
      refine evG ggA (ss_call (InB_of rfl) rfl rfl c5) ?_
      refine goA ?_
      refine evG ggA (ss_div (op := .rem) (InB_of rfl) rfl rfl (by omega) rfl) ?_
      refine goA ?_
      refine evG ggA (ss_call (InB_of rfl) rfl rfl c3) ?_
      refine goA ?_
      refine evG ggA (ss_eq3 (InB_of rfl) rfl rfl rfl rfl) ?_
      refine goA ?_
      exact rfl
  have c1 := power_p hC (n := n) (by unfold Bd; omega) k1 k4
  have r0 := Int.emod_nonneg n hk0
  have r1 := Int.emod_lt_of_pos n (show 0 < (k : Int) by omega)
  have c6 := mod_p (x := n) (m := k) (by unfold Bd; omega) (by omega) (by omega)
  have c7 := rpower_p hC (n := n % k) ⟨r0, by omega⟩
  have u1 : decide (n < -1000) = false := by simp; omega
  have u2 : decide (n > 1000) = false := by simp; omega
  clear k5 k4 k3 mf G hC hd h
  generalize pwr cmpF (idF f.disc) f.rd (n % k).toNat = p at *
  generalize (cls f.disc).length = L at *
  generalize f.disc = d at *
  generalize n % (k : Int) = q at *
  have u3 : decide ([p.a, p.b, p.c] = [p.a, p.b, p.c]) = true := by simp
  refine pc_body1 true Try.func11 rfl rfl rfl (Nat.le_of_ble_eq_true rfl) CellT.tmp ?_
  refine goA ?_
  refine evG ggA (ss_call (InB_of rfl) rfl rfl ca) ?_
  refine goA ?_
  refine evG ggA (ss_call (InB_of rfl) rfl rfl c1) ?_
  refine goA ?_
  refine evG ggA (ss_call (InB_of rfl) rfl rfl c2) ?_
  refine goA ?_
  refine evG ggA (ss_call (InB_of rfl) rfl rfl cc) ?_
  refine goA ?_
  refine evG ggA (ss_call (InB_of rfl) rfl rfl c4) ?_
  refine goA ?_
  refine evG ggA (ss_call (InB_of rfl) rfl rfl c5) ?_
  refine goA ?_
  refine evG ggA (ss_div (op := .rem) (InB_of rfl) rfl rfl (by omega) rfl) ?_
  refine goA ?_
  refine evG ggA (ss_call (InB_of rfl) rfl rfl c3) ?_
  refine goA ?_
  refine evG ggA (ss_call (InB_of rfl) rfl rfl c6) ?_
  refine goA ?_
  refine evG ggA (ss_call (InB_of rfl) rfl rfl c7) ?_
  refine goA ?_
  refine evG ggA (ss_eq3 (InB_of rfl) rfl rfl rfl rfl) ?_
  refine goA ?_
  rw [u3]
  exact rfl
end Ab
