/- The document's classes: walked. -/
import Derived.Test.YtajlkcnlfiikeaaQwP
set_option linter.all false
namespace Ab
open Go Go.RowKit Go.Proofs Qf
set_option maxRecDepth 100000

def rok (d a b : Int) : Bool := decide ((b * b - d).tmod (4 * a) = 0) && (decide (fOf d a b).Red && decide (ctI (fOf d a b) = 1))
def rB (d a : Int) : Nat → List F
  | 0 => []
  | j + 1 => rB d a j ++ if rok d a (0 - a + j) = true then [fOf d a (0 - a + j)] else []
theorem ctI_pos {f : F} (h : 0 < f.a) : 1 ≤ ctI f := by
  rw [ctI_eq]
  have := Nat.gcd_pos_of_pos_left f.c.natAbs (Nat.gcd_pos_of_pos_left f.b.natAbs (show 0 < f.a.natAbs by omega))
  unfold F.ct
  omega
theorem rok_eq {d a b : Int} (ha : 0 < a) (h1 : -a < b) (h2 : b ≤ a) : rok d a b = okF d a b := by
  unfold rok okF
  congr 1
  have hc := ctI_pos (f := fOf d a b) ha
  have e1 : decide (ctI (fOf d a b) = 1) = !decide (1 < ctI (fOf d a b)) := by
    by_cases c : 1 < ctI (fOf d a b)
    · rw [decide_eq_true c, decide_eq_false (by omega)]; rfl
    · rw [decide_eq_false c, decide_eq_true (by omega)]; rfl
  rw [e1]
  congr 1
  have e2 : (fOf d a b).Red ↔ ¬ ((b * b - d).tdiv (4 * a) < a) ∧ ¬ ((b * b - d).tdiv (4 * a) = a ∧ b < 0) := by
    constructor
    · intro h
      have h3 : a ≤ (b * b - d).tdiv (4 * a) := h.ac
      have h4 : a = (b * b - d).tdiv (4 * a) → 0 ≤ b := h.e
      refine ⟨by omega, fun h5 => ?_⟩
      have := h4 h5.1.symm
      omega
    · rintro ⟨h3, h4⟩
      exact ⟨h1, h2, by show a ≤ (b * b - d).tdiv (4 * a); omega, fun (h5 : a = (b * b - d).tdiv (4 * a)) => by
        show 0 ≤ b
        refine Classical.byContradiction fun hn => h4 ⟨h5.symm, by omega⟩⟩
  by_cases c1 : (b * b - d).tdiv (4 * a) < a
  · rw [decide_eq_true c1, decide_eq_false (fun h => (e2.1 h).1 c1)]; rfl
  · by_cases c2 : (b * b - d).tdiv (4 * a) = a ∧ b < 0
    · rw [decide_eq_false (fun h => (e2.1 h).2 c2), decide_eq_false c1, decide_eq_true c2.1, decide_eq_true c2.2]; rfl
    · rw [decide_eq_true (e2.2 ⟨c1, c2⟩), decide_eq_false c1]
      by_cases c3 : (b * b - d).tdiv (4 * a) = a
      · rw [decide_eq_true c3, decide_eq_false (fun h => c2 ⟨c3, h⟩)]; rfl
      · rw [decide_eq_false c3]; rfl
theorem rok_first {d a : Int} : rok d a (0 - a) = false := by
  unfold rok
  have : ¬ (fOf d a (0 - a)).Red := fun h => by
    have : -a < 0 - a := h.b1
    omega
  rw [decide_eq_false this]
  simp
theorem rB_cB {d a : Int} (ha : 0 < a) : ∀ j : Nat, (j : Int) ≤ 2 * a → rB d a (j + 1) = cB d a j
  | 0, _ => by
    rw [rB, rB, show 0 - a + ((0 : Nat) : Int) = 0 - a by omega, rok_first]
    rfl
  | j + 1, h => by
    rw [rB, rB_cB ha j (by omega), cB, show 0 - a + ((j + 1 : Nat) : Int) = 1 - a + j by omega, rok_eq ha (by omega) (by omega)]
theorem rB_len (d a : Int) : ∀ j, (rB d a j).length ≤ j
  | 0 => Nat.le_refl _
  | j + 1 => by
    have := rB_len d a j
    rw [rB, List.length_append]
    split <;> simp <;> omega
theorem primitive_p {f : F} (h : FBd 4000000000000000000 f) : PC Try.prog 54 [fA f] (bV (decide (ctI f = 1))) := by
  have c1 := rgcd_p h.a h.b
  have c2 := rgcd_p (gI_bd h.a h.b) h.c
  have e : decide (ctI f = 1) = (gI (gI f.a f.b) f.c == 1) := rfl
  rw [e]
  refine pc_body1 true Try.func54 rfl rfl rfl (Nat.le_of_ble_eq_true rfl) CellT.tmp ?_
  refine goA ?_
  refine evG ggA (ss_call (InB_of rfl) rfl rfl c1) ?_
  refine goA ?_
  refine evG ggA (ss_call (InB_of rfl) rfl rfl c2) ?_
  refine goA ?_
  exact rfl
set_option maxHeartbeats 4000000 in
theorem rclasses_p {d : Int} (h0 : -4000 ≤ d) (h1 : d < 0) : PC Try.prog 34 [iV d] (.sl ((cls d).map fA)) := by
  refine pc_body1 true Try.func34 rfl rfl rfl (Nat.le_of_ble_eq_true rfl) CellT.tmp ?_
  refine goA ?_
  refine T.loop (fun n s1 => ∃ k : Nat, k ≤ 36 ∧ n = 37 - k ∧ s1 = mkS [(0, .v (iV d)), (3, .own 100 ((cA d k).map fA).length), (4, .v (iV ((k : Int) + 1)))] [(100, .lst 3 23 ((cA d k).map fA))] 56 true) 37
    (s' := mkS [(0, .v (iV d)), (3, .own 100 0), (4, .v (iV 1))] [(100, .lst 3 23 [])] 56 true) (by exact entA) ⟨0, by omega, rfl, rfl⟩ ?_
  rintro _ _ ⟨k, hk, rfl, rfl⟩
  have hl := cA_len d k hk
  have q1 := bmul (show Bd 111 (3 * ((k : Int) + 1)) by unfold Bd; omega) (show Bd 37 ((k : Int) + 1) by unfold Bd; omega)
  unfold Bd at q1
  by_cases c1 : 3 * ((k : Int) + 1) * ((k : Int) + 1) ≤ 0 - d
  case neg =>
    have b1 : decide (3 * ((k : Int) + 1) * ((k : Int) + 1) ≤ 0 - d) = false := by simpa using c1
    have e := cA_stop (d := d) (k := k) (by omega) (36 - k)
    rw [show k + (36 - k) = 36 by omega] at e
    have e2 : cls d = cA d k := e
    rw [e2]
    clear e e2
    generalize cA d k = L at *
    generalize hA : (k : Int) + 1 = a at *
    refine T.seq ?_
    refine r1A ?_
    refine T.condF rfl (by assumption) ?_
    refine T.exit ?_
    (repeat (first | with_reducible refine seqQ_n ?_ | with_reducible refine seqQ_e ?_ | with_reducible refine seqQ_r ?_ | with_reducible refine blockQ_n ?_ | with_reducible refine blockQ_r ?_ | with_reducible refine blockQ_e rfl ?_ | with_reducible refine blockQ_o rfl ?_ | with_reducible refine loopQ_e ?_ | with_reducible refine loopQ_r ?_ | with_reducible refine midQ_e ?_ | with_reducible refine midQ_r ?_ | with_reducible refine roundQ_n ?_ | with_reducible refine roundQ_e ?_ | with_reducible refine roundQ_r ?_))
    refine T.weak (s' := mkS [(3, .v (.sl (L.map fA)))] [] 56 true) (by exact entA) ?_
    refine goA ?_
    exact rfl
  have b1 : decide (3 * ((k : Int) + 1) * ((k : Int) + 1) ≤ 0 - d) = true := by simpa using c1
  have hk35 : k ≤ 35 := by
    refine Classical.byContradiction fun hn => ?_
    have := sq_up (k := 37) (m := (k : Int) + 1) (by decide) (by omega)
    omega
  have eA : cA d (k + 1) = cA d k ++ rB d (k + 1) (2 * (k + 1) + 1) := by rw [cA, if_pos (by omega), rB_cB (by omega) _ (by omega)]
  generalize cA d k = L at *
  have ea : (((k + 1 : Nat) : Int) + 1) = (k : Int) + 1 + 1 := by omega
  generalize hA : (k : Int) + 1 = a at *
  have ha0 : 1 ≤ a := by omega
  have ha1 : a ≤ 36 := by omega
  refine goA ?_
  refine T.loop (fun n s1 => ∃ j : Nat, j ≤ 2 * (k + 1) + 1 ∧ n = 2 * (k + 1) + 2 - j ∧ s1 = mkS [(0, .v (iV d)), (3, .own 100 ((L ++ rB d a j).map fA).length), (4, .v (iV a)), (5, .v (iV (0 - a + (j : Int))))] [(100, .lst 3 23 ((L ++ rB d a j).map fA))] 56 true) (2 * (k + 1) + 2)
    (s' := mkS [(0, .v (iV d)), (3, .own 100 (L.map fA).length), (4, .v (iV a)), (5, .v (iV (0 - a)))] [(100, .lst 3 23 (L.map fA))] 56 true) (by exact entA) ⟨0, by omega, rfl, by rw [rB, List.append_nil, show 0 - a + ((0 : Nat) : Int) = 0 - a by omega]⟩ ?_
  rintro _ _ ⟨j, hj, rfl, rfl⟩
  have hbl := rB_len d a j
  by_cases c2 : j = 2 * (k + 1) + 1
  · subst c2
    have b2 : decide (0 - a + ((2 * (k + 1) + 1 : Nat) : Int) ≤ a) = false := by simp; omega
    refine goA ?_
    exact loopQ_intro (k := 37 - (k + 1)) (s' := mkS [(0, .v (iV d)), (3, .own 100 ((L ++ rB d a (2 * (k + 1) + 1)).map fA).length), (4, .v (iV (a + 1)))] [(100, .lst 3 23 ((L ++ rB d a (2 * (k + 1) + 1)).map fA))] 56 true) (by omega) (by exact entA) ⟨k + 1, by omega, rfl, by rw [eA, ea]⟩
  have b2 : decide (0 - a + (j : Int) ≤ a) = true := by simp; omega
  have eB : rB d a (j + 1) = rB d a j ++ if rok d a (0 - a + j) = true then [fOf d a (0 - a + j)] else [] := rfl
  have ej : 0 - a + ((j + 1 : Nat) : Int) = 0 - a + (j : Int) + 1 := by omega
  have hbb : Bd 36 (0 - a + (j : Int)) := by unfold Bd; omega
  generalize rB d a j = L2 at *
  have hll : ((L ++ L2).map fA).length ≤ 3000 := by rw [List.length_map, List.length_append]; omega
  have fin : ∀ (l : List F) (m' : Nat) (s2 : AS), (if rok d a (0 - a + j) = true then [fOf d a (0 - a + j)] else []) = l → m' = ((L ++ L2 ++ l).map fA).length → s2 = mkS [(0, .v (iV d)), (3, .own 100 m'), (4, .v (iV a)), (5, .v (iV (0 - a + (j : Int) + 1)))] [(100, .lst 3 23 ((L ++ L2 ++ l).map fA))] 56 true →
      ∃ j' : Nat, j' ≤ 2 * (k + 1) + 1 ∧ 2 * (k + 1) + 2 - (j + 1) = 2 * (k + 1) + 2 - j' ∧ s2 = mkS [(0, .v (iV d)), (3, .own 100 ((L ++ rB d a j').map fA).length), (4, .v (iV a)), (5, .v (iV (0 - a + (j' : Int))))] [(100, .lst 3 23 ((L ++ rB d a j').map fA))] 56 true :=
    fun l m' s2 e em e2 => ⟨j + 1, by omega, rfl, by rw [eB, e, e2, em, ej, List.append_assoc]⟩
  clear eA eB ej ea hA q1
  generalize 0 - a + (j : Int) = b at *
  have z1 := bmul hbb hbb
  have z2 := tdiv_bd (y := 4 * a) (N := 6000) (x := b * b - d) (by unfold Bd at *; omega)
  unfold Bd at z1 z2 hbb
  have hfb : FBd 6000 (fOf d a b) := ⟨by unfold Bd fOf; simp only; omega, by unfold Bd fOf; simp only; omega, by unfold Bd fOf; simp only; omega⟩
  have ci := is_p (g := fOf d a b) (show 0 < a by omega) hfb (by decide)
  have cp := primitive_p (hfb.mono (by decide))
  have hfo : fA (fOf d a b) = .agg [iV a, iV b, iV ((b * b - d).tdiv (4 * a))] := rfl
  rw [hfo] at ci cp
  have hok : rok d a b = (decide ((b * b - d).tmod (4 * a) = 0) && (decide (fOf d a b).Red && decide (ctI (fOf d a b) = 1))) := rfl
  clear hfb
  have done : rok d a b = false → ∃ j' : Nat, j' ≤ 2 * (k + 1) + 1 ∧ 2 * (k + 1) + 2 - (j + 1) = 2 * (k + 1) + 2 - j' ∧ mkS [(0, .v (iV d)), (3, .own 100 ((L ++ L2).map fA).length), (4, .v (iV a)), (5, .v (iV (b + 1)))] [(100, .lst 3 23 ((L ++ L2).map fA))] 56 true = mkS [(0, .v (iV d)), (3, .own 100 ((L ++ rB d a j').map fA).length), (4, .v (iV a)), (5, .v (iV (0 - a + (j' : Int))))] [(100, .lst 3 23 ((L ++ rB d a j').map fA))] 56 true :=
    fun e => fin [] _ _ (by rw [e]; rfl) (by rw [List.append_nil]) (by rw [List.append_nil])
  by_cases c3 : (b * b - d).tmod (4 * a) = 0
  case neg =>
    have b3 : ((b * b - d).tmod (4 * a) == 0) = false := by simpa using c3
    rw [decide_eq_false c3] at hok
    refine goA ?_
    refine evG ggA (ss_div (InB_of rfl) rfl rfl (by omega) (w64 (by omega) (by omega))) ?_
    refine goA ?_
    refine evG ggA (ss_div (op := .rem) (InB_of rfl) rfl rfl (by omega) rfl) ?_
    refine goA ?_
    refine loopQ_intro (k := 2 * (k + 1) + 2 - (j + 1)) (s' := mkS [(0, .v (iV d)), (3, .own 100 ((L ++ L2).map fA).length), (4, .v (iV a)), (5, .v (iV (b + 1)))] [(100, .lst 3 23 ((L ++ L2).map fA))] 56 true) (by omega) (by exact entA) (done hok)
  have b3 : ((b * b - d).tmod (4 * a) == 0) = true := by simpa using c3
  rw [decide_eq_true c3] at hok
  cases h4 : decide (fOf d a b).Red with
  | false =>
    rw [h4] at hok ci
    refine goA ?_
    refine evG ggA (ss_div (InB_of rfl) rfl rfl (by omega) (w64 (by omega) (by omega))) ?_
    refine goA ?_
    refine evG ggA (ss_div (op := .rem) (InB_of rfl) rfl rfl (by omega) rfl) ?_
    refine goA ?_
    refine evG ggA (ss_call (InB_of rfl) rfl rfl ci) ?_
    refine goA ?_
    refine loopQ_intro (k := 2 * (k + 1) + 2 - (j + 1)) (s' := mkS [(0, .v (iV d)), (3, .own 100 ((L ++ L2).map fA).length), (4, .v (iV a)), (5, .v (iV (b + 1)))] [(100, .lst 3 23 ((L ++ L2).map fA))] 56 true) (by omega) (by exact entA) (done hok)
  | true =>
  rw [h4] at hok ci
  cases h5 : decide (ctI (fOf d a b) = 1) with
  | false =>
    rw [h5] at hok cp
    refine goA ?_
    refine evG ggA (ss_div (InB_of rfl) rfl rfl (by omega) (w64 (by omega) (by omega))) ?_
    refine goA ?_
    refine evG ggA (ss_div (op := .rem) (InB_of rfl) rfl rfl (by omega) rfl) ?_
    refine goA ?_
    refine evG ggA (ss_call (InB_of rfl) rfl rfl ci) ?_
    refine goA ?_
    refine evG ggA (ss_call (InB_of rfl) rfl rfl cp) ?_
    refine goA ?_
    refine loopQ_intro (k := 2 * (k + 1) + 2 - (j + 1)) (s' := mkS [(0, .v (iV d)), (3, .own 100 ((L ++ L2).map fA).length), (4, .v (iV a)), (5, .v (iV (b + 1)))] [(100, .lst 3 23 ((L ++ L2).map fA))] 56 true) (by omega) (by exact entA) (done hok)
  | true =>
  rw [h5] at hok cp
  refine goA ?_
  refine evG ggA (ss_div (InB_of rfl) rfl rfl (by omega) (w64 (by omega) (by omega))) ?_
  refine goA ?_
  refine evG ggA (ss_div (op := .rem) (InB_of rfl) rfl rfl (by omega) rfl) ?_
  refine goA ?_
  refine evG ggA (ss_call (InB_of rfl) rfl rfl ci) ?_
  refine goA ?_
  refine evG ggA (ss_call (InB_of rfl) rfl rfl cp) ?_
  refine goA ?_
  refine evG ggA (ss_bslice (InB_of rfl) (make_tab rfl) rfl rfl rfl rfl (one_ok rfl rfl) (Nat.le_of_ble_eq_true rfl)) ?_
  refine evG ggA (ss_snoc (q := fOf d a b) (InB_of rfl) (make_tab rfl) rfl rfl (by simp) rfl (by omega) (Nat.le_of_ble_eq_true rfl) rfl) ?_
  refine goA ?_
  exact loopQ_intro (k := 2 * (k + 1) + 2 - (j + 1)) (s' := mkS [(0, .v (iV d)), (3, .own 100 (((L ++ L2).map fA).length + 1)), (4, .v (iV a)), (5, .v (iV (b + 1)))] [(100, .lst 3 23 ((L ++ L2 ++ [fOf d a b]).map fA))] 56 true) (by omega) (by exact entA) (fin _ _ _ (by rw [hok]; rfl) (by simp; omega) rfl)
end Ab
