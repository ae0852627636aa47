/- The example of the chapter on quasimodular forms: walked. -/
import Derived.Test.YtkbccidalhefaaaGreatQmY
set_option linter.all false
namespace Ab
open Go Go.RowKit Go.Proofs Hp
set_option maxRecDepth 100000

def qtup (t : QT) : Int × Int × Int × Rat := (t.a, t.b, t.c, t.q)
theorem qtup_inj : ∀ {l m : List QT}, l.map qtup = m.map qtup → l = m
  | [], [], _ => rfl
  | [], _ :: _, h => by simp at h
  | _ :: _, [], h => by simp at h
  | t :: l, u :: m, h => by
    simp only [List.map_cons, List.cons.injEq] at h
    obtain ⟨a, b, c, q⟩ := t
    obtain ⟨a', b', c', q'⟩ := u
    obtain ⟨h1, h2⟩ := h
    simp only [qtup, Prod.mk.injEq] at h1
    obtain ⟨rfl, rfl, rfl, rfl⟩ := h1
    rw [qtup_inj h2]
theorem term_p (a b c : Int) : PC Tryz.prog 26 [iV a, iV b, iV c] (.sl (PL [⟨a, b, c, 1⟩])) := by
  have c1 := q_p 1 (by decide) (by decide)
  rw [show ((1 : Int) : Rat) = 1 from rfl] at c1
  show PC _ _ _ (.sl [.agg [iV a, iV b, iV c, .p (.bool (decide ((1 : Rat).num < 0))), .sl ((dgs (1 : Rat).num.natAbs).map u32), .p (.bool (decide (((1 : Rat).den : Int) < 0))), .sl ((dgs ((1 : Rat).den : Int).natAbs).map u32)]])
  generalize (1 : Rat) = q at *
  refine pc_body1 true Tryz.func26 rfl rfl rfl (Nat.le_of_ble_eq_true rfl) CellT.tmp ?_
  refine goA ?_
  refine evG ggA (ss_call (InB_of rfl) rfl rfl c1) ?_
  refine goA ?_
  refine evG ggA (ss_bslice (InB_of rfl) (make_tab rfl) rfl rfl rfl rfl (ones_ok rfl) (Nat.le_of_ble_eq_true rfl)) ?_
  refine goA ?_
  exact rfl
/-- lists of small terms -/
def okL (l : List QT) : Bool := l.all fun t => decide (-1000 ≤ t.a) && decide (t.a ≤ 1000) && decide (-1000 ≤ t.b) && decide (t.b ≤ 1000) && decide (-1000 ≤ t.c) && decide (t.c ≤ 1000) && htB 2 t.q
theorem okL_tn {l : List QT} (h : okL l = true) : ∀ e, e ∈ l.map qe → e.t.tn ∧ e.ok 2 ∧ e.sm := fun e he => by
  obtain ⟨t, ht, rfl⟩ := List.mem_map.1 he
  have h := List.all_eq_true.1 h t ht
  simp only [Bool.and_eq_true, decide_eq_true_eq] at h
  have h1 : t.tn := by unfold QT.tn; omega
  exact ⟨h1, qe_ok (htB_ht h.2), h1.sm⟩
theorem okL_ht {l : List QT} (h : okL l = true) : ∀ t, t ∈ l → (qe t).sm ∧ Ht t.q 2 := fun t ht => by
  have h := List.all_eq_true.1 h t ht
  simp only [Bool.and_eq_true, decide_eq_true_eq] at h
  have h1 : t.tn := by unfold QT.tn; omega
  exact ⟨h1.sm, htB_ht h.2⟩
theorem kTidy {l r : List QT} (h : okL l = true) (hl : l.length ≤ 20) (e : (qnf l).map qtup = r.map qtup) : PC Tryz.prog 31 [.sl (PL l)] (.sl (PL r)) := by
  rw [← qtup_inj e]
  exact tidyL_p sort20_p hl (by decide) (fun t ht => (okL_ht h t ht).1) (fun t ht => (okL_ht h t ht).2) (by decide) (by decide)
theorem kTimes {l m r : List QT} (h : okL l = true) (k : okL m = true) (hl : l.length * m.length ≤ 20) (h1 : l.length ≤ 20) (h2 : m.length ≤ 20) (e : (qnf (qml l m)).map qtup = r.map qtup) : PC Tryz.prog 39 [.sl (PL l), .sl (PL m)] (.sl (PL r)) := by
  rw [← qtup_inj e]
  have c := qtimes_p sort20_p (U := l.map qe) (V := m.map qe) (K := 2) (by simpa using hl) (by decide) (by simp; omega) (by simp; omega) (fun e he => (okL_tn h e he).1) (fun e he => (okL_tn k e he).1) (fun e he => (okL_tn h e he).2.1) (fun e he => (okL_tn k e he).2.1) (by decide) (by decide)
  rw [qe_map, qe_map] at c
  exact c
theorem kDerive {l r : List QT} (h : okL l = true) (hl : 6 * l.length ≤ 20) (e : (qnf (qdv l)).map qtup = r.map qtup) : PC Tryz.prog 33 [.sl (PL l)] (.sl (PL r)) := by
  rw [← qtup_inj e]
  have c := qderive_p sort20_p (U := l.map qe) (K := 2) (by simpa using hl) (by decide) (fun e he => (okL_tn h e he).1) (fun e he => (okL_tn h e he).2.1) (by decide) (by decide)
  rw [qe_map] at c
  exact c
theorem kScale {c : Rat} {l r : List QT} (hc : htB 2 c = true) (h : okL l = true) (hl : l.length ≤ 20) (e : (qnf (l.map (qsc c))).map qtup = r.map qtup) : PC Tryz.prog 48 [encQ c, .sl (PL l)] (.sl (PL r)) := by
  rw [← qtup_inj e]
  have k := qscale_p sort20_p (U := l.map qe) (K := 2) (isV_encQ (htB_ht hc)) (by simpa using hl) (by decide) (fun e he => (okL_tn h e he).2.2) (fun e he => (okL_tn h e he).2.1) (by decide) (by decide)
  rw [qe_map] at k
  exact k
theorem kPure {l : List QT} {k : Int} (h : okL l = true) (hl : l.length ≤ 20) (e : purQ (l.map qe) = true ∧ topQ (l.map qe) = k) : PC Tryz.prog 38 [.sl (PL l)] (.tup [iV k, bV true]) := by
  have c := qpure_p (U := l.map qe) (by simp; omega) (fun e he => (okL_tn h e he).2.2)
  rw [e.1, e.2, if_pos rfl] at c
  exact c
theorem kValid {l : List QT} (hl : l.length ≤ 20) (h : ∀ t, t ∈ l → (qe t).vt) : PC Tryz.prog 30 [.sl (PL l)] (bV true) := by
  have c := qvalid_p (U := l.map qe) (by simp; omega)
  have hq : QV (l.map qe) := ⟨by simp; omega, fun e he => by obtain ⟨t, ht, rfl⟩ := List.mem_map.1 he; exact h t ht⟩
  rw [decide_eq_true hq] at c
  exact c
def qE4 : List QT := [⟨0, 1, 0, 1⟩]
def qE6 : List QT := [⟨0, 0, 1, 1⟩]
def qR1 : List QT := [⟨0, 0, 1, Rat.divInt (-1) 3⟩]
def qR2 : List QT := [⟨0, 0, 2, 2⟩, ⟨0, 3, 0, -2⟩]
theorem serre4_p : PC Tryz.prog 10 [.sl (PL qE4)] (.tup [.sl (PL qR1), iV 0]) := by
  have hv := kValid (l := qE4) (by decide) (fun t ht => by rw [List.mem_singleton.1 ht]; decide)
  have ht := kTidy (l := qE4) (r := qE4) (by decide +kernel) (by decide) (by decide +kernel)
  have hp := kPure (l := qE4) (k := 4) (by decide +kernel) (by decide) (by decide +kernel)
  have hf := qfrac_p (n := 0 - 4) (d := 12) (by decide) (by decide) (by decide)
  have hw := kTimes (l := qE4) (m := [⟨1, 0, 0, ((0 - 4 : Int) : Rat) / ((12 : Int) : Rat)⟩]) (r := [⟨1, 1, 0, Rat.divInt (-1) 3⟩]) (by decide +kernel) (by decide +kernel) (by decide) (by decide) (by decide) (by decide +kernel)
  have hd := kDerive (l := qE4) (r := [⟨0, 0, 1, Rat.divInt (-1) 3⟩, ⟨1, 1, 0, Rat.divInt 1 3⟩]) (by decide +kernel) (by decide) (by decide +kernel)
  have hc := concat_p ((([⟨0, 0, 1, Rat.divInt (-1) 3⟩, ⟨1, 1, 0, Rat.divInt 1 3⟩] : List QT)).map qe) (([⟨1, 1, 0, Rat.divInt (-1) 3⟩] : List QT).map qe) (by decide) (by decide)
  have hr := kTidy (l := [⟨0, 0, 1, Rat.divInt (-1) 3⟩, ⟨1, 1, 0, Rat.divInt 1 3⟩] ++ [⟨1, 1, 0, Rat.divInt (-1) 3⟩]) (r := qR1) (by decide +kernel) (by decide) (by decide +kernel)
  rw [← List.map_append] at hc
  exact qserre_core hv ht hp (by decide) (by decide) (by decide) hf hw hd hc hr
def fF : Nat → List QT
  | 0 => qE4
  | _ => [⟨0, 0, 1, Rat.divInt (-1) 3⟩, ⟨1, 1, 0, Rat.divInt 1 3⟩]
def fG : Nat → List QT
  | 0 => qE6
  | _ => [⟨0, 2, 0, Rat.divInt (-1) 2⟩, ⟨1, 0, 1, Rat.divInt 1 2⟩]
def fT : Nat → List QT
  | 0 => [⟨0, 3, 0, Rat.divInt (-1) 2⟩, ⟨1, 1, 1, Rat.divInt 1 2⟩]
  | _ => [⟨0, 0, 2, Rat.divInt (-1) 3⟩, ⟨1, 1, 1, Rat.divInt 1 3⟩]
def fS : Nat → List QT
  | 0 => [⟨0, 3, 0, -2⟩, ⟨1, 1, 1, 2⟩]
  | _ => [⟨0, 0, 2, 2⟩, ⟨1, 1, 1, -2⟩]
def fQ : Nat → Rat
  | 0 => 4
  | _ => -6
theorem two_cases {P : Nat → Prop} (h0 : P 0) (h1 : P 1) : ∀ r, r ≤ 1 → P r := fun r hr => by
  obtain rfl | rfl : r = 0 ∨ r = 1 := by omega
  · exact h0
  · exact h1
theorem one_case {P : Nat → Prop} (h0 : P 0) : ∀ r, r < 1 → P r := fun r hr => by
  obtain rfl : r = 0 := by omega
  exact h0
theorem bracket46_p : PC Tryz.prog 12 [.sl (PL qE4), .sl (PL qE6), iV 1] (.tup [.sl (PL qR2), iV 0]) := by
  have b4 := qbin_p (m := 4) (s := 1) (by decide) (by decide) (by decide)
  have b40 := qbin_p (m := 4) (s := 0) (by decide) (by decide) (by decide)
  have b60 := qbin_p (m := 6) (s := 0) (by decide) (by decide) (by decide)
  have b61 := qbin_p (m := 6) (s := 1) (by decide) (by decide) (by decide)
  have r1 := rof_p 4 (by decide) (by decide)
  have r2 := rof_p (-6) (by decide) (by decide)
  have hR := kTidy (l := fS 0 ++ fS 1) (r := qR2) (by decide +kernel) (by decide) (by decide +kernel)
  have hnu : ∀ l : List QT, l.length ≤ 20 → (∀ a, a ∈ PL l → a.cells.length = 7 ∧ ∀ c, c ∈ a.cells → c.nu = true) ∧ (PL l).length ≤ 100000 := fun l hl => ⟨fun a ha => ⟨av_cells _ a ha, av_nu _ a ha⟩, by rw [PL_len]; omega⟩
  have e : (List.range (1 + 1)).flatMap (fun r => PL (fS r)) = PL (fS 0 ++ fS 1) := by simp [List.range_succ, PL]
  refine qbracket_core (n := 1) (by decide) (f := fun i => PL (fF i)) (g := fun i => PL (fG i)) (k := 4) (l := 6) (tm := fun r => PL (fT r)) (sc := fun r => PL (fS r)) (b1 := fun r => bnG 4 (1 - r)) (b2 := fun r => bnG 6 r) (q := fQ)
    (kValid (by decide) (fun t ht => by rw [List.mem_singleton.1 ht]; decide)) (kValid (by decide) (fun t ht => by rw [List.mem_singleton.1 ht]; decide))
    (kTidy (l := qE4) (r := qE4) (by decide +kernel) (by decide) (by decide +kernel)) (kTidy (l := qE6) (r := qE6) (by decide +kernel) (by decide) (by decide +kernel))
    (kPure (l := qE4) (k := 4) (by decide +kernel) (by decide) (by decide +kernel)) (kPure (l := qE6) (k := 6) (by decide +kernel) (by decide) (by decide +kernel))
    (by decide) (by decide) (by decide) (by decide) (by decide)
    (one_case (kDerive (l := qE4) (r := fF 1) (by decide +kernel) (by decide) (by decide +kernel))) (one_case (kDerive (l := qE6) (r := fG 1) (by decide +kernel) (by decide) (by decide +kernel)))
    (two_cases b4 b40) (two_cases b60 b61) (two_cases (by decide) (by decide)) (two_cases r1 r2)
    (two_cases (kTimes (l := fF 0) (m := fG 1) (r := fT 0) (by decide +kernel) (by decide +kernel) (by decide) (by decide) (by decide) (by decide +kernel)) (kTimes (l := fF 1) (m := fG 0) (r := fT 1) (by decide +kernel) (by decide +kernel) (by decide) (by decide) (by decide) (by decide +kernel)))
    (two_cases (kScale (c := fQ 0) (l := fT 0) (r := fS 0) (by decide +kernel) (by decide +kernel) (by decide) (by decide +kernel)) (kScale (c := fQ 1) (l := fT 1) (r := fS 1) (by decide +kernel) (by decide +kernel) (by decide) (by decide +kernel)))
    (two_cases (hnu _ (by decide)) (hnu _ (by decide))) (by rw [e]; exact hR)
set_option maxHeartbeats 8000000 in
theorem q38awake_p : PC Tryz.prog 6 [] (bV true) := by
  have t1 := term_p 0 1 0
  have t2 := term_p 0 0 1
  have c1 : PC Tryz.prog 10 [.sl (PL [⟨0, 1, 0, 1⟩])] _ := serre4_p
  have c2 : PC Tryz.prog 12 [.sl (PL [⟨0, 1, 0, 1⟩]), .sl (PL [⟨0, 0, 1, 1⟩]), iV 1] _ := bracket46_p
  have s1 := rsame38_p (l := qR1) (K := 2) (by decide) (fun t ht => (okL_ht (l := qR1) (by decide +kernel) t ht).2) (by decide)
  have s2 := rsame38_p (l := qR2) (K := 2) (by decide) (fun t ht => (okL_ht (l := qR2) (by decide +kernel) t ht).2) (by decide)
  have f1 := lfrac_p (n := -1) (d := 3) (by unfold Bn; omega) (by decide) (by unfold Bn; omega)
  have q1 := q_p 2 (by decide) (by decide)
  have q2 := q_p (-2) (by decide) (by decide)
  have s1 : PC Tryz.prog 27 [.sl (PL qR1), .sl [(qe ⟨0, 0, 1, Rat.divInt (-1) 3⟩).av]] (bV true) := s1
  have s2 : PC Tryz.prog 27 [.sl (PL qR2), .sl [(qe ⟨0, 0, 2, ((2 : Int) : Rat)⟩).av, (qe ⟨0, 3, 0, ((-2 : Int) : Rat)⟩).av]] (bV true) := s2
  generalize PL qR1 = R1 at *
  generalize PL qR2 = R2 at *
  generalize PL [⟨0, 1, 0, 1⟩] = A1 at *
  generalize PL [⟨0, 0, 1, 1⟩] = A2 at *
  generalize Rat.divInt (-1) 3 = x at *
  generalize ((2 : Int) : Rat) = y at *
  generalize ((-2 : Int) : Rat) = z at *
  refine pc_body1 true Tryz.func6 rfl rfl rfl (Nat.le_of_ble_eq_true rfl) CellT.tmp ?_
  refine goA ?_
  refine evG ggA (ss_call (InB_of rfl) rfl rfl t1) ?_
  refine evG ggA (ss_call (InB_of rfl) rfl rfl c1) ?_
  refine goA ?_
  refine evG ggA (ss_call (InB_of rfl) rfl rfl t1) ?_
  refine evG ggA (ss_call (InB_of rfl) rfl rfl t2) ?_
  refine evG ggA (ss_call (InB_of rfl) rfl rfl c2) ?_
  refine goA ?_
  refine evG ggA (ss_call (InB_of rfl) rfl rfl f1) ?_
  refine goA ?_
  refine evG ggA (ss_bslice (InB_of rfl) (make_tab rfl) rfl rfl rfl rfl (ones_ok rfl) (Nat.le_of_ble_eq_true rfl)) ?_
  refine evG ggA (ss_call (InB_of rfl) rfl rfl s1) ?_
  refine goA ?_
  refine evG ggA (ss_call (InB_of rfl) rfl rfl q1) ?_
  refine goA ?_
  refine evG ggA (ss_call (InB_of rfl) rfl rfl q2) ?_
  refine goA ?_
  refine evG ggA (ss_bslice (InB_of rfl) (make_tab rfl) rfl rfl rfl rfl (ones_ok rfl) (Nat.le_of_ble_eq_true rfl)) ?_
  refine evG ggA (ss_call (InB_of rfl) rfl rfl s2) ?_
  refine goA ?_
  exact rfl
end Ab
