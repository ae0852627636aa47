/- The exported sum, multiple, product and derivative of polynomials; Serre's derivative of zero: by the contracts of what they call. -/
import Derived.Test.YtkbccidalhefaaaGreatQmZ
set_option linter.all false
namespace Ab
open Go Go.RowKit Go.Proofs Hp
set_option maxRecDepth 100000

theorem qD_core {X T1 R : List AV} {k : Int} (hv : PC Tryz.prog 30 [.sl X] (bV true)) (ht : PC Tryz.prog 31 [.sl X] (.sl T1)) (hT : 0 < T1.length) (hp : PC Tryz.prog 32 [.sl T1] (iV k)) (hk : 0 ≤ k ∧ k + 2 ≤ 60)
    (hd : PC Tryz.prog 33 [.sl T1] (.sl R)) : PC Tryz.prog 7 [.sl X] (.tup [.sl R, iV 0]) := by
  have b1 : decide ((T1.length : Int) > 0) = true := decide_eq_true (by omega)
  have b2 : decide (k + 2 > 60) = false := decide_eq_false (by omega)
  refine pc_body2 true Tryz.func7 rfl rfl rfl (Nat.le_of_ble_eq_true rfl) CellT.tmp CellT.tmp ?_
  refine goA ?_
  refine evG ggA (ss_call (InB_of rfl) rfl rfl hv) ?_
  refine goA ?_
  refine evG ggA (ss_call (InB_of rfl) rfl rfl ht) ?_
  refine goA ?_
  refine evG ggA (ss_call (InB_of rfl) rfl rfl hp) ?_
  refine goA ?_
  refine evG ggA (ss_call (InB_of rfl) rfl rfl hd) ?_
  refine goA ?_
  exact rfl
theorem qM_core {X Y T1 T2 R : List AV} {k l : Int} (hv : PC Tryz.prog 30 [.sl X] (bV true)) (hw : PC Tryz.prog 30 [.sl Y] (bV true)) (ht : PC Tryz.prog 31 [.sl X] (.sl T1)) (hu : PC Tryz.prog 31 [.sl Y] (.sl T2)) (h1 : 0 < T1.length) (h2 : 0 < T2.length)
    (hp : PC Tryz.prog 32 [.sl T1] (iV k)) (hq : PC Tryz.prog 32 [.sl T2] (iV l)) (hk : 0 ≤ k) (hl : 0 ≤ l) (hkl : k + l ≤ 60)
    (hd : PC Tryz.prog 39 [.sl T1, .sl T2] (.sl R)) : PC Tryz.prog 20 [.sl X, .sl Y] (.tup [.sl R, iV 0]) := by
  have b1 : decide ((T1.length : Int) > 0) = true := decide_eq_true (by omega)
  have b2 : decide ((T2.length : Int) > 0) = true := decide_eq_true (by omega)
  have b3 : decide (k + l > 60) = false := decide_eq_false (by omega)
  refine pc_body2 true Tryz.func20 rfl rfl rfl (Nat.le_of_ble_eq_true rfl) CellT.tmp CellT.tmp ?_
  refine goA ?_
  refine evG ggA (ss_call (InB_of rfl) rfl rfl hv) ?_
  refine goA ?_
  refine evG ggA (ss_call (InB_of rfl) rfl rfl hw) ?_
  refine goA ?_
  refine evG ggA (ss_call (InB_of rfl) rfl rfl ht) ?_
  refine goA ?_
  refine evG ggA (ss_call (InB_of rfl) rfl rfl hu) ?_
  refine goA ?_
  refine evG ggA (ss_call (InB_of rfl) rfl rfl hp) ?_
  refine goA ?_
  refine evG ggA (ss_call (InB_of rfl) rfl rfl hq) ?_
  refine goA ?_
  refine evG ggA (ss_call (InB_of rfl) rfl rfl hd) ?_
  refine goA ?_
  exact rfl
theorem qS_core {g g' : Bool} {d d' X R : List AV} (hv : PC Tryz.prog 30 [.sl X] (bV true)) (hd : PC Tryz.prog 48 [.agg [.p (.bool g), .sl d, .p (.bool g'), .sl d'], .sl X] (.sl R)) : PC Tryz.prog 18 [.agg [.p (.bool g), .sl d, .p (.bool g'), .sl d'], .sl X] (.tup [.sl R, iV 0]) := by
  refine pc_body2 true Tryz.func18 rfl rfl rfl (Nat.le_of_ble_eq_true rfl) CellT.tmp CellT.tmp ?_
  refine goA ?_
  refine evG ggA (ss_call (InB_of rfl) rfl rfl hv) ?_
  refine goA ?_
  refine evG ggA (ss_call (InB_of rfl) rfl rfl hd) ?_
  refine goA ?_
  exact rfl
theorem qA_core {X Y C R : List AV} (hv : PC Tryz.prog 30 [.sl X] (bV true)) (hw : PC Tryz.prog 30 [.sl Y] (bV true)) (hc : PC Tryz.prog 41 [.sl [.sl X, .sl Y]] (.sl C)) (hr : PC Tryz.prog 31 [.sl C] (.sl R)) : PC Tryz.prog 16 [.sl X, .sl Y] (.tup [.sl R, iV 0]) := by
  refine pc_body2 true Tryz.func16 rfl rfl rfl (Nat.le_of_ble_eq_true rfl) CellT.tmp CellT.tmp ?_
  refine goA ?_
  refine evG ggA (ss_call (InB_of rfl) rfl rfl hv) ?_
  refine goA ?_
  refine evG ggA (ss_call (InB_of rfl) rfl rfl hw) ?_
  refine goA ?_
  refine evG ggA (ss_bslice (InB_of rfl) (make_tab rfl) rfl rfl rfl rfl (ones_ok rfl) (Nat.le_of_ble_eq_true rfl)) ?_
  refine evG ggA (ss_call (InB_of rfl) rfl rfl hc) ?_
  refine evG ggA (ss_call (InB_of rfl) rfl rfl hr) ?_
  refine goA ?_
  exact rfl
/-- Serre's derivative of zero -/
theorem qserre_zero {X : List AV} (hv : PC Tryz.prog 30 [.sl X] (bV true)) (ht : PC Tryz.prog 31 [.sl X] (.sl [])) : PC Tryz.prog 10 [.sl X] (.tup [.sl [], iV 0]) := by
  have hp : PC Tryz.prog 38 [.sl []] (.tup [iV 0, bV true]) := kPure (l := []) (k := 0) (by decide +kernel) (by decide) (by decide +kernel)
  have hf := qfrac_p (n := 0 - 0) (d := 12) (by decide) (by decide) (by decide)
  have hw : PC Tryz.prog 39 [.sl [], .sl [(qe ⟨1, 0, 0, ((0 - 0 : Int) : Rat) / ((12 : Int) : Rat)⟩).av]] (.sl []) := kTimes (l := []) (m := [⟨1, 0, 0, ((0 - 0 : Int) : Rat) / ((12 : Int) : Rat)⟩]) (r := []) (by decide +kernel) (by decide +kernel) (by decide) (by decide) (by decide) (by decide +kernel)
  have hd : PC Tryz.prog 33 [.sl []] (.sl []) := kDerive (l := []) (r := []) (by decide +kernel) (by decide) (by decide +kernel)
  have hc : PC Tryz.prog 41 [.sl [.sl [], .sl []]] (.sl []) := concat_p [] [] (by decide) (by decide)
  have hr : PC Tryz.prog 31 [.sl []] (.sl []) := kTidy (l := []) (r := []) (by decide +kernel) (by decide) (by decide +kernel)
  generalize ((0 - 0 : Int) : Rat) / ((12 : Int) : Rat) = f at *
  refine pc_body2 true Tryz.func10 rfl rfl rfl (Nat.le_of_ble_eq_true rfl) CellT.tmp CellT.tmp ?_
  refine goA ?_
  refine evG ggA (ss_call (InB_of rfl) rfl rfl hv) ?_
  refine goA ?_
  refine evG ggA (ss_call (InB_of rfl) rfl rfl ht) ?_
  refine goA ?_
  refine evG ggA (ss_call (InB_of rfl) rfl rfl hp) ?_
  refine goA ?_
  refine evG ggA (ss_call (InB_of rfl) rfl rfl hf) ?_
  refine goA ?_
  refine evG ggA (ss_bslice (InB_of rfl) (make_tab rfl) rfl rfl rfl rfl (ones_ok rfl) (Nat.le_of_ble_eq_true rfl)) ?_
  refine evG ggA (ss_call (InB_of rfl) rfl rfl hw) ?_
  refine goA ?_
  refine evG ggA (ss_call (InB_of rfl) rfl rfl hd) ?_
  refine goA ?_
  refine evG ggA (ss_bslice (InB_of rfl) (make_tab rfl) rfl rfl rfl rfl (ones_ok rfl) (Nat.le_of_ble_eq_true rfl)) ?_
  refine evG ggA (ss_call (InB_of rfl) rfl rfl hc) ?_
  refine evG ggA (ss_call (InB_of rfl) rfl rfl hr) ?_
  refine goA ?_
  exact rfl
theorem kTop {l : List QT} {k : Int} (h : okL l = true) (hl : l.length ≤ 20) (e : topQ (l.map qe) = k) : PC Tryz.prog 32 [.sl (PL l)] (iV k) := by
  have c := qtop_p (U := l.map qe) (by simp; omega) (fun e he => (okL_tn h e he).2.2)
  rw [e] at c
  exact c
theorem kConcat {l m : List QT} (hl : l.length ≤ 20) (hm : m.length ≤ 20) : PC Tryz.prog 41 [.sl [.sl (PL l), .sl (PL m)]] (.sl (PL (l ++ m))) := by
  have hc := concat_p (l.map qe) (m.map qe) (by simp; omega) (by simp; omega)
  rw [← List.map_append] at hc
  exact hc
/-- valid lists, by the kernel -/
def vtL (l : List QT) : Bool := l.all fun t => decide ((qe t).vt)
theorem kValid' {l : List QT} (hl : l.length ≤ 20) (h : vtL l = true) : PC Tryz.prog 30 [.sl (PL l)] (bV true) := kValid hl fun t ht => of_decide_eq_true (List.all_eq_true.1 h t ht)
theorem kD {l r : List QT} (h : okL l = true) (hv : vtL l = true) (hl : 6 * l.length ≤ 20) (h0 : 0 < l.length) (hn : (qnf l).map qtup = l.map qtup) (hk : 0 ≤ topQ (l.map qe) ∧ topQ (l.map qe) + 2 ≤ 60) (e : (qnf (qdv l)).map qtup = r.map qtup) : PC Tryz.prog 7 [.sl (PL l)] (.tup [.sl (PL r), iV 0]) :=
  qD_core (kValid' (by omega) hv) (kTidy h (by omega) hn) (by rw [PL_len]; exact h0) (kTop h (by omega) rfl) hk (kDerive h hl e)
theorem kM {l m r : List QT} (h : okL l = true) (k : okL m = true) (hv : vtL l = true) (hw : vtL m = true) (hl : l.length * m.length ≤ 20) (h1 : l.length ≤ 20) (h2 : m.length ≤ 20) (h3 : 0 < l.length) (h4 : 0 < m.length) (hn : (qnf l).map qtup = l.map qtup) (km : (qnf m).map qtup = m.map qtup)
    (a : 0 ≤ topQ (l.map qe)) (b : 0 ≤ topQ (m.map qe)) (c : topQ (l.map qe) + topQ (m.map qe) ≤ 60) (e : (qnf (qml l m)).map qtup = r.map qtup) : PC Tryz.prog 20 [.sl (PL l), .sl (PL m)] (.tup [.sl (PL r), iV 0]) :=
  qM_core (kValid' h1 hv) (kValid' h2 hw) (kTidy h h1 hn) (kTidy k h2 km) (by rw [PL_len]; exact h3) (by rw [PL_len]; exact h4) (kTop h h1 rfl) (kTop k h2 rfl) a b c (kTimes h k hl h1 h2 e)
theorem kS {c : Rat} {l r : List QT} (hc : htB 2 c = true) (h : okL l = true) (hv : vtL l = true) (hl : l.length ≤ 20) (e : (qnf (l.map (qsc c))).map qtup = r.map qtup) : PC Tryz.prog 18 [encQ c, .sl (PL l)] (.tup [.sl (PL r), iV 0]) :=
  qS_core (kValid' hl hv) (kScale hc h hl e)
theorem kA {l m r : List QT} (h : okL (l ++ m) = true) (hv : vtL l = true) (hw : vtL m = true) (hl : (l ++ m).length ≤ 20) (e : (qnf (l ++ m)).map qtup = r.map qtup) : PC Tryz.prog 16 [.sl (PL l), .sl (PL m)] (.tup [.sl (PL r), iV 0]) := by
  rw [List.length_append] at hl
  exact qA_core (kValid' (by omega) hv) (kValid' (by omega) hw) (kConcat (by omega) (by omega)) (kTidy h (by rw [List.length_append]; exact hl) e)
end Ab
