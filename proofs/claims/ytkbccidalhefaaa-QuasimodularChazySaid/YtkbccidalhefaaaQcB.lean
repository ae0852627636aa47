/- The lists of Chazy's equation; Serre's derivative of the multiples of the discriminant is zero. -/
import Derived.Test.YtkbccidalhefaaaQcA
set_option linter.all false
namespace Ab
open Go Go.RowKit Go.Proofs Hp
set_option maxRecDepth 100000

def cY : List QT := [⟨1, 0, 0, 1⟩]
def cD1 : List QT := [⟨0, 1, 0, Rat.divInt (-1) 12⟩, ⟨2, 0, 0, Rat.divInt (1) 12⟩]
def cD2 : List QT := [⟨0, 0, 1, Rat.divInt (1) 36⟩, ⟨1, 1, 0, Rat.divInt (-1) 24⟩, ⟨3, 0, 0, Rat.divInt (1) 72⟩]
def cD3 : List QT := [⟨0, 2, 0, Rat.divInt (-1) 96⟩, ⟨1, 0, 1, Rat.divInt (1) 36⟩, ⟨2, 1, 0, Rat.divInt (-1) 48⟩, ⟨4, 0, 0, Rat.divInt (1) 288⟩]
def cA : List QT := [⟨1, 0, 1, Rat.divInt (1) 36⟩, ⟨2, 1, 0, Rat.divInt (-1) 24⟩, ⟨4, 0, 0, Rat.divInt (1) 72⟩]
def cB : List QT := [⟨0, 2, 0, Rat.divInt (1) 144⟩, ⟨2, 1, 0, Rat.divInt (-1) 72⟩, ⟨4, 0, 0, Rat.divInt (1) 144⟩]
def cA2 : List QT := [⟨1, 0, 1, Rat.divInt (-1) 36⟩, ⟨2, 1, 0, Rat.divInt (1) 24⟩, ⟨4, 0, 0, Rat.divInt (-1) 72⟩]
def cB2 : List QT := [⟨0, 2, 0, Rat.divInt (1) 96⟩, ⟨2, 1, 0, Rat.divInt (-1) 48⟩, ⟨4, 0, 0, Rat.divInt (1) 96⟩]
def cS : List QT := [⟨0, 2, 0, Rat.divInt (-1) 96⟩, ⟨2, 1, 0, Rat.divInt (1) 48⟩, ⟨4, 0, 0, Rat.divInt (-1) 96⟩]
theorem ch1 : PC Try.prog 6 [.sl (PL cY)] (.tup [.sl (PL cD1), iV 0]) := kD (by decide +kernel) (by decide +kernel) (by decide) (by decide) (by decide +kernel) (by decide +kernel) (by decide +kernel)
theorem ch2 : PC Try.prog 6 [.sl (PL cD1)] (.tup [.sl (PL cD2), iV 0]) := kD (by decide +kernel) (by decide +kernel) (by decide) (by decide) (by decide +kernel) (by decide +kernel) (by decide +kernel)
theorem ch3 : PC Try.prog 6 [.sl (PL cD2)] (.tup [.sl (PL cD3), iV 0]) := kD (by decide +kernel) (by decide +kernel) (by decide) (by decide) (by decide +kernel) (by decide +kernel) (by decide +kernel)
theorem ch4 : PC Try.prog 7 [.sl (PL cY), .sl (PL cD2)] (.tup [.sl (PL cA), iV 0]) := kM (by decide +kernel) (by decide +kernel) (by decide +kernel) (by decide +kernel) (by decide) (by decide) (by decide) (by decide) (by decide) (by decide +kernel) (by decide +kernel) (by decide +kernel) (by decide +kernel) (by decide +kernel) (by decide +kernel)
theorem ch5 : PC Try.prog 7 [.sl (PL cD1), .sl (PL cD1)] (.tup [.sl (PL cB), iV 0]) := kM (by decide +kernel) (by decide +kernel) (by decide +kernel) (by decide +kernel) (by decide) (by decide) (by decide) (by decide) (by decide) (by decide +kernel) (by decide +kernel) (by decide +kernel) (by decide +kernel) (by decide +kernel) (by decide +kernel)
theorem ch6 : PC Try.prog 8 [encQ (((-1 : Int) : Rat)), .sl (PL cA)] (.tup [.sl (PL cA2), iV 0]) := kS (by decide +kernel) (by decide +kernel) (by decide +kernel) (by decide) (by decide +kernel)
theorem ch7 : PC Try.prog 8 [encQ (Rat.divInt 3 2), .sl (PL cB)] (.tup [.sl (PL cB2), iV 0]) := kS (by decide +kernel) (by decide +kernel) (by decide +kernel) (by decide) (by decide +kernel)
theorem ch8 : PC Try.prog 11 [.sl (PL cD3), .sl (PL cA2)] (.tup [.sl (PL cS), iV 0]) := kA (by decide +kernel) (by decide +kernel) (by decide +kernel) (by decide) (by decide +kernel)
theorem ch9 : PC Try.prog 11 [.sl (PL cS), .sl (PL cB2)] (.tup [.sl (PL []), iV 0]) := kA (by decide +kernel) (by decide +kernel) (by decide +kernel) (by decide) (by decide +kernel)
/-- a multiple of the discriminant -/
def dlt (q : Rat) : List QT := [⟨0, 0, 2, -q⟩, ⟨0, 3, 0, q⟩]
theorem dlt_qdv (q : Rat) : qdv (dlt q) = [⟨1, 0, 2, -q * (((2 : Int) : Rat) / ((2 : Int) : Rat))⟩, ⟨0, 2, 1, -q * (((-2 : Int) : Rat) / ((2 : Int) : Rat))⟩, ⟨1, 3, 0, q * (((3 : Int) : Rat) / ((3 : Int) : Rat))⟩, ⟨0, 2, 1, q * (((-3 : Int) : Rat) / ((3 : Int) : Rat))⟩] := rfl
theorem dlt_qml (q f : Rat) : qml (dlt q) [⟨1, 0, 0, f⟩] = [⟨1, 0, 2, -q * f⟩, ⟨1, 3, 0, q * f⟩] := rfl
theorem ind_zero (p1 p2 p3 : Prop) [Decidable p1] [Decidable p2] [Decidable p3] (q : Rat) : ((if p1 then -q * 1 else 0) + ((if p2 then -q * -1 else 0) + ((if p3 then q * 1 else 0) + ((if p2 then q * -1 else 0) + 0)))) + ((if p1 then -q * -1 else 0) + ((if p3 then q * -1 else 0) + 0)) = 0 := by
  by_cases h1 : p1 <;> by_cases h2 : p2 <;> by_cases h3 : p3 <;> simp only [h1, h2, h3, if_true, if_false] <;> grind
theorem dlt_zero (q : Rat) : qnf (qnf (qdv (dlt q)) ++ qnf (qml (dlt q) [⟨1, 0, 0, ((0 - 12 : Int) : Rat) / ((12 : Int) : Rat)⟩])) = [] := by
  have h : ∀ k, qco (qnf (qdv (dlt q)) ++ qnf (qml (dlt q) [⟨1, 0, 0, ((0 - 12 : Int) : Rat) / ((12 : Int) : Rat)⟩])) k = qco [] k := fun k => by
    rw [qco_app, qnf_co, qnf_co, dlt_qdv, dlt_qml]
    rw [show ((2 : Int) : Rat) / ((2 : Int) : Rat) = 1 by decide +kernel, show ((-2 : Int) : Rat) / ((2 : Int) : Rat) = -1 by decide +kernel, show ((3 : Int) : Rat) / ((3 : Int) : Rat) = 1 by decide +kernel, show ((-3 : Int) : Rat) / ((3 : Int) : Rat) = -1 by decide +kernel, show ((0 - 12 : Int) : Rat) / ((12 : Int) : Rat) = -1 by decide +kernel]
    exact ind_zero _ _ _ q
  rw [qnf_eq h]
  rfl
theorem dlt_n {q : Rat} (h : q ≠ 0) : QN (dlt q) := by
  refine ⟨fun e => h (by have : -q = 0 := e; grind), fun t ht => ?_, h, fun t ht => (by cases ht), trivial⟩
  rw [List.mem_singleton.1 ht]
  show kl (0, 0, 2) (0, 3, 0)
  decide
theorem dlt_z : qnf (dlt 0) = [] := by
  have h : ∀ k, qco (dlt 0) k = qco [] k := fun k => by
    show (if _ then (-0 : Rat) else 0) + ((if _ then (0 : Rat) else 0) + 0) = 0
    split <;> split <;> decide +kernel
  rw [qnf_eq h]
  rfl
theorem dlt_mem {q : Rat} {t : QT} (h : t ∈ dlt q) : t.tn ∧ (t.q = -q ∨ t.q = q) := by
  unfold dlt at h
  rcases List.mem_cons.1 h with rfl | h
  · exact ⟨by unfold QT.tn; simp only []; omega, .inl rfl⟩
  · rw [List.mem_singleton.1 h]
    exact ⟨by unfold QT.tn; simp only []; omega, .inr rfl⟩
theorem key_tn {t u : QT} (h : t.k = u.k) (hu : (qe u).sm) : (qe t).sm := by
  obtain ⟨a, b, c, q⟩ := t
  obtain ⟨a', b', c', q'⟩ := u
  simp only [QT.k, Prod.mk.injEq] at h
  obtain ⟨rfl, rfl, rfl⟩ := h
  exact hu
set_option maxHeartbeats 2000000 in
/-- the whole, for a number of at most 3 digits -/
theorem dserre_p {g g' : Bool} {d d' : List AV} {q : Rat} (h : IsV (.agg [.p (.bool g), .sl d, .p (.bool g'), .sl d']) 3 q) : PC Try.prog 13 [.sl [(qe ⟨0, 0, 2, -q⟩).av, QE.av ⟨0, 3, 0, g, d, g', d', q⟩]] (.tup [.sl [], iV 0]) := by
  have hq := isV_ht h (by decide)
  have hU : [(qe ⟨0, 0, 2, -q⟩).av, QE.av ⟨0, 3, 0, g, d, g', d', q⟩] = ([qe ⟨0, 0, 2, -q⟩, ⟨0, 3, 0, g, d, g', d', q⟩] : List QE).map QE.av := rfl
  have hUt : ([qe ⟨0, 0, 2, -q⟩, ⟨0, 3, 0, g, d, g', d', q⟩] : List QE).map QE.t = dlt q := rfl
  have hvt : ∀ e, e ∈ ([qe ⟨0, 0, 2, -q⟩, ⟨0, 3, 0, g, d, g', d', q⟩] : List QE) → e.vt ∧ e.ok 3 := fun e he => by
    rcases List.mem_cons.1 he with rfl | he
    · exact ⟨by unfold QE.vt QE.w qe; simp only []; omega, qe_ok (ht_neg hq)⟩
    · rw [List.mem_singleton.1 he]
      exact ⟨by unfold QE.vt QE.w; simp only []; omega, h⟩
  have hv := qvalid_p (U := [qe ⟨0, 0, 2, -q⟩, ⟨0, 3, 0, g, d, g', d', q⟩]) (Nat.le_of_ble_eq_true rfl)
  rw [decide_eq_true (show QV _ from ⟨Nat.le_of_ble_eq_true rfl, fun e he => (hvt e he).1⟩), ← hU] at hv
  have ht := tidy_p' sort20_p (U := [qe ⟨0, 0, 2, -q⟩, ⟨0, 3, 0, g, d, g', d', q⟩]) (K := 3) (Nat.le_of_ble_eq_true rfl) (by decide) (fun e he => (hvt e he).1.sm) (fun e he => (hvt e he).2) (by decide) (by decide)
  rw [← hU, hUt] at ht
  by_cases h0 : q = 0
  · subst h0
    rw [dlt_z] at ht
    exact qserre_zero hv ht
  rw [qnf_id (dlt_n h0)] at ht
  have hmem : ∀ t, t ∈ dlt q → t.tn ∧ Ht t.q 3 := fun t ht => ⟨(dlt_mem ht).1, by
    rcases (dlt_mem ht).2 with e | e
    · rw [e]; exact ht_neg hq
    · rw [e]; exact hq⟩
  have hsm : ∀ e, e ∈ (dlt q).map qe → e.t.tn ∧ e.ok 3 := fun e he => by
    obtain ⟨t, ht, rfl⟩ := List.mem_map.1 he
    exact ⟨(hmem t ht).1, qe_ok (hmem t ht).2⟩
  have hp := qpure_p (U := (dlt q).map qe) (by simp [dlt]) (fun e he => by
    obtain ⟨t, ht, rfl⟩ := List.mem_map.1 he
    exact (hmem t ht).1.sm)
  have e1 : purQ ((dlt q).map qe) = true := by
    show decide (∀ f, f ∈ [qe ⟨0, 0, 2, -q⟩, qe ⟨0, 3, 0, q⟩] → f.w = (qe ⟨0, 0, 2, -q⟩).w) = true
    refine decide_eq_true fun f hf => ?_
    rcases List.mem_cons.1 hf with rfl | hf
    · rfl
    · rw [List.mem_singleton.1 hf]; rfl
  have e2 : topQ ((dlt q).map qe) = 12 := rfl
  rw [e1, e2, if_pos rfl] at hp
  have hf := qfrac_p (n := 0 - 12) (d := 12) (by decide) (by decide) (by decide)
  have hx : Ht (((0 - 12 : Int) : Rat) / ((12 : Int) : Rat)) 3 := ht_frac (n := 0 - 12) (d := 12) (by decide) (by decide) |>.mono (by decide)
  have hz := dlt_zero q
  generalize ((0 - 12 : Int) : Rat) / ((12 : Int) : Rat) = f at *
  have ho : ∀ e, e ∈ [qe ⟨1, 0, 0, f⟩] → e.t.tn ∧ e.ok 3 := fun e he => by
    rw [List.mem_singleton.1 he]
    exact ⟨by unfold QT.tn qe QE.t; simp only []; omega, qe_ok hx⟩
  have hw := qtimes_p sort20_p (U := (dlt q).map qe) (V := [qe ⟨1, 0, 0, f⟩]) (K := 3) (by simp [dlt]) (by decide) (by simp [dlt]) (by simp) (fun e he => (hsm e he).1) (fun e he => (ho e he).1) (fun e he => (hsm e he).2) (fun e he => (ho e he).2) (by decide) (by decide)
  have hd := qderive_p sort20_p (U := (dlt q).map qe) (K := 3) (by simp [dlt]) (by decide) (fun e he => (hsm e he).1) (fun e he => (hsm e he).2) (by decide) (by decide)
  rw [qe_map] at hw hd
  have hwm : [qe ⟨1, 0, 0, f⟩].map QE.t = [⟨1, 0, 0, f⟩] := rfl
  rw [hwm] at hw
  have hlD : (qdv (dlt q)).length ≤ 4 := by rw [dlt_qdv]; exact Nat.le_of_ble_eq_true rfl
  have hlW : (qml (dlt q) [⟨1, 0, 0, f⟩]).length ≤ 2 := by rw [dlt_qml]; exact Nat.le_of_ble_eq_true rfl
  have nD := qnf_len (qdv (dlt q))
  have nW := qnf_len (qml (dlt q) [⟨1, 0, 0, f⟩])
  have mD : ∀ t, t ∈ qdv (dlt q) → (qe t).sm ∧ Ht t.q 6 := fun t ht => by
    have := qdv_mem (K := 3) (by decide) hmem ht
    exact ⟨this.1, this.2.mono (by decide)⟩
  have mW : ∀ t, t ∈ qml (dlt q) [⟨1, 0, 0, f⟩] → (qe t).sm ∧ Ht t.q 6 := fun t ht => by
    obtain ⟨x, y, hx1, hy1, rfl⟩ := qml_mem ht
    rw [List.mem_singleton.1 hy1]
    obtain ⟨k1, k2⟩ := hmem x hx1
    unfold QT.tn at k1
    refine ⟨?_, (show Ht (qpr x ⟨1, 0, 0, f⟩).q (3 + 3) from ht_mul k2 hx (by decide)).mono (by decide)⟩
    show (-1000000 ≤ x.a + 1 ∧ x.a + 1 ≤ 1000000) ∧ (-1000000 ≤ x.b + 0 ∧ x.b + 0 ≤ 1000000) ∧ -1000000 ≤ x.c + 0 ∧ x.c + 0 ≤ 1000000
    omega
  have fin : ∀ {p : List QT}, p.length ≤ 4 → (∀ t, t ∈ p → (qe t).sm ∧ Ht t.q 6) → ∀ t, t ∈ qnf p → (qe t).sm ∧ Ht t.q 29 := fun {p} hl hp t ht => by
    obtain ⟨u, hu, e⟩ := qnf_key ht
    refine ⟨key_tn e.symm (hp u hu).1, (qnf_ht (K := 6) (by decide) (fun t ht => (hp t ht).2) t ht).mono (show 1 + p.length * 7 ≤ 29 by omega)⟩
  have hr := tidyL_p sort20_p (L := qnf (qdv (dlt q)) ++ qnf (qml (dlt q) [⟨1, 0, 0, f⟩])) (K := 29) (by rw [List.length_append]; omega) (by decide) (fun t ht => by
    rcases List.mem_append.1 ht with ht | ht
    · exact (fin hlD mD t ht).1
    · exact (fin (by omega) mW t ht).1) (fun t ht => by
    rcases List.mem_append.1 ht with ht | ht
    · exact (fin hlD mD t ht).2
    · exact (fin (by omega) mW t ht).2) (by decide) (by decide)
  rw [hz] at hr
  have hc := kConcat (l := qnf (qdv (dlt q))) (m := qnf (qml (dlt q) [⟨1, 0, 0, f⟩])) (by omega) (by omega)
  exact qserre_core hv ht hp (by rw [List.length_map, List.length_map]; exact Nat.le_of_ble_eq_true rfl) (by decide) (by decide) hf hw hd hc hr
end Ab
