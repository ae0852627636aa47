/- Derivatives by the rule for products, iterated; multiples and products of normalized lists: plain arithmetic. -/
import Derived.Test.YtkbccidalhefaaaGreatQrA
import Derived.Test.YtkbccidalhefaaaGreatQmY
set_option linter.all false
namespace Ab
open Go Go.RowKit Go.Proofs Hp
set_option maxRecDepth 100000

def dq0 : List QT := [⟨0, 1, 0, Rat.divInt (-1) 12⟩, ⟨2, 0, 0, Rat.divInt 1 12⟩]
def dq1 : List QT := [⟨0, 0, 1, Rat.divInt (-1) 3⟩, ⟨1, 1, 0, Rat.divInt 1 3⟩]
def dq2 : List QT := [⟨0, 2, 0, Rat.divInt (-1) 2⟩, ⟨1, 0, 1, Rat.divInt 1 2⟩]
def uA (t : QT) : List QT := [⟨t.a - 1, t.b, t.c, (t.a : Rat) * t.q⟩]
def uB (t : QT) : List QT := [⟨t.a, t.b - 1, t.c, (t.b : Rat) * t.q⟩]
def uC (t : QT) : List QT := [⟨t.a, t.b, t.c - 1, (t.c : Rat) * t.q⟩]
def rA1 (t : QT) : List QT := if 0 < t.a then qml (uA t) dq0 else []
def rB1 (t : QT) : List QT := if 0 < t.b then qml (uB t) dq1 else []
def rC1 (t : QT) : List QT := if 0 < t.c then qml (uC t) dq2 else []
/-- no exponent is negative, none is great -/
def Pos (M : Int) (p : List QT) : Prop := ∀ t, t ∈ p → 0 ≤ t.a ∧ 0 ≤ t.b ∧ 0 ≤ t.c ∧ t.a ≤ M ∧ t.b ≤ M ∧ t.c ≤ M
theorem Pos.tn {M : Int} {p : List QT} (h : Pos M p) (hM : M ≤ 10000) : ∀ t, t ∈ p → t.tn := fun t ht => by
  have := h t ht
  unfold QT.tn
  omega
theorem rd1_co {t : QT} (h : 0 ≤ t.a ∧ 0 ≤ t.b ∧ 0 ≤ t.c) (k : Ky) : qco (rA1 t ++ (rB1 t ++ rC1 t)) k = qco (qd1 t) k := by
  unfold qd1
  rw [qco_app, qco_app]
  simp only [qco_app, qad_co]
  have e12 : Rat.divInt 1 12 = ((1 : Int) : Rat) / ((12 : Int) : Rat) := Rat.divInt_eq_div ..
  have e12' : Rat.divInt (-1) 12 = ((-1 : Int) : Rat) / ((12 : Int) : Rat) := Rat.divInt_eq_div ..
  have e3 : Rat.divInt 1 3 = ((1 : Int) : Rat) / ((3 : Int) : Rat) := Rat.divInt_eq_div ..
  have e3' : Rat.divInt (-1) 3 = ((-1 : Int) : Rat) / ((3 : Int) : Rat) := Rat.divInt_eq_div ..
  have e2 : Rat.divInt 1 2 = ((1 : Int) : Rat) / ((2 : Int) : Rat) := Rat.divInt_eq_div ..
  have e2' : Rat.divInt (-1) 2 = ((-1 : Int) : Rat) / ((2 : Int) : Rat) := Rat.divInt_eq_div ..
  have n1 : ((1 : Int) : Rat) = 1 := rfl
  have n2 : ((-1 : Int) : Rat) = -1 := rfl
  have hA : qco (rA1 t) k = (if (t.a + 1, t.b + 0, t.c + 0) = k then t.q * ((t.a : Rat) / ((12 : Int) : Rat)) else 0) + (if (t.a + -1, t.b + 1, t.c + 0) = k then t.q * (((-t.a : Int) : Rat) / ((12 : Int) : Rat)) else 0) := by
    unfold rA1
    by_cases h0 : 0 < t.a
    · rw [if_pos h0]
      simp only [qml, uA, dq0, List.flatMap_cons, List.flatMap_nil, List.map_cons, List.map_nil, List.append_nil, qco, qpr, QT.k, Rat.add_zero]
      rw [show t.a - 1 + 0 = t.a + -1 by omega, show t.a - 1 + 2 = t.a + 1 by omega, e12, e12', n1, n2, Rat.intCast_neg]
      rw [show (t.a : Rat) * t.q * (-1 / ((12 : Int) : Rat)) = t.q * (-(t.a : Rat) / ((12 : Int) : Rat)) by grind, show (t.a : Rat) * t.q * (1 / ((12 : Int) : Rat)) = t.q * ((t.a : Rat) / ((12 : Int) : Rat)) by grind]
      exact Rat.add_comm ..
    · have e : t.a = 0 := by omega
      rw [if_neg h0, e, qco]
      simp [Rat.div_def, Rat.zero_mul, Rat.mul_zero, Rat.add_zero]
  have hB : qco (rB1 t) k = (if (t.a + 1, t.b + 0, t.c + 0) = k then t.q * ((t.b : Rat) / ((3 : Int) : Rat)) else 0) + (if (t.a + 0, t.b + -1, t.c + 1) = k then t.q * (((-t.b : Int) : Rat) / ((3 : Int) : Rat)) else 0) := by
    unfold rB1
    by_cases h0 : 0 < t.b
    · rw [if_pos h0]
      simp only [qml, uB, dq1, List.flatMap_cons, List.flatMap_nil, List.map_cons, List.map_nil, List.append_nil, qco, qpr, QT.k, Rat.add_zero]
      rw [show t.b - 1 + 0 = t.b + -1 by omega, show t.b - 1 + 1 = t.b + 0 by omega, e3, e3', n1, n2, Rat.intCast_neg]
      rw [show (t.b : Rat) * t.q * (-1 / ((3 : Int) : Rat)) = t.q * (-(t.b : Rat) / ((3 : Int) : Rat)) by grind, show (t.b : Rat) * t.q * (1 / ((3 : Int) : Rat)) = t.q * ((t.b : Rat) / ((3 : Int) : Rat)) by grind]
      exact Rat.add_comm ..
    · have e : t.b = 0 := by omega
      rw [if_neg h0, e, qco]
      simp [Rat.div_def, Rat.zero_mul, Rat.mul_zero, Rat.add_zero]
  have hC : qco (rC1 t) k = (if (t.a + 1, t.b + 0, t.c + 0) = k then t.q * ((t.c : Rat) / ((2 : Int) : Rat)) else 0) + (if (t.a + 0, t.b + 2, t.c + -1) = k then t.q * (((-t.c : Int) : Rat) / ((2 : Int) : Rat)) else 0) := by
    unfold rC1
    by_cases h0 : 0 < t.c
    · rw [if_pos h0]
      simp only [qml, uC, dq2, List.flatMap_cons, List.flatMap_nil, List.map_cons, List.map_nil, List.append_nil, qco, qpr, QT.k, Rat.add_zero]
      rw [show t.c - 1 + 0 = t.c + -1 by omega, show t.c - 1 + 1 = t.c + 0 by omega, e2, e2', n1, n2, Rat.intCast_neg]
      rw [show (t.c : Rat) * t.q * (-1 / ((2 : Int) : Rat)) = t.q * (-(t.c : Rat) / ((2 : Int) : Rat)) by grind, show (t.c : Rat) * t.q * (1 / ((2 : Int) : Rat)) = t.q * ((t.c : Rat) / ((2 : Int) : Rat)) by grind]
      exact Rat.add_comm ..
    · have e : t.c = 0 := by omega
      rw [if_neg h0, e, qco]
      simp [Rat.div_def, Rat.zero_mul, Rat.mul_zero, Rat.add_zero]
  rw [hA, hB, hC]
  grind
def rdv (p : List QT) : List QT := p.flatMap fun t => rA1 t ++ (rB1 t ++ rC1 t)
theorem rdv_co {M : Int} (k : Ky) : ∀ {p : List QT}, Pos M p → qco (rdv p) k = qco (qdv p) k
  | [], _ => rfl
  | t :: p, h => by
    have ih := rdv_co k (p := p) fun u hu => h u (List.mem_cons_of_mem _ hu)
    have ht := h t (List.mem_cons_self ..)
    unfold rdv qdv at ih ⊢
    rw [List.flatMap_cons, List.flatMap_cons, qco_app, ih, rd1_co ⟨ht.1, ht.2.1, ht.2.2.1⟩, qco_app]
theorem Pos.dv {M : Int} {p : List QT} (h : Pos M p) : Pos (M + 2) (qnf (qdv p)) := fun t ht => by
  obtain ⟨u, hu, e⟩ := qnf_key ht
  obtain ⟨v, hv, hu⟩ := List.mem_flatMap.1 hu
  have hp := h v hv
  unfold qd1 at hu
  simp only [List.mem_append] at hu
  simp only [QT.k, Prod.mk.injEq] at e
  obtain ⟨e1, e2, e3⟩ := e
  rcases hu with hu | hu | hu | hu | hu | hu <;> obtain ⟨h0, rfl⟩ := qad_mem hu <;> simp only at e1 e2 e3 <;> omega
/-- derivatives -/
def qD : Nat → List QT → List QT
  | 0, x => x
  | i + 1, x => qnf (qdv (qD i x))
def hB : Nat → Nat
  | 0 => 33
  | i + 1 => 4 * hB i + 11
def lB : Nat → Nat
  | 0 => 8
  | i + 1 => 4 * lB i
structure DB (i : Nat) (p : List QT) : Prop where
  d : QD p
  l : p.length ≤ lB i
  h : ∀ t, t ∈ p → Ht t.q (hB i)
  p : Pos (60 + 2 * i) p
theorem hB_1 : ∀ i, 1 ≤ hB i
  | 0 => by decide
  | i + 1 => by show 1 ≤ 4 * hB i + 11; omega
theorem DB.next {i : Nat} {p : List QT} (h : DB i p) (hi : i ≤ 10) : DB (i + 1) (qnf (qdv p)) := by
  refine ⟨qnf_d _, ?_, nf_ht (dv_ht (hB_1 i) h.d (h.p.tn (by omega)) h.h), ?_⟩
  · have := qdv_len4 p
    have := h.l
    show _ ≤ 4 * lB i
    omega
  · have := h.p.dv
    rw [show (60 : Int) + 2 * ((i + 1 : Nat) : Int) = 60 + 2 * (i : Int) + 2 by omega]
    exact this
theorem DB.D {x : List QT} (h : DB 0 x) : ∀ i, i ≤ 10 → DB i (qD i x)
  | 0, _ => h
  | i + 1, hi => (DB.D h i (by omega)).next (by omega)
theorem hl3 : ∀ i, i ≤ 3 → hB i ≤ 2343 ∧ lB i ≤ 512 := fun i hi => by
  rcases i with _ | _ | _ | _ | i
  · decide
  · decide
  · decide
  · decide
  · omega
theorem DB.prod {i j : Nat} {p r : List QT} (h : DB i p) (k : DB j r) (hij : i + j ≤ 3) (y : Ky) : Ht (qco (qml p r) y) 24000 := by
  have a := mul_htL (p := p) (hB_1 i) k.d k.h y h.h
  have b := mul_htR (r := r) (hB_1 j) h.d h.h k.h y
  have hl := h.l
  have kl := k.l
  have m1 : p.length * (hB i + hB j + 1) ≤ lB i * (hB i + hB j + 1) := Nat.mul_le_mul_right _ hl
  have m2 : r.length * (hB i + hB j + 1) ≤ lB j * (hB i + hB j + 1) := Nat.mul_le_mul_right _ kl
  have key : 1 + lB i * (hB i + hB j + 1) ≤ 24000 ∨ 1 + lB j * (hB i + hB j + 1) ≤ 24000 := by
    rcases i with _ | _ | _ | _ | i <;> rcases j with _ | _ | _ | _ | j <;> first | omega | decide
  rcases key with key | key
  · exact a.mono (by omega)
  · exact b.mono (by omega)
theorem DB.plen {i j : Nat} {p r : List QT} (h : DB i p) (k : DB j r) (hij : i + j ≤ 3) : p.length * r.length ≤ 4096 := by
  refine Nat.le_trans (Nat.mul_le_mul h.l k.l) ?_
  rcases i with _ | _ | _ | _ | i <;> rcases j with _ | _ | _ | _ | j <;> first | omega | decide
/-- a multiple -/
theorem sc_co (c : Rat) (k : Ky) : ∀ p : List QT, qco (p.map (qsc c)) k = c * qco p k
  | [] => by simp [qco, Rat.mul_zero]
  | t :: p => by
    rw [List.map_cons, qco, qco, sc_co c k p, Rat.mul_add]
    congr 1
    show (if t.k = k then c * t.q else 0) = _
    split
    · rfl
    · rw [Rat.mul_zero]
theorem sc_nf (c : Rat) (p : List QT) : qnf ((qnf p).map (qsc c)) = qnf (p.map (qsc c)) := qnf_eq fun k => by rw [sc_co, sc_co, qnf_co]
/-- Serre's second summand, in both ways -/
theorem serre_co (f : Rat) (k : Ky) : ∀ x : List QT, qco ((qml [⟨1, 0, 0, 1⟩] x).map (qsc f)) k = qco (qml x [⟨1, 0, 0, f⟩]) k
  | [] => rfl
  | t :: x => by
    have ih := serre_co f k x
    have e : qsc f (qpr ⟨1, 0, 0, 1⟩ t) = qpr t ⟨1, 0, 0, f⟩ := by
      unfold qsc qpr
      simp only [QT.mk.injEq]
      exact ⟨Int.add_comm .., Int.add_comm .., Int.add_comm .., by grind⟩
    rw [qml_cons, qml_nil, List.append_nil] at ih ⊢
    rw [qml_cons, List.map_cons, List.map_cons, List.map_cons, List.map_nil, List.cons_append, List.nil_append, qco, qco, ih, e]
/-- binomials, as the document -/
def bnR (m : Int) : Nat → Rat
  | 0 => 1
  | i + 1 => bnR m i * Rat.divInt (m - i) (i + 1)
def bnEq : Bool := (List.range 70).all fun a => (List.range 8).all fun i => decide (bnR ((a : Int) - 1) i = ((bnG ((a : Int) - 1) i : Int) : Rat)) && decide ((bnG ((a : Int) - 1) i).natAbs ≤ 1000000000)
theorem bnEq_ok : bnEq = true := by decide +kernel
theorem bnR_eq {m : Int} {i : Nat} (h0 : -1 ≤ m) (h1 : m ≤ 68) (hi : i < 8) : bnR m i = ((bnG m i : Int) : Rat) ∧ (bnG m i).natAbs ≤ 1000000000 := by
  have h := List.all_eq_true.1 (List.all_eq_true.1 bnEq_ok (m + 1).toNat (List.mem_range.2 (by omega))) i (List.mem_range.2 hi)
  rw [show (((m + 1).toNat : Int)) - 1 = m by omega, Bool.and_eq_true] at h
  exact ⟨of_decide_eq_true h.1, of_decide_eq_true h.2⟩
end Ab
