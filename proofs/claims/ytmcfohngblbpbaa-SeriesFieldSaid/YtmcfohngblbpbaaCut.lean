/- Normal form and cutting of series, in abstract values. -/
import Derived.Test.YtmcfohngblbpbaaMulC
namespace Ab
open Go Go.RowKit Go.Proofs Hp
set_option maxRecDepth 100000

def tdy (s : Int) (l : List Rat) : Int × List Rat := (s + lead l, l.drop (lead l))
def norR (s : Int) (l : List Rat) : Option (Int × List Rat) := if ValidP s l.length then some (tdy s l) else none
theorem normal_p {s : Int} {es : List AV} {l : List Rat} {K : Nat} (h : ValidP s es.length = true → IsL es K l) (hle : es.length = l.length) (hr : InR s es.length) (hK : 1 ≤ K ∧ K ≤ 268435456) : PC Try.prog 38 [serA s es] (serE (norR s l)) := by
  obtain ⟨i1, i2, i3⟩ := hr
  have hva := valid_p i1 i2 i3
  rw [serE_eq]
  unfold norR
  rw [← hle]
  cases h1 : ValidP s es.length with
  | false =>
    rw [h1] at hva
    refine pc_body2 true Try.func38 rfl rfl rfl (Nat.le_of_ble_eq_true rfl) (CellT.agg agg_ser) CellT.tmp ?_
    refine goA ?_
    refine evG ggA (ss_call (InB_of rfl) rfl rfl hva) ?_
    refine goA ?_
    exact rfl
  | true =>
    rw [h1] at hva
    obtain ⟨a0, a1, a2⟩ := valid_iff.1 h1
    have ht := tidy_p (h h1) (by omega) a0 a1 a2
    refine pc_body2 true Try.func38 rfl rfl rfl (Nat.le_of_ble_eq_true rfl) (CellT.agg agg_ser) CellT.tmp ?_
    refine goA ?_
    refine evG ggA (ss_call (InB_of rfl) rfl rfl hva) ?_
    refine goA ?_
    refine evG ggA (ss_call (InB_of rfl) rfl rfl ht) ?_
    refine goA ?_
    exact rfl
def cutS (s : Int) (l : List Rat) (p : Int) : Int × List Rat := if s + l.length ≤ p then tdy s l else if p ≤ s then (p, []) else tdy s (l.take (p - s).toNat)
theorem cut_p {s p : Int} {es : List AV} {l : List Rat} {K : Nat} (h : IsL es K l) (hK : 1 ≤ K ∧ K ≤ 268435456) (a0 : -100 ≤ s) (a1 : s ≤ 1000) (a2 : (es.length : Int) ≤ 1000 - s) (p0 : -9223372036854775808 ≤ p) (p1 : p ≤ 9223372036854775807) : PC Try.prog 94 [serA s es, .p (.int .i64 p)] (serA (cutS s l p).1 ((cutS s l p).2.map encQ)) := by
  have hlen := h.get.1
  have hpr := prec_p a0 a1 a2
  unfold cutS
  by_cases h1 : s + l.length ≤ p
  · have hb : decide (p ≥ s + (es.length : Int)) = true := by simp; omega
    have ht := tidy_p h (by omega) a0 a1 a2
    rw [if_pos h1]
    refine pc_body1 true Try.func94 rfl rfl rfl (Nat.le_of_ble_eq_true rfl) (CellT.agg agg_ser) ?_
    refine goA ?_
    refine evG ggA (ss_call (InB_of rfl) rfl rfl hpr) ?_
    refine goA ?_
    refine evG ggA (ss_call (InB_of rfl) rfl rfl ht) ?_
    refine goA ?_
    exact rfl
  · have hb : decide (p ≥ s + (es.length : Int)) = false := by simp; omega
    rw [if_neg h1]
    by_cases h2 : p ≤ s
    · have hb2 : decide (p ≤ s) = true := by simp [h2]
      rw [if_pos h2]
      refine pc_body1 true Try.func94 rfl rfl rfl (Nat.le_of_ble_eq_true rfl) (CellT.agg agg_ser) ?_
      refine goA ?_
      refine evG ggA (ss_call (InB_of rfl) rfl rfl hpr) ?_
      refine goA ?_
      exact rfl
    · have hb2 : decide (p ≤ s) = false := by simp; omega
      rw [if_neg h2]
      have ht := tidy_p (s := s) (h.take (p - s).toNat) (by omega) a0 a1 (by simp; omega)
      refine pc_body1 true Try.func94 rfl rfl rfl (Nat.le_of_ble_eq_true rfl) (CellT.agg agg_ser) ?_
      refine goA ?_
      refine evG ggA (ss_call (InB_of rfl) rfl rfl hpr) ?_
      refine goA ?_
      refine evG ggA (ss_slice_h (InB_of rfl) (elem_tab rfl) rfl (isL_cells h) rfl (by omega) (by omega)) ?_
      refine goA ?_
      refine evG ggA (ss_call (InB_of rfl) rfl rfl ht) ?_
      refine goA ?_
      exact rfl
def cutR (s : Int) (l : List Rat) (p : Int) : Option (Int × List Rat) := if ValidP s l.length && decide (-100 ≤ p) then some (cutS s l p) else none
theorem cutx_p {s p : Int} {es : List AV} {l : List Rat} {K : Nat} (h : ValidP s es.length = true → IsL es K l) (hle : es.length = l.length) (hr : InR s es.length) (hK : 1 ≤ K ∧ K ≤ 268435456) (p0 : -9223372036854775808 ≤ p) (p1 : p ≤ 9223372036854775807) : PC Try.prog 65 [serA s es, .p (.int .i64 p)] (serE (cutR s l p)) := by
  obtain ⟨i1, i2, i3⟩ := hr
  have hva := valid_p i1 i2 i3
  rw [serE_eq]
  unfold cutR
  rw [← hle]
  cases h1 : ValidP s es.length with
  | false =>
    rw [h1] at hva
    refine pc_body2 true Try.func65 rfl rfl rfl (Nat.le_of_ble_eq_true rfl) (CellT.agg agg_ser) CellT.tmp ?_
    refine goA ?_
    refine evG ggA (ss_call (InB_of rfl) rfl rfl hva) ?_
    refine goA ?_
    exact rfl
  | true =>
    rw [h1] at hva
    obtain ⟨a0, a1, a2⟩ := valid_iff.1 h1
    have ht := cut_p (h h1) hK a0 a1 a2 p0 p1
    by_cases h2 : -100 ≤ p
    · have hb : decide (p < -100) = false := by simp; omega
      rw [show decide (-100 ≤ p) = true by simp [h2]]
      refine pc_body2 true Try.func65 rfl rfl rfl (Nat.le_of_ble_eq_true rfl) (CellT.agg agg_ser) CellT.tmp ?_
      refine goA ?_
      refine evG ggA (ss_call (InB_of rfl) rfl rfl hva) ?_
      refine goA ?_
      refine evG ggA (ss_call (InB_of rfl) rfl rfl ht) ?_
      refine goA ?_
      exact rfl
    · have hb : decide (p < -100) = true := by simp; omega
      rw [show decide (-100 ≤ p) = false by simp; omega]
      refine pc_body2 true Try.func65 rfl rfl rfl (Nat.le_of_ble_eq_true rfl) (CellT.agg agg_ser) CellT.tmp ?_
      refine goA ?_
      refine evG ggA (ss_call (InB_of rfl) rfl rfl hva) ?_
      refine goA ?_
      exact rfl
end Ab
