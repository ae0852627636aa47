/- Strides and ceilings of package series, in abstract values. -/
import Derived.Test.YtmcfohngblbpbaaSplN
namespace Ab
open Go Go.RowKit Go.Proofs Hp
set_option maxRecDepth 100000

theorem step_p (d : Int) (h0 : -9223372036854775808 ≤ d) (h1 : d ≤ 9223372036854775807) : PC Try.prog 70 [.p (.int .i64 d)] (.p (.bool (decide (1 ≤ d) && decide (d ≤ 1000)))) := by
  by_cases hd : 1 ≤ d
  · have hb : decide (d ≥ 1) = true := by simp [hd]
    have e : (decide (1 ≤ d) && decide (d ≤ 1000)) = decide (d ≤ 1000) := by simp [hd]
    rw [e]
    refine pc_body1 true Try.func70 rfl rfl rfl (Nat.le_of_ble_eq_true rfl) CellT.tmp ?_
    refine goA ?_
    exact rfl
  · have hb : decide (d ≥ 1) = false := by simp; omega
    have e : (decide (1 ≤ d) && decide (d ≤ 1000)) = false := by simp; omega
    rw [e]
    refine pc_body1 true Try.func70 rfl rfl rfl (Nat.le_of_ble_eq_true rfl) CellT.tmp ?_
    refine goA ?_
    exact rfl
theorem upv_eq {n d u : Int} (hd : 1 ≤ d) (h0 : (u - 1) * d < n) (h1 : n ≤ u * d) : upv n d = u := by
  unfold upv
  rw [Int.sub_mul, Int.one_mul] at h0
  apply Int.le_antisymm
  · apply Int.le_of_lt_add_one
    apply Int.ediv_lt_of_lt_mul (by omega)
    rw [Int.add_mul, Int.one_mul]
    omega
  · apply Int.le_ediv_of_mul_le (by omega)
    omega
theorem up_p {n d : Int} (hd : 1 ≤ d) (hd1 : d ≤ 1000) (h0 : -100000 ≤ n) (h1 : n ≤ 100000) : PC Try.prog 71 [.p (.int .i64 n), .p (.int .i64 d)] (.p (.int .i64 (upv n d))) := by
  obtain ⟨q, hq⟩ : ∃ q, q = n.tdiv d := ⟨_, rfl⟩
  have e1 : d * n.tdiv d + n.tmod d = n := Int.mul_tdiv_add_tmod n d
  rw [← hq, Int.mul_comm] at e1
  have b1 := Int.tmod_lt_of_pos n (show 0 < d by omega)
  have b2 := Int.lt_tmod_of_pos n (show 0 < d by omega)
  have b3 : (q - 1) * d = q * d - d := by rw [Int.sub_mul, Int.one_mul]
  have b4 : (q + 1) * d = q * d + d := by rw [Int.add_mul, Int.one_mul]
  have b5 : (q + 1 - 1) * d = q * d := by rw [Int.add_sub_cancel]
  have hqa : -100000 ≤ q ∧ q ≤ 100000 := by
    have := Int.natAbs_tdiv_le_natAbs n d
    rw [← hq] at this
    omega
  have hw : IntKind.i64.wrap (n.tdiv d) = q := by rw [← hq]; exact w64 (by omega) (by omega)
  by_cases h : q * d < n
  · have hb : decide (q * d < n) = true := by simp [h]
    rw [upv_eq (u := q + 1) hd (by rw [b5]; exact h) (by rw [b4]; omega)]
    refine pc_body1 true Try.func71 rfl rfl rfl (Nat.le_of_ble_eq_true rfl) CellT.tmp ?_
    refine goA ?_
    refine evG ggA (ss_div (InB_of rfl) rfl rfl (by omega) hw) ?_
    refine goA ?_
    exact rfl
  · have hb : decide (q * d < n) = false := by simp; omega
    rw [upv_eq (u := q) hd (by rw [b3]; omega) (by omega)]
    refine pc_body1 true Try.func71 rfl rfl rfl (Nat.le_of_ble_eq_true rfl) CellT.tmp ?_
    refine goA ?_
    refine evG ggA (ss_div (InB_of rfl) rfl rfl (by omega) hw) ?_
    refine goA ?_
    exact rfl
end Ab
