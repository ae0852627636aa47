/- The examples of the chapter on Hecke operators, walked. The gates of the statements on Hecke operators, walked. Hecke operators on series: the coefficients of the results. -/
import Derived.Test.YtajhaoapcapgeaaGreatDoorHjC
import Derived.Test.YtajhaoapcapgeaaGreatDoorGood
set_option linter.all false
namespace Ab
open Go Go.RowKit Go.Proofs Hp
set_option maxRecDepth 100000

theorem int4 {xs : List Int} (h : (xs.all fun x => decide (x.natAbs < 4000000000)) = true) : ∀ x, x ∈ xs → x.natAbs < 4000000000 := fun x hx => by
  have := List.all_eq_true.1 h x hx
  simpa using this
theorem sm4 {xs : List Int} (h : (xs.all fun x => decide (x.natAbs < 4000000000)) = true) : ∀ q, q ∈ qsL xs → Ht q 1 := small4 fun x hx => by have := int4 h x hx; omega
theorem qs4 {xs : List Int} (h : (xs.all fun x => decide (x.natAbs < 4000000000)) = true) (hl : xs.length ≤ 100000) : PC Tryz.prog 73 [.sl (xs.map iv)] (.sl ((qsL xs).map encQ)) := qs_p xs (fun x hx => by have := int4 h x hx; omega) hl
theorem hk_aw : hkR 1 12 1 (1 + (lead (qsL [1, -24, 252, -1472]) : Int)) ((qsL [1, -24, 252, -1472]).drop (lead (qsL [1, -24, 252, -1472]))) 2 = some (1, qsL [-24, 576]) := by kernel_rfl
theorem eu_aw : tk (eV 11 2 1 (apF 7 (qsL [-2, -1, 1]))) 7 = qsL [0, 1, -2, -1, 2, 1, 2] := by kernel_rfl
theorem eu_aw2 : norR 0 (qsL [0, 1, -2, -1, 2, 1, 2]) = some (1, qsL [1, -2, -1, 2, 1, 2]) := by kernel_rfl
theorem spec1 : SpecOK 1 12 1 := ⟨by decide, by decide, by decide, by decide, by decide, by decide, by decide +kernel, by decide⟩
theorem spec11 : SpecOK 11 2 1 := ⟨by decide, by decide, by decide, by decide, by decide, by decide, by decide +kernel, by decide⟩
theorem one_p : PC Tryz.prog 74 [] (specA 1 12 1) := by
  refine pc_body1 true Tryz.func74 rfl rfl rfl (Nat.le_of_ble_eq_true rfl) (CellT.agg (l := [iV 1, iV 12, iV 1]) agg_Spec) ?_
  refine goA ?_
  exact rfl
set_option maxHeartbeats 4000000 in
theorem hawake_p : PC Tryz.prog 21 [] (bV true) := by
  have c1 := qs4 (xs := [1, -24, 252, -1472]) (by decide) (by decide)
  have c2 := qs4 (xs := [-2, -1, 1]) (by decide) (by decide)
  have c3 := qs4 (xs := [-24, 576]) (by decide) (by decide)
  have c4 := qs4 (xs := [1, -2, -1, 2, 1, 2]) (by decide) (by decide)
  have co := one_p
  have m := hecke_p (s := 1) (n := 2) (K := 1) (es := (qsL [1, -24, 252, -1472]).map encQ) spec1 (isL_enc (sm4 (xs := [1, -24, 252, -1472]) (by decide))) rfl (by decide) rfl (by decide) (by decide) (by decide)
  rw [hk_aw] at m
  have hV : ∀ i, i < 7 → Ht (eV 11 2 1 (apF 7 (qsL [-2, -1, 1])) i) 1 := fun i hi => by
    have hm : eV 11 2 1 (apF 7 (qsL [-2, -1, 1])) i ∈ tk (eV 11 2 1 (apF 7 (qsL [-2, -1, 1]))) 7 := List.mem_map.2 ⟨i, List.mem_range.2 hi, rfl⟩
    rw [eu_aw] at hm
    exact sm4 (xs := [0, 1, -2, -1, 2, 1, 2]) (by decide) _ hm
  have e := eulerS_p (la := qsL [-2, -1, 1]) (es := (qsL [-2, -1, 1]).map encQ) (K := 1) (H := 1) (P := 7) spec11 (isL_enc (sm4 (xs := [-2, -1, 1]) (by decide))) (by decide) hV (by decide) (by decide) (by decide) (by decide +kernel) (by decide)
  rw [eu_aw, eu_aw2] at e
  have q1 := sameQ_p (s := 1) (t := 1) (k := 1) (m := qsL [-24, 576]) (sm4 (xs := [-24, 576]) (by decide)) (by decide) (by decide)
  have q2 := sameQ_p (s := 1) (t := 1) (k := 1) (m := qsL [1, -2, -1, 2, 1, 2]) (sm4 (xs := [1, -2, -1, 2, 1, 2]) (by decide)) (by decide) (by decide)
  rw [decide_eq_true ⟨rfl, rfl⟩] at q1 q2
  unfold specA at co
  refine pc_body1 true Tryz.func21 rfl rfl rfl (Nat.le_of_ble_eq_true rfl) CellT.tmp ?_
  refine goA ?_
  refine evG ggA (ss_bslice (InB_of rfl) (make_tab rfl) rfl rfl rfl rfl (ones_ok rfl) (Nat.le_of_ble_eq_true rfl)) ?_
  refine evG ggA (ss_call (InB_of rfl) rfl rfl c1) ?_
  refine goA ?_
  refine evG ggA (ss_call (InB_of rfl) rfl rfl co) ?_
  refine evG ggA (ss_call (InB_of rfl) rfl rfl m) ?_
  refine goA ?_
  refine evG ggA (ss_bslice (InB_of rfl) (make_tab rfl) rfl rfl rfl rfl (ones_ok rfl) (Nat.le_of_ble_eq_true rfl)) ?_
  refine evG ggA (ss_call (InB_of rfl) rfl rfl c2) ?_
  refine evG ggA (ss_call (InB_of rfl) rfl rfl e) ?_
  refine goA ?_
  refine evG ggA (ss_bslice (InB_of rfl) (make_tab rfl) rfl rfl rfl rfl (ones_ok rfl) (Nat.le_of_ble_eq_true rfl)) ?_
  refine evG ggA (ss_call (InB_of rfl) rfl rfl c3) ?_
  refine goA ?_
  refine evG ggA (ss_call (InB_of rfl) rfl rfl q1) ?_
  refine goA ?_
  refine evG ggA (ss_bslice (InB_of rfl) (make_tab rfl) rfl rfl rfl rfl (ones_ok rfl) (Nat.le_of_ble_eq_true rfl)) ?_
  refine evG ggA (ss_call (InB_of rfl) rfl rfl c4) ?_
  refine goA ?_
  refine evG ggA (ss_call (InB_of rfl) rfl rfl q2) ?_
  refine goA ?_
  exact rfl
end Ab
namespace Ab
open Go Go.RowKit Go.Proofs Hp
set_option maxRecDepth 100000

set_option maxHeartbeats 1000000 in
theorem hlong_p (n : Nat) (es : List AV) (hc : ∀ e, e ∈ es → C4 e) (hn : n ≤ 1000) (hl : es.length ≤ 9223372036854775807) : PC Tryz.prog 33 [.p (.int .i64 n), .sl es] (.p (.bool (longB n es))) := by
  by_cases h1 : n < es.length
  · have hb : decide ((es.length : Int) > (n : Int)) = true := by simp; omega
    have e : longB n es = true := by unfold longB; simp [h1]
    rw [e]
    refine pc_body1 true Tryz.func33 rfl rfl rfl (Nat.le_of_ble_eq_true rfl) CellT.tmp ?_
    refine goA ?_
    exact rfl
  · have hb : decide ((es.length : Int) > (n : Int)) = false := by simp; omega
    refine pc_body1 true Tryz.func33 rfl rfl rfl (Nat.le_of_ble_eq_true rfl) CellT.tmp ?_
    refine r1A ?_
    refine T.seqI (fun s1 => s1 = mkS [(1, .v (.sl es)), (4, .v (.p (.bool false)))] [] 34 true) ?_ ?_
    · refine goA ?_
      exact midQ_intro (by exact entA) rfl
    rintro _ rfl
    refine T.seqI (fun s1 => longB n es = false ∧ s1 = mkS [] [] 34 true) ?_ ?_
    · refine r1A ?_
      refine T.block ?_
      refine T.loop (fun N s1 => ∃ j : Nat, N = es.length - j ∧ j ≤ es.length ∧ (∀ i e, i < j → es[i]? = some e → big e = false) ∧ s1 = mkS [(1, .v (.sl es)), (4, .v (.p (.bool false))), (5, .v (.p (.int .i64 j)))] [] 34 true) es.length
        (s' := mkS [(1, .v (.sl es)), (4, .v (.p (.bool false))), (5, .v (.p (.int .i64 (0 : Nat))))] [] 34 true) (by exact entA) ⟨0, rfl, Nat.zero_le _, fun i e hi => absurd hi (Nat.not_lt_zero _), rfl⟩ ?_
      rintro _ _ ⟨j, rfl, hj, hz, rfl⟩
      by_cases hlt : j < es.length
      · have hb1 : decide ((j : Int) < (es.length : Int)) = true := by simp; omega
        obtain ⟨g, ds, g', ds', hE⟩ := hc es[j] (List.getElem_mem hlt)
        have he : es[j]? = some (.agg [.p (.bool g), .sl ds, .p (.bool g'), .sl ds']) := by rw [List.getElem?_eq_getElem hlt, hE]
        by_cases h2 : ds.length > 4
        · have hb2 : decide ((ds.length : Int) > 4) = true := by simp; omega
          have e : longB n es = true := by
            unfold longB
            have : es.any big = true := List.any_eq_true.2 ⟨es[j], List.getElem_mem hlt, by rw [hE]; simp only [big, hb2, Bool.true_or]⟩
            rw [this, Bool.or_true]
          rw [e]
          refine goA ?_
          refine evG ggA (ss_index_sl (InB_of rfl) (elem_tab rfl) rfl rfl (by omega) he rfl) ?_
          refine goA ?_
          exact rfl
        · have hb2 : decide ((ds.length : Int) > 4) = false := by simp; omega
          by_cases h3 : ds'.length > 4
          · have hb3 : decide ((ds'.length : Int) > 4) = true := by simp; omega
            have e : longB n es = true := by
              unfold longB
              have : es.any big = true := List.any_eq_true.2 ⟨es[j], List.getElem_mem hlt, by rw [hE]; simp only [big, hb3, Bool.or_true]⟩
              rw [this, Bool.or_true]
            rw [e]
            refine goA ?_
            refine evG ggA (ss_index_sl (InB_of rfl) (elem_tab rfl) rfl rfl (by omega) he rfl) ?_
            refine goA ?_
            refine evG ggA (ss_index_sl (InB_of rfl) (elem_tab rfl) rfl rfl (by omega) he rfl) ?_
            refine goA ?_
            exact rfl
          · have hb3 : decide ((ds'.length : Int) > 4) = false := by simp; omega
            refine goA ?_
            refine evG ggA (ss_index_sl (InB_of rfl) (elem_tab rfl) rfl rfl (by omega) he rfl) ?_
            refine goA ?_
            refine evG ggA (ss_index_sl (InB_of rfl) (elem_tab rfl) rfl rfl (by omega) he rfl) ?_
            refine goA ?_
            refine loopQ_intro (k := es.length - (j + 1)) (s' := mkS [(1, .v (.sl es)), (4, .v (.p (.bool false))), (5, .v (.p (.int .i64 ((j : Int) + 1))))] [] 34 true) (by omega) (by exact entA) ⟨j + 1, rfl, hlt, fun i e hi h => ?_, by simp⟩
            by_cases hij : i = j
            · subst hij
              rw [he] at h
              injection h with h
              subst h
              simp only [big, hb2, hb3, Bool.or_self]
            · exact hz i e (by omega) h
      · have hb1 : decide ((j : Int) < (es.length : Int)) = false := by simp; omega
        have e : longB n es = false := by
          unfold longB
          have : es.any big = false := by
            rw [List.any_eq_false]
            intro x hx
            obtain ⟨i, hi, rfl⟩ := List.getElem_of_mem hx
            rw [hz i es[i] (by omega) (List.getElem?_eq_getElem hi)]
            simp
          rw [this, Bool.or_false]
          simpa using h1
        refine goA ?_
        exact midQ_intro (s' := mkS [] [] 34 true) (by exact entA) ⟨e, rfl⟩
    rintro _ ⟨e, rfl⟩
    rw [e]
    refine goA ?_
    exact rfl

def rcC (N k d : Int) : Int := if (decide (N < 1) || (decide (N > 600) || (decide (k < 1) || decide (k > 60)))) = true then 2 else if (decide (d < -600) || (decide (d > 600) || !frefB d)) = true then 15 else if (N.tmod d != 0) = true then 14 else 0
set_option maxHeartbeats 4000000 in
theorem rhcheck_p (N k d : Int) : PC Tryz.prog 32 [specA N k d] (iV (rcC N k d)) := by
  unfold rcC specA
  refine pc_body1 true Tryz.func32 rfl rfl rfl (Nat.le_of_ble_eq_true rfl) CellT.tmp ?_
  cases q1 : decide (N < 1) with
  | true =>
    rw [if_pos (by simp)]
    refine goA ?_
    exact rfl
  | false =>
  cases q2 : decide (N > 600) with
  | true =>
    rw [if_pos (by simp)]
    refine goA ?_
    exact rfl
  | false =>
  cases q3 : decide (k < 1) with
  | true =>
    rw [if_pos (by simp)]
    refine goA ?_
    exact rfl
  | false =>
  cases q4 : decide (k > 60) with
  | true =>
    rw [if_pos (by simp)]
    refine goA ?_
    exact rfl
  | false =>
  rw [if_neg (by simp)]
  cases q5 : decide (d < -600) with
  | true =>
    rw [if_pos (by simp)]
    refine goA ?_
    exact rfl
  | false =>
  cases q6 : decide (d > 600) with
  | true =>
    rw [if_pos (by simp)]
    refine goA ?_
    exact rfl
  | false =>
  have p5 := of_decide_eq_false q5
  have p6 := of_decide_eq_false q6
  have cf := rfundamental_p (d := d) (by omega)
  cases q7 : frefB d with
  | false =>
    rw [q7] at cf
    rw [if_pos (by simp)]
    refine goA ?_
    refine evG ggA (ss_call (InB_of rfl) rfl rfl cf) ?_
    refine goA ?_
    exact rfl
  | true =>
  rw [q7] at cf
  have hne := frefB_ne q7
  rw [if_neg (by simp)]
  cases q8 : (N.tmod d != 0) with
  | true =>
    rw [if_pos rfl]
    refine goA ?_
    refine evG ggA (ss_call (InB_of rfl) rfl rfl cf) ?_
    refine goA ?_
    refine evG ggA (ss_div (op := .rem) (InB_of rfl) rfl rfl hne rfl) ?_
    refine goA ?_
    exact rfl
  | false =>
    rw [if_neg (by decide)]
    refine goA ?_
    refine evG ggA (ss_call (InB_of rfl) rfl rfl cf) ?_
    refine goA ?_
    refine evG ggA (ss_div (op := .rem) (InB_of rfl) rfl rfl hne rfl) ?_
    refine goA ?_
    exact rfl
theorem rcC_ok {N k d : Int} (h : rcC N k d = 0) : SpecOK N k d := by
  unfold rcC at h
  split at h
  · omega
  · rename_i h1
    split at h
    · omega
    · rename_i h2
      split at h
      · omega
      · rename_i h3
        simp at h1 h2 h3
        exact ⟨by omega, by omega, by omega, by omega, by omega, by omega, h2.2.2, h3⟩
def plainB (N k d s : Int) (es : List AV) : Bool := ValidP s es.length && (rcC N k d == 0 && (decide (k ≤ 16) && (decide (s + es.length ≥ 1) && (decide (s + (es.length : Int) ≤ 60) && (decide (s ≥ -2) && !longB 60 es)))))
set_option maxHeartbeats 4000000 in
theorem plain_p {N k d s : Int} {es : List AV} (hc : ∀ e, e ∈ es → C4 e) (hr : InR s es.length) : PC Tryz.prog 20 [serA s es, specA N k d] (bV (plainB N k d s es)) := by
  have cch := check_p (es := es) hr.1 hr.2 hr.3
  have crc := rhcheck_p N k d
  have clo := hlong_p 60 es hc (by decide) hr.3
  unfold plainB
  generalize rcC N k d = rc at *
  generalize longB 60 es = lg at *
  unfold specA at *
  refine pc_body1 true Tryz.func20 rfl rfl rfl (Nat.le_of_ble_eq_true rfl) CellT.tmp ?_
  cases hv : ValidP s es.length with
  | false =>
    rw [hv] at cch
    refine goA ?_
    refine evG ggA (ss_call (InB_of rfl) rfl rfl cch) ?_
    refine goA ?_
    exact rfl
  | true =>
  rw [hv] at cch
  obtain ⟨a0, a1, a2⟩ := valid_iff.1 hv
  have hpr := rprec_p (es := es) a0 a1 a2
  cases k1 : (rc == 0) with
  | false =>
    refine goA ?_
    refine evG ggA (ss_call (InB_of rfl) rfl rfl cch) ?_
    refine goA ?_
    refine evG ggA (ss_call (InB_of rfl) rfl rfl crc) ?_
    refine goA ?_
    exact rfl
  | true =>
  cases k2 : decide (k ≤ 16) with
  | false =>
    refine goA ?_
    refine evG ggA (ss_call (InB_of rfl) rfl rfl cch) ?_
    refine goA ?_
    refine evG ggA (ss_call (InB_of rfl) rfl rfl crc) ?_
    refine goA ?_
    exact rfl
  | true =>
  cases k3 : decide (s + (es.length : Int) ≥ 1) with
  | false =>
    refine goA ?_
    refine evG ggA (ss_call (InB_of rfl) rfl rfl cch) ?_
    refine goA ?_
    refine evG ggA (ss_call (InB_of rfl) rfl rfl crc) ?_
    refine goA ?_
    refine evG ggA (ss_call (InB_of rfl) rfl rfl hpr) ?_
    refine goA ?_
    exact rfl
  | true =>
  cases k4 : decide (s + (es.length : Int) ≤ 60) with
  | false =>
    refine goA ?_
    refine evG ggA (ss_call (InB_of rfl) rfl rfl cch) ?_
    refine goA ?_
    refine evG ggA (ss_call (InB_of rfl) rfl rfl crc) ?_
    refine goA ?_
    refine evG ggA (ss_call (InB_of rfl) rfl rfl hpr) ?_
    refine goA ?_
    refine evG ggA (ss_call (InB_of rfl) rfl rfl hpr) ?_
    refine goA ?_
    exact rfl
  | true =>
  cases k5 : decide (s ≥ -2) with
  | false =>
    refine goA ?_
    refine evG ggA (ss_call (InB_of rfl) rfl rfl cch) ?_
    refine goA ?_
    refine evG ggA (ss_call (InB_of rfl) rfl rfl crc) ?_
    refine goA ?_
    refine evG ggA (ss_call (InB_of rfl) rfl rfl hpr) ?_
    refine goA ?_
    refine evG ggA (ss_call (InB_of rfl) rfl rfl hpr) ?_
    refine goA ?_
    exact rfl
  | true =>
    refine goA ?_
    refine evG ggA (ss_call (InB_of rfl) rfl rfl cch) ?_
    refine goA ?_
    refine evG ggA (ss_call (InB_of rfl) rfl rfl crc) ?_
    refine goA ?_
    refine evG ggA (ss_call (InB_of rfl) rfl rfl hpr) ?_
    refine goA ?_
    refine evG ggA (ss_call (InB_of rfl) rfl rfl hpr) ?_
    refine goA ?_
    refine evG ggA (ss_call (InB_of rfl) rfl rfl clo) ?_
    refine goA ?_
    exact rfl
end Ab
namespace Ab
open Go Go.RowKit Go.Proofs Hp
set_option maxRecDepth 100000

theorem trR_eq {f : Int} {l : List Rat} (h0 : -100 ≤ f) (h1 : f + l.length ≤ 1000) : trR f l = some (f + lead l, l.drop (lead l)) := by
  have a := lead_le l
  unfold trR norR tdy
  rw [if_neg (by omega), lead_drop, if_pos (valid_iff.2 ⟨by omega, by omega, by rw [List.length_drop]; omega⟩)]
  simp
theorem tr_out {f : Int} {l : List Rat} {K : Nat} (h0 : -100 ≤ f) (h1 : f + l.length ≤ 1000) (hK : ∀ q, q ∈ l → Ht q K) : Out (trR f l) (f + l.length) (cf f l) f K := by
  have a := lead_le l
  exact ⟨_, _, trR_eq h0 h1, by omega, by simp; omega, h1, by omega, fun n _ => cf_drop f l _ (Nat.le_refl _) n, fun q hq => hK q (List.mem_of_mem_drop hq), lead_drop l⟩
/-- a sum over no divisor -/
theorem hkS_zero {N k d A : Int} {L : List Rat} {n m : Int} : ∀ j : Nat, (∀ t : Int, 1 ≤ t → t ≤ j → hkT N k d A L n m t = 0) → hkS N k d A L n m j = 0
  | 0, _ => rfl
  | j + 1, h => by
    show hkS N k d A L n m j + hkT N k d A L n m ((j : Int) + 1) = 0
    rw [hkS_zero j fun t h1 h2 => h t h1 (by push_cast; omega), h ((j : Int) + 1) (by omega) (by push_cast; omega), Rat.add_zero]
theorem hkC_lo {N k d A : Int} {L : List Rat} {n m : Int} (hn : 1 ≤ n) (hm : m < hkFrom A n) : hkC N k d A L n m = 0 := by
  unfold hkC
  refine hkS_zero _ fun t h1 _ => ?_
  unfold hkT
  rw [if_neg]
  rintro ⟨c1, c2⟩
  have hg := gI_dvd (m := m) (n := n)
  have ht := Int.dvd_of_tmod_eq_zero c1
  obtain ⟨x, rfl⟩ := Int.dvd_trans ht hg.1
  obtain ⟨y, rfl⟩ := Int.dvd_trans ht hg.2
  rw [Int.mul_tdiv_cancel_left _ (by omega), Int.mul_tdiv_cancel_left _ (by omega)] at c2
  have hy : 1 ≤ y := by
    refine Int.not_lt.1 fun h => ?_
    have : t * y ≤ t * 0 := Int.mul_le_mul_of_nonneg_left (by omega) (by omega)
    omega
  have hx : x < 0 := by
    refine Int.not_le.1 fun h => ?_
    have : t * 0 ≤ t * x := Int.mul_le_mul_of_nonneg_left h (by omega)
    unfold hkFrom at hm
    split at hm <;> omega
  unfold hkFrom at hm
  by_cases c : 0 ≤ A
  · have : 1 * -x ≤ y * -x := Int.mul_le_mul_of_nonneg_right hy (by omega)
    have e : y * -x = -(x * y) := by rw [Int.mul_neg, Int.mul_comm]
    omega
  · rw [if_neg c] at hm
    have h2 : A * (t * y) ≤ A * 1 := by
      refine Int.mul_le_mul_of_nonpos_left ?_ (by omega)
      omega
    have hm : t * x < A * (t * y) := by omega
    have hm : t * x < t * (A * y) := by rw [show t * (A * y) = A * (t * y) by rw [← Int.mul_assoc, ← Int.mul_assoc, Int.mul_comm t A]]; exact hm
    have hxA : x < A * y := Int.lt_of_mul_lt_mul_left hm (by omega)
    have h3 : (x + 1) * y ≤ A * y * y := Int.mul_le_mul_of_nonneg_right (by omega) (by omega)
    have h4 : A * y * y ≤ A * 1 := by
      rw [Int.mul_assoc]
      have h5 : 1 * 1 ≤ y * y := Int.mul_le_mul hy hy (by omega) (by omega)
      exact Int.mul_le_mul_of_nonpos_left (by omega) (by omega)
    rw [Int.add_mul] at h3
    omega
/-- the result of a Hecke operator -/
theorem hk_out {N k d A n : Int} {L : List Rat} {K : Nat} (hk : 1 ≤ k ∧ k ≤ 60) (hA0 : -100 ≤ A) (hA1 : A + L.length ≤ 1000) (hp : 1 ≤ A + L.length) (hn : 1 ≤ n ∧ n ≤ 900) (hAn : -100 ≤ A * n) (hK : 1 ≤ K) (hL : ∀ q, q ∈ L → Ht q K) : Out (hkR N k d A L n) (hkTo (A + L.length) n) (hkC N k d A L n) (hkFrom A n) (1 + n.toNat * (22 + K)) := by
  obtain ⟨u1, u2, u3⟩ := up_bd hn.1 hp
  have hF : -100 ≤ hkFrom A n ∧ hkFrom A n ≤ 0 := by unfold hkFrom; split <;> omega
  unfold hkR
  refine (tr_out (K := 1 + n.toNat * (22 + K)) hF.1 (by rw [tk_len]; omega) (fun q hq => ?_)).congr (by rw [tk_len]; omega) (fun m hm => ?_) (Int.le_refl _) (Nat.le_refl _)
  · obtain ⟨i, -, rfl⟩ := tk_mem hq
    have hg := gI_bd (m := hkFrom A n + i) hn.1
    unfold hkC
    refine (hkS_ht hK hL hk (gI (hkFrom A n + i) n).toNat (by omega)).mono ?_
    have : (gI (hkFrom A n + i) n).toNat * (22 + K) ≤ n.toNat * (22 + K) := Nat.mul_le_mul_right _ (by omega)
    omega
  · by_cases c : m < hkFrom A n
    · rw [cf_lt c, hkC_lo hn.1 c]
    · rw [cf_tk (by omega) (by omega)]
      show hkC N k d A L n (hkFrom A n + _) = _
      congr 1
      omega
end Ab
