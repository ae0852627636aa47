/- The statement SeriesMakes: its walk. -/
import Derived.Test.YtmcfohngblbpbaaMakC
import Derived.Test.YtmcfohngblbpbaaGood
namespace Ab
open Go Go.RowKit Go.Proofs Hp
set_option maxRecDepth 100000

/-- a result is the same as itself -/
theorem sameM_p {R : Option (Int × List Rat)} {K : Nat} (h : ∀ q, q ∈ sL R → Ht q K) (hK : K ≤ 100000000) (hl : (sL R).length ≤ 1000000) : PC Try.prog 26 [serA (sF R) ((sL R).map encQ), .p (.int .i64 (sE R)), serA (sF R) ((sL R).map encQ), .p (.int .i64 (sE R))] (.p (.bool true)) := by
  have c := sameQ_p (s := sF R) (t := sF R) (m := sL R) h (by omega) (by omega)
  rw [decide_eq_true ⟨rfl, rfl⟩] at c
  have hb : (sE R == sE R) = true := by simp
  have goal : PC Try.prog 26 [serA (sF R) ((sL R).map encQ), .p (.int .i64 (sE R)), serA (sF R) ((sL R).map encQ), .p (.int .i64 (sE R))] (.p (.bool (sE R == sE R))) := by
    generalize sE R = e at *
    generalize sF R = f at *
    generalize (sL R).map encQ = l at *
    refine pc_body1 true Try.func26 rfl rfl rfl (Nat.le_of_ble_eq_true rfl) CellT.tmp ?_
    refine goA ?_
    refine evG ggA (ss_call (InB_of rfl) rfl rfl c) ?_
    refine goA ?_
    exact rfl
  rw [hb] at goal
  exact goal
theorem noneM_ht {K : Nat} : (∀ q, q ∈ sL none → Ht q K) ∧ (sL none).length ≤ 1000000 := ⟨fun q h => by simp [sL] at h, Nat.zero_le _⟩
theorem nrmM_ht {f : Int} {L : List Rat} {K : Nat} (hL : ∀ q, q ∈ L → Ht q K) (hlen : L.length ≤ 1000000) : (∀ q, q ∈ sL (nrm f L) → Ht q K) ∧ (sL (nrm f L)).length ≤ 1000000 := by
  unfold nrm
  split
  · exact noneM_ht
  · have hc : ∀ q, q ∈ ncut f L → q ∈ L := fun q hq => by
      unfold ncut at hq
      split at hq
      · simp at hq
      · exact List.mem_of_mem_take hq
    have hn : (ncut f L).length ≤ L.length := by
      unfold ncut
      split
      · exact Nat.zero_le _
      · rw [List.length_take]; omega
    refine ⟨fun q hq => hL q (hc q (List.mem_of_mem_drop hq)), ?_⟩
    show ((ncut f L).drop (lead (ncut f L))).length ≤ _
    rw [List.length_drop]; omega
/-- what is not great is small, or not valid -/
theorem goodM {n : Nat} {a : Ser} (ha : SerOK a) (h : (ValidP a.from' (a.coef.map rawA).length && longB n (a.coef.map rawA)) = false) : ValidP a.from' (a.coef.map rawA).length = true → IsL (a.coef.map rawA) 4 (a.coef.map ratO) ∧ (a.coef.map ratO).length ≤ n := fun hv => by
  rw [hv, Bool.true_and] at h
  obtain ⟨h1, h2⟩ := isL_long ha.dig h
  exact ⟨h1, by rw [List.length_map]; exact h2⟩
theorem mon_ht {c : Rat} {n p : Int} {K : Nat} (hK : 1 ≤ K) (hc : Ht c K) : (∀ q, q ∈ sL (monR c n p) → Ht q K) ∧ (sL (monR c n p)).length ≤ 1000000 := by
  unfold monR
  cases e : MV n p with
  | false => exact noneM_ht
  | true =>
    simp only [if_true]
    unfold MV at e
    simp only [Bool.and_eq_true, decide_eq_true_eq] at e
    split
    · exact ⟨fun q h => by simp [sL] at h, Nat.zero_le _⟩
    · refine nrmM_ht (fun q hq => ?_) (by simp; omega)
      rcases List.mem_cons.1 hq with rfl | hq
      · exact hc
      · rw [(List.mem_replicate.1 hq).2]; exact ht0 hK
theorem scl_ht {c : Rat} {s : Int} {l : List Rat} {k K : Nat} (hc : Ht c k) (hk : 1 ≤ k) (hK : 1 ≤ K) (h : ValidP s l.length = true → (∀ q, q ∈ l → Ht q K) ∧ l.length ≤ 1000000) : (∀ q, q ∈ sL (sclR c s l) → Ht q (k + K)) ∧ (sL (sclR c s l)).length ≤ 1000000 := by
  unfold sclR
  cases hv : ValidP s l.length with
  | false => exact noneM_ht
  | true =>
    simp only [if_true]
    obtain ⟨h1, h2⟩ := h hv
    refine nrmM_ht (fun q hq => ?_) (by rw [tk_len]; exact h2)
    obtain ⟨i, -, rfl⟩ := tk_mem hq
    exact ht_mul hc (ht_getD hK h1 i) hk
theorem shi_ht {s n : Int} {l : List Rat} {K : Nat} (h : ValidP s l.length = true → (∀ q, q ∈ l → Ht q K) ∧ l.length ≤ 1000000) : (∀ q, q ∈ sL (shiR s l n) → Ht q K) ∧ (sL (shiR s l n)).length ≤ 1000000 := by
  unfold shiR
  cases hv : ValidP s l.length with
  | false => exact noneM_ht
  | true =>
    obtain ⟨h1, h2⟩ := h hv
    split
    · exact nrmM_ht h1 h2
    · exact noneM_ht
theorem den_len {s : Int} {l : List Rat} (h : ValidP s l.length = true → (∀ q, q ∈ l → Ht q 4) ∧ l.length ≤ 60) : (ri (denR s l).1).2.length ≤ 4611686018427387904 := by
  unfold denR
  cases hv : ValidP s l.length with
  | false => exact Nat.le_of_ble_eq_true rfl
  | true =>
    obtain ⟨h1, h2⟩ := h hv
    simp only [if_true]
    have := dnm_lt (K := 4) (by decide) h1 l.length
    have := dgs_len (z := (dnm l l.length).natAbs) (k := 1 + l.length * 4) (by simpa using this)
    show (dgs (dnm l l.length).natAbs).length ≤ _
    omega
def arrA (n p : Int) : AV := .agg [.p (.int .i64 n), .p (.int .i64 p)]
set_option maxHeartbeats 4000000 in
theorem makes_p (a : Ser) (c : RQ) (n p : Int) (ha : SerOK a) (hc : DigR c) (n0 : -9223372036854775808 ≤ n) (n1 : n ≤ 9223372036854775807) : PC Try.prog 4 [serO a, rawA c, arrA n p] (.p (.bool true)) := by
  have g1 := great_p 60 (pr_ok ha).1 (by decide) (pr_ok ha).2
  have g2 := long_p 1 ([c].map rawA) (fun e he => by obtain ⟨r, -, rfl⟩ := List.mem_map.1 he; exact c4_raw r) (by decide) (Nat.le_of_ble_eq_true rfl)
  have aw := awake_p
  unfold pr at g1
  have k1 := goodM (n := 60) ha
  have k2 : longB 1 ([c].map rawA) = false → IsV (rawA c) 4 (ratO c) := fun h => (isL_long (R := [c]) (fun r hr => by rw [List.mem_singleton] at hr; subst hr; exact hc) h).1.1
  have r1 := inR_ser ha
  have le1 : (a.coef.map rawA).length = (a.coef.map ratO).length := by simp
  obtain ⟨cg, cx, cg', cx', hcc⟩ := c4_raw c
  have hmap : [c].map rawA = [rawA c] := rfl
  rw [hmap] at g2 k2
  unfold serO arrA
  simp only at g1
  generalize a.coef.map ratO = l at *
  generalize a.coef.map rawA = es at *
  generalize a.from' = s at *
  generalize ratO c = q at *
  rw [hcc] at g2 k2 ⊢
  cases hg1 : ValidP s es.length && longB 60 es with
  | true =>
    rw [hg1] at g1
    clear k1 k2
    refine pc_body1 true Try.func4 rfl rfl rfl (Nat.le_of_ble_eq_true rfl) CellT.tmp ?_
    refine goA ?_
    refine evG ggA (ss_call (InB_of rfl) rfl rfl g1) ?_
    refine goA ?_
    refine evG ggA (ss_call (InB_of rfl) rfl rfl aw) ?_
    refine goA ?_
    exact rfl
  | false =>
  rw [hg1] at g1
  cases hg2 : longB 1 [.agg [.p (.bool cg), .sl cx, .p (.bool cg'), .sl cx']] with
  | true =>
    rw [hg2] at g2
    clear k1 k2
    refine pc_body1 true Try.func4 rfl rfl rfl (Nat.le_of_ble_eq_true rfl) CellT.tmp ?_
    refine goA ?_
    refine evG ggA (ss_call (InB_of rfl) rfl rfl g1) ?_
    refine goA ?_
    refine evG ggA (ss_bslice (InB_of rfl) (make_tab rfl) rfl rfl rfl rfl (ones_ok rfl) (Nat.le_of_ble_eq_true rfl)) ?_
    refine evG ggA (ss_call (InB_of rfl) rfl rfl g2) ?_
    refine goA ?_
    refine evG ggA (ss_call (InB_of rfl) rfl rfl aw) ?_
    refine goA ?_
    exact rfl
  | false =>
  rw [hg2] at g2
  have hV := k2 hg2
  have hk := k1 hg1
  have hh : ValidP s l.length = true → (∀ q, q ∈ l → Ht q 4) ∧ l.length ≤ 60 := fun v => by
    rw [← le1] at v
    exact ⟨isL_ht (hk v).1 (by decide), (hk v).2⟩
  have hh2 : ValidP s l.length = true → (∀ q, q ∈ l → Ht q 4) ∧ l.length ≤ 1000000 := fun v => ⟨(hh v).1, by have := (hh v).2; omega⟩
  have hq := isV_ht hV (by decide)
  have p1 := monomial_p (n := n) (p := p) hV (by decide)
  have p2 := rmonomial_p (n := n) (p := p) hV (by decide)
  have p3 := scale_p hV (fun v => (hk v).1) le1 r1 (by decide) (by decide) (by decide)
  have p4 := rscale_p hV (fun v => (hk v).1) le1 r1 (by decide) (by decide) (by decide)
  have p5 := shift_p (n := n) (fun v => (hk v).1) le1 r1 (by decide) n0 n1
  have p6 := rshift_p (n := n) (fun v => (hk v).1) le1 r1 (by decide) n0 n1
  have p7 := den_p (fun v => (hk v).1) le1 r1 (by decide)
  have p8 := rden_p (fun v => (hk v).1) le1 r1 (by decide)
  have m1 := mon_ht (c := q) (n := n) (p := p) (by decide) hq
  have m2 := scl_ht (s := s) hq (by decide) (by decide) hh2
  have m3 := shi_ht (n := n) hh2
  have q1 := sameM_p m1.1 (by decide) m1.2
  have q2 := sameM_p m2.1 (by decide) m2.2
  have q3 := sameM_p m3.1 (by decide) m3.2
  have q4 := sameInt_p (ri (denR s l).1) (ri (denR s l).1) (den_len hh)
  rw [decide_eq_true rfl, ← encI_raw] at q4
  rw [serE_eq] at p1 p2 p3 p4 p5 p6
  unfold denA at p7 p8
  have b1 : ((denR s l).2 == (denR s l).2) = true := by simp
  generalize monR q n p = R1 at *
  generalize sclR q s l = R2 at *
  generalize shiR s l n = R3 at *
  generalize (denR s l).2 = d2 at *
  generalize (denR s l).1 = d1 at *
  unfold encI at p7 p8 q4
  clear hh hh2 k1 k2 hk m1 m2 m3 r1 le1 hV hq
  refine pc_body1 true Try.func4 rfl rfl rfl (Nat.le_of_ble_eq_true rfl) CellT.tmp ?_
  refine goA ?_
  refine evG ggA (ss_call (InB_of rfl) rfl rfl g1) ?_
  refine goA ?_
  refine evG ggA (ss_bslice (InB_of rfl) (make_tab rfl) rfl rfl rfl rfl (ones_ok rfl) (Nat.le_of_ble_eq_true rfl)) ?_
  refine evG ggA (ss_call (InB_of rfl) rfl rfl g2) ?_
  refine goA ?_
  refine evG ggA (ss_index_arr (InB_of rfl) arr_two rfl rfl (by decide) (by decide)) ?_
  refine goA ?_
  refine evG ggA (ss_index_arr (InB_of rfl) arr_two rfl rfl (by decide) (by decide)) ?_
  refine goA ?_
  refine evG ggA (ss_call (InB_of rfl) rfl rfl p1) ?_
  refine goA ?_
  refine evG ggA (ss_index_arr (InB_of rfl) arr_two rfl rfl (by decide) (by decide)) ?_
  refine goA ?_
  refine evG ggA (ss_index_arr (InB_of rfl) arr_two rfl rfl (by decide) (by decide)) ?_
  refine goA ?_
  refine evG ggA (ss_call (InB_of rfl) rfl rfl p2) ?_
  refine goA ?_
  refine evG ggA (ss_call (InB_of rfl) rfl rfl p3) ?_
  refine goA ?_
  refine evG ggA (ss_call (InB_of rfl) rfl rfl p4) ?_
  refine goA ?_
  refine evG ggA (ss_index_arr (InB_of rfl) arr_two rfl rfl (by decide) (by decide)) ?_
  refine goA ?_
  refine evG ggA (ss_call (InB_of rfl) rfl rfl p5) ?_
  refine goA ?_
  refine evG ggA (ss_index_arr (InB_of rfl) arr_two rfl rfl (by decide) (by decide)) ?_
  refine goA ?_
  refine evG ggA (ss_call (InB_of rfl) rfl rfl p6) ?_
  refine goA ?_
  refine evG ggA (ss_call (InB_of rfl) rfl rfl p7) ?_
  refine goA ?_
  refine evG ggA (ss_call (InB_of rfl) rfl rfl p8) ?_
  refine goA ?_
  refine evG ggA (ss_call (InB_of rfl) rfl rfl q1) ?_
  refine goA ?_
  refine evG ggA (ss_call (InB_of rfl) rfl rfl q2) ?_
  refine goA ?_
  refine evG ggA (ss_call (InB_of rfl) rfl rfl q3) ?_
  refine goA ?_
  refine evG ggA (ss_call (InB_of rfl) rfl rfl q4) ?_
  refine goA ?_
  refine evG ggA (ss_call (InB_of rfl) rfl rfl aw) ?_
  refine goA ?_
  exact rfl
end Ab
