/- Twist of package series, in abstract values. Theta, Sieve and Twist of the document, in abstract values. -/
import Derived.Test.YtajhaoapcapgeaaGreatDoorArZ
import Derived.Test.YtajhaoapcapgeaaGreatDoorSJ
import Derived.Test.YtajhaoapcapgeaaGreatDoorZJ
set_option linter.all false
namespace Ab
open Go Go.RowKit Go.Proofs Hp
set_option maxRecDepth 100000

def twL (s : Int) (l : List Rat) (d : Int) : List Rat := tk (fun i => ((Kr.kron d (s + i) : Int) : Rat) * l.getD i 0) l.length
def twE (s : Int) (l : List Rat) (d : Int) : AV := if ValidP s l.length = true then (if (decide (d.natAbs ≤ 1000) && frefB d) = true then serE (nrm s (twL s l d)) else .tup [serA 0 [], .p (.int .i64 15)]) else serE none
theorem kron_bd {d n : Int} (hn : n.natAbs < 1000) : Bn 1 (Kr.kron d n) := by
  rw [← Kr.kro_eq hn]
  unfold Kr.kroA Bn
  have := sy_cases (Kr.jac 14 (d % ((n.natAbs >>> Kr.tz n.natAbs : Nat) : Int)).toNat (n.natAbs >>> Kr.tz n.natAbs) 0)
  generalize Kr.sy (Kr.jac 14 (d % ((n.natAbs >>> Kr.tz n.natAbs : Nat) : Int)).toNat (n.natAbs >>> Kr.tz n.natAbs) 0) = J at *
  have ho : (if n < 0 ∧ d < 0 then (-1 : Int) else 1) = 1 ∨ (if n < 0 ∧ d < 0 then (-1 : Int) else 1) = -1 := by split <;> simp
  generalize (if n < 0 ∧ d < 0 then (-1 : Int) else 1) = o at *
  split
  · split <;> omega
  · split
    · omega
    · split <;> rcases ho with rfl | rfl <;> rcases this with rfl | rfl | rfl <;> decide
set_option maxHeartbeats 4000000 in
theorem twist_p {s d : Int} {es : List AV} {l : List Rat} {K : Nat} (h : ValidP s es.length = true → IsL es K l) (hle : es.length = l.length) (hr : InR s es.length) (hK : 1 ≤ K ∧ K ≤ 268435456) (d0 : -9223372036854775808 ≤ d) (d1 : d ≤ 9223372036854775807) : PC Tryz.prog 18 [serA s es, .p (.int .i64 d)] (twE s l d) := by
  obtain ⟨i1, i2, i3⟩ := hr
  have hva := valid_p i1 i2 i3
  unfold twE
  rw [← hle]
  cases h1 : ValidP s es.length with
  | false =>
    rw [h1] at hva
    rw [if_neg (by decide), serE_eq]
    refine pc_body2 true Tryz.func18 rfl rfl rfl (Nat.le_of_ble_eq_true rfl) (CellT.agg agg_ser) CellT.tmp ?_
    refine goA ?_
    refine evG ggA (ss_call (InB_of rfl) rfl rfl hva) ?_
    refine goA ?_
    exact rfl
  | true =>
  rw [h1] at hva
  rw [if_pos rfl]
  by_cases hdl : d < -1000
  · have k1 : decide (d < -1000) = true := by simpa using hdl
    have k2 : (decide (d.natAbs ≤ 1000) && frefB d) = false := by rw [decide_eq_false (by omega)]; rfl
    rw [k2, if_neg (by decide)]
    refine pc_body2 true Tryz.func18 rfl rfl rfl (Nat.le_of_ble_eq_true rfl) (CellT.agg agg_ser) CellT.tmp ?_
    refine goA ?_
    refine evG ggA (ss_call (InB_of rfl) rfl rfl hva) ?_
    refine goA ?_
    exact rfl
  have k1 : decide (d < -1000) = false := by simpa using hdl
  by_cases hdg : d > 1000
  · have k1' : decide (d > 1000) = true := by simpa using hdg
    have k2 : (decide (d.natAbs ≤ 1000) && frefB d) = false := by rw [decide_eq_false (by omega)]; rfl
    rw [k2, if_neg (by decide)]
    refine pc_body2 true Tryz.func18 rfl rfl rfl (Nat.le_of_ble_eq_true rfl) (CellT.agg agg_ser) CellT.tmp ?_
    refine goA ?_
    refine evG ggA (ss_call (InB_of rfl) rfl rfl hva) ?_
    refine goA ?_
    exact rfl
  have k1' : decide (d > 1000) = false := by simpa using hdg
  obtain ⟨a, b, e, cf, hf⟩ := fund_p (d := d) (by omega)
  have k2 : (decide (d.natAbs ≤ 1000) && frefB d) = frefB d := by rw [decide_eq_true (by omega)]; rfl
  rw [k2]
  cases hfr : frefB d with
  | false =>
    rw [if_neg (by decide)]
    rw [hfr] at hf
    refine pc_body2 true Tryz.func18 rfl rfl rfl (Nat.le_of_ble_eq_true rfl) (CellT.agg agg_ser) CellT.tmp ?_
    refine goA ?_
    refine evG ggA (ss_call (InB_of rfl) rfl rfl hva) ?_
    refine goA ?_
    refine evG ggA (ss_call (InB_of rfl) rfl rfl cf) ?_
    by_cases e1 : e = 0
    · have q1 : (e != 0) = false := by simpa using e1
      by_cases e2 : a = d
      · have q2 : (a != d) = false := by simpa using e2
        have q3 : (b != 1) = true := by
          rw [bne_iff_ne]
          exact fun e3 => by have := hf.1 ⟨e1, e2, e3⟩; cases this
        refine goA ?_
        exact rfl
      · have q2 : (a != d) = true := by simpa using e2
        refine goA ?_
        exact rfl
    · have q1 : (e != 0) = true := by simpa using e1
      refine goA ?_
      exact rfl
  | true =>
  rw [if_pos rfl]
  obtain ⟨rfl, rfl, rfl⟩ := hf.2 hfr
  clear hf k2 hfr
  have hL := h h1
  obtain ⟨a0, a1, a2⟩ := valid_iff.1 h1
  have hF : twL s l a = tk (fun i => ((Kr.kron a (s + i) : Int) : Rat) * l.getD i 0) es.length := by unfold twL; rw [hle]
  generalize hFF : (fun (i : Nat) => ((Kr.kron a (s + i) : Int) : Rat) * l.getD i 0) = F at *
  rw [hF, serE_eq]
  have q1 : ((0 : Int) != 0) = false := rfl
  have q2 : (a != a) = false := by simp
  have q3 : ((1 : Int) != 1) = false := rfl
  have hht : ∀ i, i < es.length → Ht (F i) (K + 1) := fun i hi => by
    rw [← hFF]
    have hb := kron_bd (d := a) (n := s + i) (by omega)
    unfold Bn at hb
    refine (ht_mul (ht_int (c := Kr.kron a (s + i)) (by omega)) (k := 1) (l := K) ?_ (Nat.le_refl _)).mono (by omega)
    rw [List.getD_eq_getElem?_getD, List.getElem?_eq_getElem (by omega)]
    exact isL_ht hL hK.1 _ (List.getElem_mem _)
  refine pc_body2 true Tryz.func18 rfl rfl rfl (Nat.le_of_ble_eq_true rfl) (CellT.agg agg_ser) CellT.tmp ?_
  refine goA ?_
  refine evG ggA (ss_call (InB_of rfl) rfl rfl hva) ?_
  refine goA ?_
  refine evG ggA (ss_call (InB_of rfl) rfl rfl cf) ?_
  refine goA ?_
  refine evG ggA (ss_make 44 (e0 := rz) (InB_of rfl) (make_tab rfl) rfl rfl rfl (by omega) (by omega) (by omega) (by omega) rfl rfl rfl) ?_
  refine runA ?_
  refine ev_nil ?_
  refine seqQ_n ?_
  refine T.seqI (fun s1 => s1 = mkS [(2, .ptr 2 0), (9, .own 44 es.length), (4, .ptr 4 0)] [(2, .var [.v (.p (.int .i64 s)), .v (.sl es)]), (4, var0), (44, .lst 4 49 ((tk F es.length).map encQ))] 72 true) ?_ ?_
  · refine r1A ?_
    refine T.block ?_
    refine T.loop (fun n s1 => ∃ j : Nat, n = es.length - j ∧ j ≤ es.length ∧ s1 = mkS [(1, .v (iV a)), (2, .ptr 2 0), (46, .v (.sl es)), (47, .v (.p (.int .i64 es.length))), (48, .v (.p (.int .i64 j))), (9, .own 44 j), (4, .ptr 4 0)] [(2, .var [.v (.p (.int .i64 s)), .v (.sl es)]), (4, var0), (44, .lst 4 49 ((tk F j).map encQ))] 72 true) es.length
      (s' := mkS [(1, .v (iV a)), (2, .ptr 2 0), (46, .v (.sl es)), (47, .v (.p (.int .i64 es.length))), (48, .v (.p (.int .i64 (0 : Nat)))), (9, .own 44 0), (4, .ptr 4 0)] [(2, .var [.v (.p (.int .i64 s)), .v (.sl es)]), (4, var0), (44, .lst 4 49 ((tk F 0).map encQ))] 72 true) (by exact entA) ⟨0, rfl, Nat.zero_le _, rfl⟩ ?_
    rintro n _ ⟨j, rfl, hj, rfl⟩
    by_cases hlt : j < es.length
    · have hb : decide ((j : Int) < (es.length : Int)) = true := by simp; omega
      obtain ⟨g, ds, g', ds', q, he, hq, hv⟩ := hL.at (i := j) hlt
      have hkb := kron_bd (d := a) (n := s + j) (by omega)
      have ck := kronecker_p (a := a) (n := s + j) (by unfold Bn; omega) (by omega)
      unfold Bn at hkb
      have hFj : F j = ((Kr.kron a (s + j) : Int) : Rat) * q := by rw [← hFF]; simp only [List.getD_eq_getElem?_getD, hq]; rfl
      generalize Kr.kron a (s + (j : Int)) = X at *
      have c1 := rof_p X (by omega) (by omega)
      have c2 := rmul_p (isV_encQ (ht_int (c := X) (by omega))) (by omega) hv (by omega)
      rw [← hFj] at c2
      refine goA ?_
      refine evG ggA (ss_index_sl (InB_of rfl) (elem_tab rfl) rfl rfl (by omega) he rfl) ?_
      refine goA ?_
      refine evG ggA (ss_call (InB_of rfl) rfl rfl ck) ?_
      refine goA ?_
      refine evG ggA (ss_call (InB_of rfl) rfl rfl c1) ?_
      refine goA ?_
      refine evG ggA (ss_call (InB_of rfl) rfl rfl c2) ?_
      (refine evG ggA (ss_bslice (InB_of rfl) (make_tab rfl) rfl rfl rfl rfl (one_ok rfl rfl) (Nat.le_of_ble_eq_true rfl)) ?_; refine evG ggA (ss_snoc (InB_of rfl) (make_tab rfl) rfl rfl (by first | rfl | assumption | (simp; done) | (simp; omega)) rfl (by omega) (Nat.le_of_ble_eq_true rfl) rfl) ?_)
      refine goA ?_
      exact loopQ_intro (k := es.length - (j + 1)) (s' := mkS [(1, .v (iV a)), (2, .ptr 2 0), (46, .v (.sl es)), (47, .v (.p (.int .i64 es.length))), (48, .v (.p (.int .i64 ((j : Int) + 1)))), (9, .own 44 (j + 1)), (4, .ptr 4 0)] [(2, .var [.v (.p (.int .i64 s)), .v (.sl es)]), (4, var0), (44, .lst 4 49 ((tk F j ++ [F j]).map encQ))] 72 true) (by omega) (by exact entA) ⟨j + 1, rfl, by omega, by rw [tk_succ]; rfl⟩
    · obtain rfl : j = es.length := by omega
      have hb : decide ((es.length : Int) < (es.length : Int)) = false := by simp
      refine goA ?_
      exact midQ_intro (s' := mkS [(2, .ptr 2 0), (9, .own 44 es.length), (4, .ptr 4 0)] [(2, .var [.v (.p (.int .i64 s)), .v (.sl es)]), (4, var0), (44, .lst 4 49 ((tk F es.length).map encQ))] 72 true) (by exact entA) rfl
  rintro _ rfl
  have hbuild := build_p (s := s) (isL_enc (l := tk F es.length) (k := K + 1) (fun q hq => by obtain ⟨i, hi, rfl⟩ := tk_mem hq; exact hht i hi)) (by omega) (by omega) (by omega) (by rw [tk_len]; omega)
  rw [serE_eq] at hbuild
  refine T.weak (s' := mkS [(2, .ptr 2 0), (9, .v (.sl ((tk F es.length).map encQ))), (4, .ptr 4 0)] [(2, .var [.v (.p (.int .i64 s)), .v (.sl es)]), (4, var0)] 72 true) (by exact entA) ?_
  refine goA ?_
  refine evG ggA (ss_call (InB_of rfl) rfl rfl hbuild) ?_
  refine goA ?_
  exact rfl
end Ab
namespace Ab
open Go Go.RowKit Go.Proofs Hp
set_option maxRecDepth 100000

set_option maxHeartbeats 4000000 in
theorem rtheta_p {s : Int} {es : List AV} {l : List Rat} {K : Nat} (h : ValidP s es.length = true → IsL es K l) (hle : es.length = l.length) (hr : InR s es.length) (hK : 1 ≤ K) (hkK : K ≤ 100000000) : PC Tryz.prog 10 [serA s es] (serE (thR s l)) := by
  have cch := check_p (es := es) hr.1 hr.2 hr.3
  rw [serE_eq]
  unfold thR
  rw [← hle]
  cases hv : ValidP s es.length with
  | false =>
    rw [hv] at cch
    refine pc_body2 true Tryz.func10 rfl rfl rfl (Nat.le_of_ble_eq_true rfl) (CellT.agg agg_ser) CellT.tmp ?_
    refine goA ?_
    refine evG ggA (ss_call (InB_of rfl) rfl rfl cch) ?_
    refine goA ?_
    exact rfl
  | true =>
  rw [hv] at cch
  have hL := h hv
  obtain ⟨a0, a1, a2⟩ := valid_iff.1 hv
  simp only [if_true]
  unfold thL
  obtain ⟨N, hN⟩ : ∃ N, N = es.length := ⟨_, rfl⟩
  have hF : ∀ (i : Nat) q, l[i]? = some q → (fun i : Nat => ((s + i : Int) : Rat) * l.getD i 0) i = ((s + i : Int) : Rat) * q := fun i q hq => by
    show ((s + i : Int) : Rat) * l.getD i 0 = _
    rw [List.getD_eq_getElem?_getD, hq]; rfl
  have hhF : ∀ i, i < N → Ht ((fun i : Nat => ((s + i : Int) : Rat) * l.getD i 0) i) (1 + K) := fun i hi => ht_mul (ht_int (c := s + i) (by omega)) (ht_getD hK (isL_ht hL hK) i) (Nat.le_refl _)
  rw [← hle, ← hN]
  generalize (fun i : Nat => ((s + i : Int) : Rat) * l.getD i 0) = F at *
  refine pc_body2 true Tryz.func10 rfl rfl rfl (Nat.le_of_ble_eq_true rfl) (CellT.agg agg_ser) CellT.tmp ?_
  refine r1A ?_
  refine T.seqI (fun s1 => s1 = mkS [(1, .ptr 1 0), (2, .ptr 2 0)] [(1, .var [.v (.p (.int .i64 s)), .v (.sl es)]), (2, var0)] 40 true) ?_ ?_
  · refine goA ?_
    refine evG ggA (ss_call (InB_of rfl) rfl rfl cch) ?_
    refine goA ?_
    exact midQ_intro (by exact entA) rfl
  rintro _ rfl
  refine r1A ?_
  refine T.seqI (fun s1 => s1 = mkS [(1, .ptr 1 0), (2, .ptr 2 0), (5, .own 100 N)] [(1, .var [.v (.p (.int .i64 s)), .v (.sl es)]), (2, var0), (100, .lst 4 49 ((tk F N).map encQ))] 40 true) ?_ ?_
  · refine r1A ?_
    refine T.block ?_
    refine T.loop (fun n s1 => ∃ j : Nat, n = N - j ∧ j ≤ N ∧ s1 = mkS [(1, .ptr 1 0), (2, .ptr 2 0), (5, .own 100 j), (6, .v (.p (.int .i64 (j : Nat))))] [(1, .var [.v (.p (.int .i64 s)), .v (.sl es)]), (2, var0), (100, .lst 4 49 ((tk F j).map encQ))] 40 true) N
      (s' := mkS [(1, .ptr 1 0), (2, .ptr 2 0), (5, .own 100 0), (6, .v (.p (.int .i64 (0 : Nat))))] [(1, .var [.v (.p (.int .i64 s)), .v (.sl es)]), (2, var0), (100, .lst 4 49 ((tk F 0).map encQ))] 40 true) (by exact entA) ⟨0, rfl, Nat.zero_le _, rfl⟩ ?_
    rintro n _ ⟨j, rfl, hj, rfl⟩
    by_cases hlt : j < N
    · have hb : decide ((j : Int) < (es.length : Int)) = true := by simp; omega
      obtain ⟨y, ys, y', ys', q, e1, e2, e3⟩ := hL.at (i := j) (by omega)
      have e1' : es[((j : Nat) : Int).toNat]? = some (.agg [.p (.bool y), .sl ys, .p (.bool y'), .sl ys']) := by rw [Int.toNat_natCast]; exact e1
      have cq := q_p (s + j) (by omega) (by omega)
      have cm : PC Tryz.prog 58 _ _ := (refmul2_p (isV_encQ (ht_int (c := s + j) (by omega))) e3 (by omega)).up
      rw [← hF j q e2] at cm
      clear hF hhF hL h
      refine goA ?_
      refine evG ggA (ss_call (InB_of rfl) rfl rfl cq) ?_
      refine goA ?_
      refine evG ggA (ss_index_sl (InB_of rfl) (elem_tab rfl) rfl rfl (by omega) e1' rfl) ?_
      refine goA ?_
      refine evG ggA (ss_call (InB_of rfl) rfl rfl cm) ?_
      (refine evG ggA (ss_bslice (InB_of rfl) (make_tab rfl) rfl rfl rfl rfl (one_ok rfl rfl) (Nat.le_of_ble_eq_true rfl)) ?_; refine evG ggA (ss_snoc (InB_of rfl) (make_tab rfl) rfl rfl (by first | rfl | assumption | (simp; done) | (simp; omega)) rfl (by omega) (Nat.le_of_ble_eq_true rfl) rfl) ?_)
      refine goA ?_
      exact loopQ_intro (k := N - (j + 1)) (s' := mkS [(1, .ptr 1 0), (2, .ptr 2 0), (5, .own 100 (j + 1)), (6, .v (.p (.int .i64 ((j : Int) + 1))))] [(1, .var [.v (.p (.int .i64 s)), .v (.sl es)]), (2, var0), (100, .lst 4 49 ((tk F j ++ [F j]).map encQ))] 40 true) (by omega) (by exact entA) ⟨j + 1, rfl, hlt, by rw [tk_succ]; rfl⟩
    · obtain rfl : j = N := by omega
      have hb : decide ((j : Int) < (es.length : Int)) = false := by simp; omega
      refine goA ?_
      exact midQ_intro (s' := mkS [(1, .ptr 1 0), (2, .ptr 2 0), (5, .own 100 j)] [(1, .var [.v (.p (.int .i64 s)), .v (.sl es)]), (2, var0), (100, .lst 4 49 ((tk F j).map encQ))] 40 true) (by exact entA) rfl
  rintro _ rfl
  have hbuild := result_p (s := s) (isL_enc (l := tk F N) (k := 1 + K) (fun q hq => by obtain ⟨i, hi, rfl⟩ := tk_mem hq; exact hhF i hi)) (by omega) (by omega) (by omega) (by rw [tk_len]; omega)
  rw [serE_eq] at hbuild
  refine T.weak (s' := mkS [(1, .ptr 1 0), (2, .ptr 2 0), (5, .v (.sl ((tk F N).map encQ)))] [(1, .var [.v (.p (.int .i64 s)), .v (.sl es)]), (2, var0)] 40 true) (by exact entA) ?_
  refine goA ?_
  refine evG ggA (ss_call (InB_of rfl) rfl rfl hbuild) ?_
  refine goA ?_
  exact rfl
set_option maxHeartbeats 4000000 in
theorem rtwist_p {s d : Int} {es : List AV} {l : List Rat} {K : Nat} (h : ValidP s es.length = true → IsL es K l) (hle : es.length = l.length) (hr : InR s es.length) (hK : 1 ≤ K) (hkK : K ≤ 100000000) : PC Tryz.prog 19 [serA s es, .p (.int .i64 d)] (twE s l d) := by
  have cch := check_p (es := es) hr.1 hr.2 hr.3
  unfold twE
  rw [← hle]
  cases hv : ValidP s es.length with
  | false =>
    rw [hv] at cch
    rw [if_neg (by decide), serE_eq]
    refine pc_body2 true Tryz.func19 rfl rfl rfl (Nat.le_of_ble_eq_true rfl) (CellT.agg agg_ser) CellT.tmp ?_
    refine goA ?_
    refine evG ggA (ss_call (InB_of rfl) rfl rfl cch) ?_
    refine goA ?_
    exact rfl
  | true =>
  rw [hv] at cch
  rw [if_pos rfl]
  by_cases hdl : d < -1000
  · have k1 : decide (d < -1000) = true := by simpa using hdl
    have k2 : (decide (d.natAbs ≤ 1000) && frefB d) = false := by rw [decide_eq_false (by omega)]; rfl
    rw [k2, if_neg (by decide)]
    refine pc_body2 true Tryz.func19 rfl rfl rfl (Nat.le_of_ble_eq_true rfl) (CellT.agg agg_ser) CellT.tmp ?_
    refine goA ?_
    refine evG ggA (ss_call (InB_of rfl) rfl rfl cch) ?_
    refine goA ?_
    exact rfl
  have k1 : decide (d < -1000) = false := by simpa using hdl
  by_cases hdg : d > 1000
  · have k1' : decide (d > 1000) = true := by simpa using hdg
    have k2 : (decide (d.natAbs ≤ 1000) && frefB d) = false := by rw [decide_eq_false (by omega)]; rfl
    rw [k2, if_neg (by decide)]
    refine pc_body2 true Tryz.func19 rfl rfl rfl (Nat.le_of_ble_eq_true rfl) (CellT.agg agg_ser) CellT.tmp ?_
    refine goA ?_
    refine evG ggA (ss_call (InB_of rfl) rfl rfl cch) ?_
    refine goA ?_
    exact rfl
  have k1' : decide (d > 1000) = false := by simpa using hdg
  have cf := rfundamental_p (d := d) (by omega)
  have k2 : (decide (d.natAbs ≤ 1000) && frefB d) = frefB d := by rw [decide_eq_true (by omega)]; rfl
  rw [k2]
  cases hfr : frefB d with
  | false =>
    rw [if_neg (by decide)]
    rw [hfr] at cf
    refine pc_body2 true Tryz.func19 rfl rfl rfl (Nat.le_of_ble_eq_true rfl) (CellT.agg agg_ser) CellT.tmp ?_
    refine goA ?_
    refine evG ggA (ss_call (InB_of rfl) rfl rfl cch) ?_
    refine goA ?_
    refine evG ggA (ss_call (InB_of rfl) rfl rfl cf) ?_
    refine goA ?_
    exact rfl
  | true =>
  rw [if_pos rfl]
  rw [hfr] at cf
  have hL := h hv
  obtain ⟨a0, a1, a2⟩ := valid_iff.1 hv
  rw [serE_eq]
  unfold twL
  obtain ⟨N, hN⟩ : ∃ N, N = es.length := ⟨_, rfl⟩
  have hF : ∀ (i : Nat) q, l[i]? = some q → (fun i : Nat => ((Kr.kron d (s + i) : Int) : Rat) * l.getD i 0) i = ((Kr.kron d (s + i) : Int) : Rat) * q := fun i q hq => by
    show ((Kr.kron d (s + i) : Int) : Rat) * l.getD i 0 = _
    rw [List.getD_eq_getElem?_getD, hq]; rfl
  have hhF : ∀ i, i < N → Ht ((fun i : Nat => ((Kr.kron d (s + i) : Int) : Rat) * l.getD i 0) i) (1 + K) := fun i hi => by
    have hb := kron_bd (d := d) (n := s + i) (by omega)
    unfold Bn at hb
    exact ht_mul (ht_int (c := Kr.kron d (s + i)) (by omega)) (ht_getD hK (isL_ht hL hK) i) (Nat.le_refl _)
  rw [← hle, ← hN]
  generalize (fun i : Nat => ((Kr.kron d (s + i) : Int) : Rat) * l.getD i 0) = F at *
  refine pc_body2 true Tryz.func19 rfl rfl rfl (Nat.le_of_ble_eq_true rfl) (CellT.agg agg_ser) CellT.tmp ?_
  refine r1A ?_
  refine T.seqI (fun s1 => s1 = mkS [(1, .v (iV d)), (2, .ptr 2 0), (4, .ptr 4 0)] [(2, .var [.v (.p (.int .i64 s)), .v (.sl es)]), (4, var0)] 56 true) ?_ ?_
  · refine goA ?_
    refine evG ggA (ss_call (InB_of rfl) rfl rfl cch) ?_
    refine goA ?_
    exact midQ_intro (by exact entA) rfl
  rintro _ rfl
  refine T.seqI (fun s1 => s1 = mkS [(1, .v (iV d)), (2, .ptr 2 0), (4, .ptr 4 0)] [(2, .var [.v (.p (.int .i64 s)), .v (.sl es)]), (4, var0)] 56 true) ?_ ?_
  · refine goA ?_
    refine evG ggA (ss_call (InB_of rfl) rfl rfl cf) ?_
    refine goA ?_
    exact midQ_intro (by exact entA) rfl
  rintro _ rfl
  refine r1A ?_
  refine T.seqI (fun s1 => s1 = mkS [(2, .ptr 2 0), (4, .ptr 4 0), (7, .own 100 N)] [(2, .var [.v (.p (.int .i64 s)), .v (.sl es)]), (4, var0), (100, .lst 4 49 ((tk F N).map encQ))] 56 true) ?_ ?_
  · refine r1A ?_
    refine T.block ?_
    refine T.loop (fun n s1 => ∃ j : Nat, n = N - j ∧ j ≤ N ∧ s1 = mkS [(1, .v (iV d)), (2, .ptr 2 0), (4, .ptr 4 0), (7, .own 100 j), (8, .v (.p (.int .i64 (j : Nat))))] [(2, .var [.v (.p (.int .i64 s)), .v (.sl es)]), (4, var0), (100, .lst 4 49 ((tk F j).map encQ))] 56 true) N
      (s' := mkS [(1, .v (iV d)), (2, .ptr 2 0), (4, .ptr 4 0), (7, .own 100 0), (8, .v (.p (.int .i64 (0 : Nat))))] [(2, .var [.v (.p (.int .i64 s)), .v (.sl es)]), (4, var0), (100, .lst 4 49 ((tk F 0).map encQ))] 56 true) (by exact entA) ⟨0, rfl, Nat.zero_le _, rfl⟩ ?_
    rintro n _ ⟨j, rfl, hj, rfl⟩
    by_cases hlt : j < N
    · have hb : decide ((j : Int) < (es.length : Int)) = true := by simp; omega
      obtain ⟨y, ys, y', ys', q, e1, e2, e3⟩ := hL.at (i := j) (by omega)
      have e1' : es[((j : Nat) : Int).toNat]? = some (.agg [.p (.bool y), .sl ys, .p (.bool y'), .sl ys']) := by rw [Int.toNat_natCast]; exact e1
      have hkb := kron_bd (d := d) (n := s + j) (by omega)
      have ck := rkronecker_p (a := d) (n := s + j) (by unfold Bn; omega) (by omega)
      unfold Bn at hkb
      have hFj := hF j q e2
      generalize Kr.kron d (s + (j : Int)) = X at *
      have cq := q_p X (by omega) (by omega)
      have cm : PC Tryz.prog 58 _ _ := (refmul2_p (isV_encQ (ht_int (c := X) (by omega))) e3 (by omega)).up
      rw [← hFj] at cm
      clear hF hhF hL h
      refine goA ?_
      refine evG ggA (ss_call (InB_of rfl) rfl rfl ck) ?_
      refine goA ?_
      refine evG ggA (ss_call (InB_of rfl) rfl rfl cq) ?_
      refine goA ?_
      refine evG ggA (ss_index_sl (InB_of rfl) (elem_tab rfl) rfl rfl (by omega) e1' rfl) ?_
      refine goA ?_
      refine evG ggA (ss_call (InB_of rfl) rfl rfl cm) ?_
      (refine evG ggA (ss_bslice (InB_of rfl) (make_tab rfl) rfl rfl rfl rfl (one_ok rfl rfl) (Nat.le_of_ble_eq_true rfl)) ?_; refine evG ggA (ss_snoc (InB_of rfl) (make_tab rfl) rfl rfl (by first | rfl | assumption | (simp; done) | (simp; omega)) rfl (by omega) (Nat.le_of_ble_eq_true rfl) rfl) ?_)
      refine goA ?_
      exact loopQ_intro (k := N - (j + 1)) (s' := mkS [(1, .v (iV d)), (2, .ptr 2 0), (4, .ptr 4 0), (7, .own 100 (j + 1)), (8, .v (.p (.int .i64 ((j : Int) + 1))))] [(2, .var [.v (.p (.int .i64 s)), .v (.sl es)]), (4, var0), (100, .lst 4 49 ((tk F j ++ [F j]).map encQ))] 56 true) (by omega) (by exact entA) ⟨j + 1, rfl, hlt, by rw [tk_succ]; rfl⟩
    · obtain rfl : j = N := by omega
      have hb : decide ((j : Int) < (es.length : Int)) = false := by simp; omega
      refine goA ?_
      exact midQ_intro (s' := mkS [(2, .ptr 2 0), (4, .ptr 4 0), (7, .own 100 j)] [(2, .var [.v (.p (.int .i64 s)), .v (.sl es)]), (4, var0), (100, .lst 4 49 ((tk F j).map encQ))] 56 true) (by exact entA) rfl
  rintro _ rfl
  have hbuild := result_p (s := s) (isL_enc (l := tk F N) (k := 1 + K) (fun q hq => by obtain ⟨i, hi, rfl⟩ := tk_mem hq; exact hhF i hi)) (by omega) (by omega) (by omega) (by rw [tk_len]; omega)
  rw [serE_eq] at hbuild
  refine T.weak (s' := mkS [(2, .ptr 2 0), (4, .ptr 4 0), (7, .v (.sl ((tk F N).map encQ)))] [(2, .var [.v (.p (.int .i64 s)), .v (.sl es)]), (4, var0)] 56 true) (by exact entA) ?_
  refine goA ?_
  refine evG ggA (ss_call (InB_of rfl) rfl rfl hbuild) ?_
  refine goA ?_
  exact rfl
end Ab
