/- The statement SeriesSplits: its walk. -/
import Derived.Test.YtmcfohngblbpbaaSplD
import Derived.Test.YtmcfohngblbpbaaRing
namespace Ab
open Go Go.RowKit Go.Proofs Hp
set_option maxRecDepth 100000

theorem lower_r {s : Int} {l : List Rat} {A B : Int → Bool} {u : Int} {c : List Rat} (h : Msk s l A u c) (e : ∀ n, A n = B n) : Msk s l B u c := by
  obtain rfl : A = B := funext e
  exact h
set_option maxHeartbeats 8000000 in
theorem splits_p (a : Ser) (d m : Int) (ha : SerOK a) (d0 : -9223372036854775808 ≤ d) (d1 : d ≤ 9223372036854775807) (m0 : -9223372036854775808 ≤ m) (m1 : m ≤ 9223372036854775807) : PC Try.prog 8 [serO a, .p (.int .i64 d), .p (.int .i64 m)] (.p (.bool true)) := by
  have ci := inner_p [pr a] (fun x hx => by
    simp at hx
    rw [hx]
    exact pr_ok ha) (Nat.le_of_ble_eq_true rfl)
  have aw := awake_p
  cases hi : [pr a].all inn with
  | false =>
    rw [hi] at ci
    unfold serO
    unfold pr at ci
    generalize a.coef.map rawA = es at *
    generalize a.from' = s at *
    refine pc_body1 true Try.func8 rfl rfl rfl (Nat.le_of_ble_eq_true rfl) CellT.tmp ?_
    refine goA ?_
    refine evG ggA (ss_bslice (InB_of rfl) (make_tab rfl) rfl rfl rfl rfl (ones_ok rfl) (Nat.le_of_ble_eq_true rfl)) ?_
    refine evG ggA (ss_call (InB_of rfl) rfl rfl ci) ?_
    refine goA ?_
    refine evG ggA (ss_call (InB_of rfl) rfl rfl aw) ?_
    refine goA ?_
    exact rfl
  | true =>
  rw [hi] at ci
  have hi2 : inn (pr a) = true := by simpa using hi
  have ga := good ha hi2
  have gi := ga.in12
  have la := ga.isL
  have ra := ga.r
  clear hi hi2 ha
  unfold serO
  unfold pr at ci
  have ghv := ga.v
  have ghl := ga.len
  clear ga
  generalize a.coef.map ratO = l at *
  by_cases k0 : 1 ≤ d
  case neg =>
    have b0 : decide (d < 1) = true := by simp; omega
    clear gi la ra ghv ghl
    generalize a.coef.map rawA = es at *
    generalize a.from' = s at *
    refine pc_body1 true Try.func8 rfl rfl rfl (Nat.le_of_ble_eq_true rfl) CellT.tmp ?_
    refine goA ?_
    refine evG ggA (ss_bslice (InB_of rfl) (make_tab rfl) rfl rfl rfl rfl (ones_ok rfl) (Nat.le_of_ble_eq_true rfl)) ?_
    refine evG ggA (ss_call (InB_of rfl) rfl rfl ci) ?_
    refine goA ?_
    refine evG ggA (ss_call (InB_of rfl) rfl rfl aw) ?_
    refine goA ?_
    exact rfl
  by_cases k1 : d ≤ 8
  case neg =>
    have b1 : decide (d > 8) = true := by simp; omega
    have b0 : decide (d < 1) = false := by simp; omega
    clear gi la ra ghv ghl
    generalize a.coef.map rawA = es at *
    generalize a.from' = s at *
    refine pc_body1 true Try.func8 rfl rfl rfl (Nat.le_of_ble_eq_true rfl) CellT.tmp ?_
    refine goA ?_
    refine evG ggA (ss_bslice (InB_of rfl) (make_tab rfl) rfl rfl rfl rfl (ones_ok rfl) (Nat.le_of_ble_eq_true rfl)) ?_
    refine evG ggA (ss_call (InB_of rfl) rfl rfl ci) ?_
    refine goA ?_
    refine evG ggA (ss_call (InB_of rfl) rfl rfl aw) ?_
    refine goA ?_
    exact rfl
  by_cases k2 : 1 ≤ m
  case neg =>
    have b2 : decide (m < 1) = true := by simp; omega
    have b0 : decide (d < 1) = false := by simp; omega
    have b1 : decide (d > 8) = false := by simp; omega
    clear gi la ra ghv ghl
    generalize a.coef.map rawA = es at *
    generalize a.from' = s at *
    refine pc_body1 true Try.func8 rfl rfl rfl (Nat.le_of_ble_eq_true rfl) CellT.tmp ?_
    refine goA ?_
    refine evG ggA (ss_bslice (InB_of rfl) (make_tab rfl) rfl rfl rfl rfl (ones_ok rfl) (Nat.le_of_ble_eq_true rfl)) ?_
    refine evG ggA (ss_call (InB_of rfl) rfl rfl ci) ?_
    refine goA ?_
    refine evG ggA (ss_call (InB_of rfl) rfl rfl aw) ?_
    refine goA ?_
    exact rfl
  by_cases k3 : m ≤ 8
  case neg =>
    have b3 : decide (m > 8) = true := by simp; omega
    have b0 : decide (d < 1) = false := by simp; omega
    have b1 : decide (d > 8) = false := by simp; omega
    have b2 : decide (m < 1) = false := by simp; omega
    clear gi la ra ghv ghl
    generalize a.coef.map rawA = es at *
    generalize a.from' = s at *
    refine pc_body1 true Try.func8 rfl rfl rfl (Nat.le_of_ble_eq_true rfl) CellT.tmp ?_
    refine goA ?_
    refine evG ggA (ss_bslice (InB_of rfl) (make_tab rfl) rfl rfl rfl rfl (ones_ok rfl) (Nat.le_of_ble_eq_true rfl)) ?_
    refine evG ggA (ss_call (InB_of rfl) rfl rfl ci) ?_
    refine goA ?_
    refine evG ggA (ss_call (InB_of rfl) rfl rfl aw) ?_
    refine goA ?_
    exact rfl
  have b0 : decide (d < 1) = false := by simp; omega
  have b1 : decide (d > 8) = false := by simp; omega
  have b2 : decide (m < 1) = false := by simp; omega
  have b3 : decide (m > 8) = false := by simp; omega
  obtain ⟨u1, c1, e1, v1, t1, f1⟩ := con_exp gi k0 k1
  obtain ⟨u, c, w, e, x, k, e2, v2, t2, e3, v3, t3, e4, v4, t4, g1⟩ := exp_con gi k0 k1
  obtain ⟨y, z, e5, hy⟩ := sie_msk (r := 0) ghv k2 (by omega) (by omega) (show 1 ≤ 4 by decide) gi.ht
  have hn := norR_eq ghv
  have hle : (a.coef.map rawA).length = l.length := ghl
  generalize a.coef.map rawA = es at *
  generalize a.from' = s at *
  have hIs : ValidP s es.length = true → IsL es 4 l := fun _ => la
  have p1 := expand_p hIs hle ra (by decide) d0 d1
  have p2 := contract_p (s := u1) (fun _ => isL_enc t1) (by simp) (inR_enc v1) (by decide) d0 d1
  have p3 := normal_p hIs hle ra (by decide)
  have p4 := contract_p hIs hle ra (by decide) d0 d1
  have p5 := expand_p (s := u) (fun _ => isL_enc t2) (by simp) (inR_enc v2) (by decide) d0 d1
  have p6 := sieve_p (r := 0) hIs hle ra (by decide) d0 d1 (by decide) (by decide)
  have p7 := agree_p (s := w) (t := x) (both_mk (isL_enc t3) (isL_enc t4) (inR_enc v3) (inR_enc v4)) (by decide)
  have p8 := sieve_p (r := 0) hIs hle ra (by decide) m0 m1 (by decide) (by decide)
  have lll := lead_le l
  have hTv : ValidP (s + lead l) (l.drop (lead l)).length = true := by
    have := valid_iff.1 ghv
    exact valid_iff.2 ⟨by omega, by omega, by simp; omega⟩
  have hTh : ∀ q, q ∈ l.drop (lead l) → Ht q 4 := fun q hq => gi.ht q (List.mem_of_mem_drop hq)
  have hTe : tdy s l = (s + lead l, l.drop (lead l)) := rfl
  have s1 := sameQ_p (s := s + lead l) (t := s + lead l) (m := l.drop (lead l)) hTh (by decide) (by simp; have := gi.n; omega)
  rw [decide_eq_true ⟨rfl, rfl⟩] at s1
  generalize s + lead l = tt at *
  generalize l.drop (lead l) = tl at *
  rw [e1] at p1
  rw [f1, hTe] at p2
  rw [hn, hTe] at p3
  rw [e2] at p4
  rw [e3] at p5
  have e4' : sieR s l d 0 = some (x, k) := e4
  rw [e4'] at p6
  rw [g1] at p7
  have e5' : sieR s l m 0 = some (y, z) := e5
  rw [e5'] at p8
  obtain ⟨M, rfl⟩ : ∃ M : Nat, m = M := ⟨m.toNat, by omega⟩
  have hgt := gi.ht
  clear e1 f1 hn e2 e3 e4 e4' g1 e5 e5' hTv hTh gi v1 t1 v2 t2 v3 t3 v4 t4 lll
  refine pc_body1 true Try.func8 rfl rfl rfl (Nat.le_of_ble_eq_true rfl) CellT.tmp ?_
  refine goA ?_
  refine evG ggA (ss_bslice (InB_of rfl) (make_tab rfl) rfl rfl rfl rfl (ones_ok rfl) (Nat.le_of_ble_eq_true rfl)) ?_
  refine evG ggA (ss_call (InB_of rfl) rfl rfl ci) ?_
  refine goA ?_
  refine evG ggA (ss_call (InB_of rfl) rfl rfl p1) ?_
  refine goA ?_
  refine evG ggA (ss_call (InB_of rfl) rfl rfl p2) ?_
  refine goA ?_
  refine evG ggA (ss_call (InB_of rfl) rfl rfl p3) ?_
  refine goA ?_
  refine evG ggA (ss_call (InB_of rfl) rfl rfl s1) ?_
  refine goA ?_
  refine evG ggA (ss_call (InB_of rfl) rfl rfl p4) ?_
  refine goA ?_
  refine evG ggA (ss_call (InB_of rfl) rfl rfl p5) ?_
  refine goA ?_
  refine evG ggA (ss_call (InB_of rfl) rfl rfl p6) ?_
  refine goA ?_
  refine evG ggA (ss_call (InB_of rfl) rfl rfl p7) ?_
  refine goA ?_
  refine evG ggA (ss_call (InB_of rfl) rfl rfl p8) ?_
  refine runA ?_
  refine ev_nil ?_
  refine seqQ_n ?_
  refine T.seqI (fun s1 => s1 = mkS [(8, .v (.p (.int .i64 0))), (11, .ptr 11 0), (14, .ptr 14 0)] [(11, .var [.v (.p (.int .i64 tt)), .v (.sl (tl.map encQ))]), (14, .var [.v (.p (.int .i64 tt)), .v (.sl (tl.map encQ))])] 140 true) ?_ ?_
  · refine r1A ?_
    refine T.block ?_
    refine T.loop (fun n s1 => ∃ (r : Nat) (u : Int) (c : List Rat), n = M - r ∧ r ≤ M ∧ Msk s l (fun n => decide (n % (M : Int) < r)) u c ∧ s1 = mkS [(2, .v (.p (.int .i64 M))), (3, .ptr 3 0), (8, .v (.p (.int .i64 0))), (11, .ptr 11 0), (14, .ptr 14 0), (15, .v (.p (.int .i64 (r : Nat))))] [(3, .var [.v (.p (.int .i64 s)), .v (.sl es)]), (11, .var [.v (.p (.int .i64 tt)), .v (.sl (tl.map encQ))]), (14, .var [.v (.p (.int .i64 u)), .v (.sl (c.map encQ))])] 140 true) (M - 1)
      (s' := mkS [(2, .v (.p (.int .i64 M))), (3, .ptr 3 0), (8, .v (.p (.int .i64 0))), (11, .ptr 11 0), (14, .ptr 14 0), (15, .v (.p (.int .i64 (1 : Nat))))] [(3, .var [.v (.p (.int .i64 s)), .v (.sl es)]), (11, .var [.v (.p (.int .i64 tt)), .v (.sl (tl.map encQ))]), (14, .var [.v (.p (.int .i64 y)), .v (.sl (z.map encQ))])] 140 true) (by exact entA) ⟨1, y, z, rfl, by omega, lower_r hy (fun n => by
        rw [decide_eq_decide]
        have := Int.emod_nonneg n (show (M : Int) ≠ 0 by omega)
        omega), rfl⟩ ?_
    clear p1 p2 p3 p4 p5 p6 p7 p8 s1 ci aw
    rintro _ _ ⟨r, u, c, rfl, hr, hm, rfl⟩
    by_cases hlt : r < M
    · have hb : decide ((r : Int) < (M : Int)) = true := by simp; omega
      obtain ⟨x, k, e6, h6⟩ := sie_msk (m := M) (r := r) ghv (by omega) (by omega) (by omega) (show 1 ≤ 4 by decide) hgt
      have pa := sieve_p (m := M) (r := r) hIs hle ra (by decide) (by omega) (by omega) (by omega) (by omega)
      rw [e6] at pa
      obtain ⟨w, e, e7, h7⟩ := msk_add hm h6 (fun n h => by simp only [decide_eq_true_eq] at h; simp; omega) (show 1 ≤ 4 by decide) hgt
      have pb := add_p (s := u) (t := x) (both_mk (isL_enc (hm.ht (by decide) hgt)) (isL_enc (h6.ht (by decide) hgt)) (inR_enc hm.v) (inR_enc h6.v)) (by decide)
      rw [e7] at pb
      clear hIs hle ra la ghl
      refine goA ?_
      refine evG ggA (ss_call (InB_of rfl) rfl rfl pa) ?_
      refine goA ?_
      refine evG ggA (ss_call (InB_of rfl) rfl rfl pb) ?_
      refine goA ?_
      exact loopQ_intro (k := M - (r + 1)) (s' := mkS [(2, .v (.p (.int .i64 M))), (3, .ptr 3 0), (8, .v (.p (.int .i64 0))), (11, .ptr 11 0), (14, .ptr 14 0), (15, .v (.p (.int .i64 ((r : Int) + 1))))] [(3, .var [.v (.p (.int .i64 s)), .v (.sl es)]), (11, .var [.v (.p (.int .i64 tt)), .v (.sl (tl.map encQ))]), (14, .var [.v (.p (.int .i64 w)), .v (.sl (e.map encQ))])] 140 true) (by omega) (by exact entA) ⟨r + 1, w, e, rfl, hlt, lower_r h7 (fun n => by
        rw [← Bool.decide_or, decide_eq_decide]
        omega), rfl⟩
    · obtain rfl : r = M := by omega
      have hb : decide ((r : Int) < (r : Int)) = false := by simp
      have hall := msk_all hm (fun n => by
        have := Int.emod_lt_of_pos n (show (0 : Int) < (r : Int) by omega)
        simp; omega)
      rw [hTe] at hall
      injection hall with hu hc
      subst hu hc
      refine goA ?_
      exact midQ_intro (s' := mkS [(8, .v (.p (.int .i64 0))), (11, .ptr 11 0), (14, .ptr 14 0)] [(11, .var [.v (.p (.int .i64 u)), .v (.sl (c.map encQ))]), (14, .var [.v (.p (.int .i64 u)), .v (.sl (c.map encQ))])] 140 true) (by exact entA) rfl
  rintro _ rfl
  refine goA ?_
  refine evG ggA (ss_call (InB_of rfl) rfl rfl s1) ?_
  refine goA ?_
  refine evG ggA (ss_call (InB_of rfl) rfl rfl aw) ?_
  refine goA ?_
  exact rfl
end Ab
