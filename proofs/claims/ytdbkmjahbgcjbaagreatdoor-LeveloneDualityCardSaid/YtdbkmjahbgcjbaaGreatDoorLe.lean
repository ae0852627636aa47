import Derived.Test.YtdbkmjahbgcjbaaGreatDoorLd
set_option linter.all false
namespace Ab
open Go Go.RowKit Go.Proofs Hp
set_option maxRecDepth 100000
theorem lnothing_p (p : Int) : PC Tryz.prog 89 [iV p] (serA p []) := by
 refine pc_body1 true Tryz.func89 rfl rfl rfl (Nat.le_of_ble_eq_true rfl) (CellT.agg agg_ser) ?_
 refine goA ?_
 exact rfl
def insB (p : Int) : Bool := decide (p ≥ 0) && decide (p ≤ 1000)
theorem linside_p (p : Int) : PC Tryz.prog 88 [iV p] (bV (insB p)) := by
  unfold insB
  cases h1 : decide (p ≥ 0) with
  | false =>
    refine pc_body1 true Tryz.func88 rfl rfl rfl (Nat.le_of_ble_eq_true rfl) CellT.tmp ?_
    refine goA ?_
    exact rfl
  | true =>
    refine pc_body1 true Tryz.func88 rfl rfl rfl (Nat.le_of_ble_eq_true rfl) CellT.tmp ?_
    refine goA ?_
    exact rfl
theorem ins_t {p : Int} (h0 : 0 ≤ p) (h1 : p ≤ 1000) : insB p = true := by unfold insB; simp; omega
def delS (p : Int) : Int := if p < 2 then p else 1
def delL (p : Int) : List Rat := if p < 2 then [] else tk dV (p - 1).toNat
def delT (p : Int) : AV := if insB p then .tup [serA (delS p) ((delL p).map encQ), iV 0] else .tup [serA 0 [], iV 2]
theorem PV1 {N : Nat} (h : N ≤ 150) : PV 1 N = true := by unfold PV; simp; omega
theorem c24_L (N : Nat) : (List.range N).map (fun _ => encQ (24 : Rat)) = (List.replicate N (24 : Rat)).map encQ := by
 rw [List.map_replicate]
 exact (rep_range' N (encQ 24) (g := fun _ => encQ 24) (fun _ _ => rfl)).symm
theorem c24_ht (N : Nat) : ∀ q, q ∈ List.replicate N (24 : Rat) → Ht q 1 := fun q hq => by
 rw [(List.mem_replicate.1 hq).2]
 exact ht_int (c := 24) (by decide)
theorem prod24 {N : Nat} (h : N ≤ 150) : prodR 1 (List.replicate N 24) = some (1, tk dV (N + 1)) := by
 unfold prodR
 rw [List.length_replicate, PV1 h, if_pos rfl, del_prc (Nat.le_refl _) h, dV_tk (by omega)]
 exact nrm_tk dV_ne (by decide) (by omega)
set_option maxHeartbeats 4000000 in
theorem delta_p {p : Int} (h : p ≤ 152 ∨ 1000 < p) : PC Tryz.prog 17 [iV p] (delT p) := by
  have ci := linside_p p
  unfold delT
  cases h1 : insB p with
  | false =>
    rw [h1] at ci
    refine pc_body2 true Tryz.func17 rfl rfl rfl (Nat.le_of_ble_eq_true rfl) (CellT.agg agg_ser) CellT.tmp ?_
    refine goA ?_
    refine evG ggA (ss_call (InB_of rfl) rfl rfl ci) ?_
    refine goA ?_
    exact rfl
  | true =>
  rw [h1] at ci
  have hp : 0 ≤ p ∧ p ≤ 152 := by unfold insB at h1; simp at h1; omega
  unfold delS delL
  by_cases h2 : p < 2
  · have b2 : decide (p < 2) = true := decide_eq_true h2
    have cn := lnothing_p p
    rw [if_pos h2, if_pos h2]
    refine pc_body2 true Tryz.func17 rfl rfl rfl (Nat.le_of_ble_eq_true rfl) (CellT.agg agg_ser) CellT.tmp ?_
    refine goA ?_
    refine evG ggA (ss_call (InB_of rfl) rfl rfl ci) ?_
    refine goA ?_
    refine evG ggA (ss_call (InB_of rfl) rfl rfl cn) ?_
    refine goA ?_
    exact rfl
  have b2 : decide (p < 2) = false := decide_eq_false h2
  rw [if_neg h2, if_neg h2]
  obtain ⟨N, rfl⟩ : ∃ N : Nat, p = (N : Int) + 2 := ⟨(p - 2).toNat, by omega⟩
  rw [show ((N : Int) + 2 - 1).toNat = N + 1 by omega]
  have c24 := rof_p 24 (by decide) (by decide)
  rw [show ((24 : Int) : Rat) = 24 from rfl] at c24
  have cp := prod_p (h := 1) (es := (List.replicate N (24 : Rat)).map encQ) (c := List.replicate N 24) (K := 1) (P := 1) (Q := 2) (fun _ => ⟨isL_enc (c24_ht N), by rw [List.length_replicate]; omega⟩) (by simp) (by decide) (by decide) (by simp; omega) (by decide) (by decide) (by decide)
    (fun _ => by rw [List.length_replicate]; exact sgsD_ht (by omega)) (fun _ m hm => by rw [List.length_replicate] at hm ⊢; exact prcD_ht hm (by omega))
  rw [prod24 (by omega)] at cp
  have cp : PC Tryz.prog 91 [iV 1, .sl ((List.replicate N (24 : Rat)).map encQ)] (.tup [serA 1 ((tk dV (N + 1)).map encQ), iV 0]) := cp
  have hend : (List.range N).map (fillG (fun _ => encQ (24 : Rat)) N) = (List.replicate N (24 : Rat)).map encQ := by rw [fill_end, c24_L]
  have h0 := fill_0 (fun _ => encQ (24 : Rat)) N
  refine pc_body2 true Tryz.func17 rfl rfl rfl (Nat.le_of_ble_eq_true rfl) (CellT.agg agg_ser) CellT.tmp ?_
  refine goA ?_
  refine evG ggA (ss_call (InB_of rfl) rfl rfl ci) ?_
  refine goA ?_
  refine evG ggA (ss_make 30 (e0 := rz) (InB_of rfl) (make_tab rfl) rfl rfl rfl (by omega) (by omega) (by omega) (by omega) rfl rfl rfl) ?_
  rw [show ((N : Int) + 2 - 2).toNat = N by omega, h0]
  refine runA ?_
  refine ev_nil ?_
  (repeat (first | with_reducible refine seqQ_n ?_ | with_reducible refine seqQ_e ?_ | with_reducible refine seqQ_r ?_ | with_reducible refine blockQ_n ?_ | with_reducible refine blockQ_r ?_ | with_reducible refine blockQ_e rfl ?_ | with_reducible refine blockQ_o rfl ?_ | with_reducible refine loopQ_e ?_ | with_reducible refine loopQ_r ?_ | with_reducible refine midQ_e ?_ | with_reducible refine midQ_r ?_ | with_reducible refine roundQ_n ?_ | with_reducible refine roundQ_e ?_ | with_reducible refine roundQ_r ?_))
  refine T.seqI (fun s1 => s1 = mkS [(2, .ptr 2 0), (4, .own 30 N)] [(2, var0), (30, .lst 4 56 ((List.range N).map (fillG (fun _ => encQ (24 : Rat)) N)))] 31 true) ?_ ?_
  · refine r1A ?_
    refine T.block ?_
    refine T.loop (fun z s1 => ∃ j : Nat, z = N - j ∧ j ≤ N ∧ s1 = mkS [(2, .ptr 2 0), (4, .own 30 N), (18, .v (iV N)), (19, .v (iV j))] [(2, var0), (30, .lst 4 56 ((List.range N).map (fillG (fun _ => encQ (24 : Rat)) j)))] 31 true) N
      (s' := mkS [(2, .ptr 2 0), (4, .own 30 N), (18, .v (iV N)), (19, .v (iV (0 : Nat)))] [(2, var0), (30, .lst 4 56 ((List.range N).map (fillG (fun _ => encQ (24 : Rat)) 0)))] 31 true) (by exact entA) ⟨0, rfl, Nat.zero_le _, rfl⟩ ?_
    rintro _ _ ⟨j, rfl, hj, rfl⟩
    have hgl : ((List.range N).map (fillG (fun _ => encQ (24 : Rat)) j)).length = N := by simp
    by_cases hlt : j < N
    · have hb : decide ((j : Int) < (N : Int)) = true := decide_eq_true (by omega)
      have hs := fill_set (fun _ => encQ (24 : Rat)) N j
      generalize hG : (List.range N).map (fillG (fun _ => encQ (24 : Rat)) j) = G at *
      refine goA ?_
      refine evG ggA (ss_call (InB_of rfl) rfl rfl c24) ?_
      refine evG ggA (ss_index_own (InB_of rfl) (elem_tab rfl) rfl rfl hgl rfl (by omega) (by omega)) ?_
      refine evG ggA (ss_store_own rfl (size_tab rfl) rfl rfl hgl (by omega) rfl rfl (fun l e => by cases e) (List.all_eq_true.2 (encQ_nu _))) ?_
      rw [show ((j : Int)).toNat = j by omega, hs]
      refine goA ?_
      exact loopQ_intro (k := N - (j + 1)) (s' := mkS [(2, .ptr 2 0), (4, .own 30 N), (18, .v (iV N)), (19, .v (iV ((j : Int) + 1)))] [(2, var0), (30, .lst 4 56 ((List.range N).map (fillG (fun _ => encQ (24 : Rat)) (j + 1))))] 31 true) (by omega) (by exact entA) ⟨j + 1, rfl, by omega, rfl⟩
    · obtain rfl : j = N := by omega
      have hb : decide ((j : Int) < (j : Int)) = false := decide_eq_false (by omega)
      refine goA ?_
      exact midQ_intro (s' := mkS [(2, .ptr 2 0), (4, .own 30 j)] [(2, var0), (30, .lst 4 56 ((List.range j).map (fillG (fun _ => encQ (24 : Rat)) j)))] 31 true) (by exact entA) rfl
  rintro _ rfl
  rw [hend]
  have hl3 : ((List.replicate N (24 : Rat)).map encQ).length = N := by simp
  refine T.weak (s' := mkS [(2, .ptr 2 0), (4, .v (.sl ((List.replicate N (24 : Rat)).map encQ)))] [(2, var0)] 31 true) (by exact entA) ?_
  refine goA ?_
  refine evG ggA (ss_call (InB_of rfl) rfl rfl cp) ?_
  refine goA ?_
  exact rfl
end Ab
namespace Ab
open Go Go.RowKit Go.Proofs Hp
set_option maxRecDepth 100000
theorem pw_hb : ((List.range 10).all fun e => (powL (eiL 4 40) (e : Int) 39).all (htB 9)) = true := by decide +kernel
theorem p4_h {e n : Nat} (he : e < 10) (hn : n < 40) : Ht (pq (eiV 4) e n) 9 := by
 have h := List.all_eq_true.1 pw_hb e (List.mem_range.2 he)
 have e1 : powL (eiL 4 40) (e : Int) 39 = tk (pq (eiV 4) e) 40 := powL_tk (f := eiV 4) (n := 40) (eiV_ne rfl) (by decide) e (m := 39) (by decide)
 rw [e1] at h
 exact htB_all h _ (List.mem_map.2 ⟨n, List.mem_range.2 hn, rfl⟩)
theorem pow4_lh {e p : Nat} (he : e < 10) (hp : p ≤ 40) : ∀ q, q ∈ tk (pq (eiV 4) e) p → Ht q 9 := ht_tk fun i hi => p4_h he (by omega)
theorem drop_tk {f : Nat → Rat} {n : Nat} (h : f 0 ≠ 0) : (tk f n).drop (lead (tk f n)) = tk f n := by rw [lead_tk h, List.drop_zero]
theorem inR_tk {s : Int} {f : Nat → Rat} {n : Nat} (h0 : -1000 ≤ s) (h1 : s ≤ 1000) (h2 : n ≤ 1000) : InR s ((tk f n).map encQ).length := ⟨by omega, by omega, by simp; omega⟩
theorem e4pow_p {e p : Nat} (he : e < 10) (h1 : 1 ≤ p) (hp : p ≤ 40) : PC Tryz.prog 46 [serA 0 ((eiL 4 p).map encQ), iV e] (.tup [serA 0 ((tk (pq (eiV 4) e) p).map encQ), iV 0]) := by
 have c := spow_p (s := 0) (n := (e : Int)) (es := (eiL 4 p).map encQ) (l := eiL 4 p) (K := 4) (Q := 9) (fun _ => ⟨isL_enc (eiL_ht rfl hp), by simp [eiL]; omega⟩) (by simp) (inR_tk (by decide) (by decide) (by omega)) (by decide) (by decide) (by omega) (by omega)
  (fun _ _ _ m hm => by
   rw [show eiL 4 p = tk (eiV 4) p from rfl, drop_tk (eiV_ne rfl)] at hm ⊢
   rw [powL_tk (eiV_ne rfl) h1 e (by rw [tk_len] at hm; exact hm)]
   exact pow4_lh he (by rw [tk_len] at hm; omega))
 rw [show eiL 4 p = tk (eiV 4) p from rfl, powT_tk (eiV_ne rfl) h1 (by omega) (by decide) (by omega) (by omega) (by omega)] at c
 rw [show (e : Int) * 0 = 0 by omega] at c
 exact c
def jT (p : Int) : AV := if decide (p < -100) || decide (p > 998) then .tup [serA 0 [], iV 2] else if p < 0 then .tup [serA p [], iV 0] else .tup [serA (-1) ((tk jV (p.toNat + 1)).map encQ), iV 0]
theorem ivs_h {n m : Nat} (hn : n ≤ m) (hm : n ≤ 40) : ∀ q, q ∈ ivs (tk dV m) n → Ht q 3 := by
 rw [ivs_tk dV hn]
 exact ht_tk fun i hi => ivD_h (by omega)
theorem ivf_ne : ivf dV 0 ≠ 0 := by rw [ivf_0]; exact inv_ne dV_ne
theorem jmul {p : Nat} (hp : p ≤ 38) : mulR 0 (tk (pq (eiV 4) 3) (p + 1)) (-1) (tk (ivf dV) (p + 1)) = some (-1, tk jV (p + 1)) := by
 have h := mulR_tk (s := 0) (t := -1) (f := pq (eiV 4) 3) (g := ivf dV) (n := p + 1) (m := p + 1) (pq_ne (eiV_ne rfl) 3) ivf_ne (by decide) (by decide) (by omega) (by omega) (by decide) (by omega)
 rw [Nat.min_self] at h
 exact h
theorem jT_ok {p : Nat} (hp : p ≤ 38) : jT (p : Int) = .tup [serA (-1) ((tk jV (p + 1)).map encQ), iV 0] := by
 unfold jT
 rw [if_neg (by simp; omega), if_neg (by omega), Int.toNat_natCast]
theorem delT_ok {p : Nat} (hp : p ≤ 38) : delT ((p : Int) + 2) = .tup [serA 1 ((tk dV (p + 1)).map encQ), iV 0] := by
 unfold delT delS delL
 rw [ins_t (by omega) (by omega), if_pos rfl, if_neg (by omega), if_neg (by omega), show ((p : Int) + 2 - 1).toNat = p + 1 by omega]
set_option maxHeartbeats 4000000 in
theorem j_p {p : Int} (h : p ≤ 38 ∨ 998 < p) : PC Tryz.prog 19 [iV p] (jT p) := by
  cases h1 : decide (p < -100) with
  | true =>
    have e : jT p = .tup [serA 0 [], iV 2] := by unfold jT; rw [h1]; rfl
    rw [e]
    refine pc_body2 true Tryz.func19 rfl rfl rfl (Nat.le_of_ble_eq_true rfl) (CellT.agg agg_ser) CellT.tmp ?_
    refine goA ?_
    exact rfl
  | false =>
  cases h2 : decide (p > 998) with
  | true =>
    have e : jT p = .tup [serA 0 [], iV 2] := by unfold jT; rw [h1, h2]; rfl
    rw [e]
    refine pc_body2 true Tryz.func19 rfl rfl rfl (Nat.le_of_ble_eq_true rfl) (CellT.agg agg_ser) CellT.tmp ?_
    refine goA ?_
    exact rfl
  | false =>
  have p1 := of_decide_eq_false h1
  have p2 := of_decide_eq_false h2
  cases h3 : decide (p < 0) with
  | true =>
    have e : jT p = .tup [serA p [], iV 0] := by unfold jT; rw [h1, h2, if_neg (by simp), if_pos (of_decide_eq_true h3)]
    rw [e]
    have cn := lnothing_p p
    refine pc_body2 true Tryz.func19 rfl rfl rfl (Nat.le_of_ble_eq_true rfl) (CellT.agg agg_ser) CellT.tmp ?_
    refine goA ?_
    refine evG ggA (ss_call (InB_of rfl) rfl rfl cn) ?_
    refine goA ?_
    exact rfl
  | false =>
  have p3 := of_decide_eq_false h3
  obtain ⟨p, rfl⟩ : ∃ n : Nat, p = n := ⟨p.toNat, by omega⟩
  have hp : p ≤ 38 := by omega
  rw [jT_ok hp]
  have c1 := enorm_p bq_ok (k := 4) (p := p + 1) rfl (by omega)
  have c2 := e4pow_p (e := 3) (p := p + 1) (by decide) (by omega) (by omega)
  have c3 := delta_p (p := (p : Int) + 2) (by omega)
  rw [delT_ok hp] at c3
  have hinv : invT 1 (tk dV (p + 1)) = (-1, tk (ivf dV) (p + 1), 0) := invT_tk dV_ne (by omega) (by decide) (by omega) (by decide) (by omega)
  have c4 := quoV_p (s := 0) (t := 1) (es := (tk (pq (eiV 4) 3) (p + 1)).map encQ) (fs := (tk dV (p + 1)).map encQ) (l := tk (pq (eiV 4) 3) (p + 1)) (m := tk dV (p + 1)) (K := 9) (Q := 9) (by decide) (by decide)
    (fun _ k hk q hq => by
      rw [drop_tk dV_ne] at hk hq
      rw [tk_len] at hk
      exact (ivs_h hk (by omega) q hq).mono (by decide))
    (fun _ => by
      rw [hinv]
      exact ⟨valid_tk (s := -1) (f := ivf dV) (n := p + 1) (by decide) (by omega), ht_tk fun i hi => (ivD_h (by omega)).mono (by decide), by simp; omega⟩)
    (Nat.le_refl _) (fun _ => ⟨isL_enc (pow4_lh (by decide) (by omega)), by simp; omega⟩) (fun _ => ⟨isL_enc (ht_tk fun i _ => (dV_ht i).mono (by decide)), by simp; omega⟩) (by simp) (by simp) (inR_tk (by decide) (by decide) (by omega)) (inR_tk (by decide) (by decide) (by omega))
  have hq : quoT 0 (tk (pq (eiV 4) 3) (p + 1)) 1 (tk dV (p + 1)) = (-1, tk jV (p + 1), 0) := by
    unfold quoT
    rw [valid_tk (by decide) (by omega), hinv, if_pos rfl, if_pos rfl]
    simp only []
    rw [jmul hp]
    rfl
  rw [hq] at c4
  have c4 : PC Tryz.prog 94 [serA 0 ((tk (pq (eiV 4) 3) (p + 1)).map encQ), serA 1 ((tk dV (p + 1)).map encQ)] (.tup [serA (-1) ((tk jV (p + 1)).map encQ), iV 0]) := c4
  generalize tk jV (p + 1) = J at *
  generalize tk dV (p + 1) = D at *
  generalize tk (pq (eiV 4) 3) (p + 1) = W at *
  rw [show ((p + 1 : Nat) : Int) = (p : Int) + 1 by omega] at c1
  have c1 : PC Tryz.prog 45 [iV 4, iV ((p : Int) + 1)] (.tup [serA 0 ((eiL 4 (p + 1)).map encQ), iV 0]) := c1
  have c2 : PC Tryz.prog 46 [serA 0 ((eiL 4 (p + 1)).map encQ), iV 3] (.tup [serA 0 (W.map encQ), iV 0]) := c2
  generalize eiL 4 (p + 1) = E at *
  refine pc_body2 true Tryz.func19 rfl rfl rfl (Nat.le_of_ble_eq_true rfl) (CellT.agg agg_ser) CellT.tmp ?_
  refine goA ?_
  refine evG ggA (ss_call (InB_of rfl) rfl rfl c1) ?_
  refine goA ?_
  refine evG ggA (ss_call (InB_of rfl) rfl rfl c2) ?_
  refine goA ?_
  refine evG ggA (ss_call (InB_of rfl) rfl rfl c3) ?_
  refine goA ?_
  refine evG ggA (ss_call (InB_of rfl) rfl rfl c4) ?_
  refine goA ?_
  exact rfl
end Ab
namespace Ab
open Go Go.RowKit Go.Proofs Hp
set_option maxRecDepth 100000
theorem enc1 : encI 1 = .agg [.p (.bool false), .sl [u32 ((1 : Nat) : Int)]] := by unfold encI; rw [ci_1]
theorem one1_p : PC Tryz.prog 181 [encI 1] (bV true) := by
 rw [enc1]
 have n1 : [u32 ((1 : Nat) : Int)][(0 : Int).toNat]? = some (u32 ((1 : Nat) : Int)) := rfl
 refine pc_body1 true Tryz.func181 rfl rfl rfl (Nat.le_of_ble_eq_true rfl) CellT.tmp ?_
 refine goA ?_
 refine evG ggA (ss_index_sl (InB_of rfl) (elem_tab rfl) rfl rfl (by decide) n1 rfl) ?_
 refine goA ?_
 exact rfl
theorem lint_p {q : Rat} {K : Nat} (hK : K ≤ 1000) (h : Ht q K) (hd : q.den = 1) : PC Tryz.prog 100 [encQ q] (.tup [encI q.num, bV true]) := by
 have c1 := rnormal_p (isV_encQ h) (by omega)
 have c2 := one1_p
 have e : encQ q = .agg (ci q.num ++ ci 1) := by unfold encQ; rw [hd]; rfl
 rw [e] at c1 ⊢
 unfold encI at c2 ⊢
 generalize q.num = z at *
 refine pc_body2 true Tryz.func100 rfl rfl rfl (Nat.le_of_ble_eq_true rfl) (CellT.agg (l := ci z) agg_int) CellT.tmp ?_
 refine goA ?_
 refine evG ggA (ss_call (InB_of rfl) rfl rfl c1) ?_
 refine goA ?_
 refine evG ggA (ss_call (InB_of rfl) rfl rfl c2) ?_
 refine goA ?_
 exact rfl
theorem dV_int : (dL.all fun q => q.den == 1) = true := by decide +kernel
theorem dV_den (n : Nat) : (dV n).den = 1 := by
  unfold dV
  rw [List.getD_eq_getElem?_getD]
  cases h : dL[n]? with
  | none => rfl
  | some q =>
    have := List.all_eq_true.1 dV_int q (List.mem_of_getElem? h)
    simpa using this
def tauV (n : Int) : Int := (dV (n - 1).toNat).num
def tauB (n : Int) : Bool := decide (n < 1) || decide (n ≥ 1000)
def tauT (n : Int) : AV := if tauB n then .tup [encI 0, iV 2] else .tup [encI (tauV n), iV 0]
theorem enc0 : encI 0 = .agg [.p (.bool false), .sl []] := rfl
theorem tau_lt (n : Int) : (tauV n).natAbs < pw 2 := (dV_ht _).1
theorem delT_tau {m : Nat} (hm : m ≤ 149) : delT ((m : Int) + 1 + 1) = .tup [serA 1 ((tk dV (m + 1)).map encQ), iV 0] := by
 unfold delT delS delL
 rw [ins_t (by omega) (by omega), if_pos rfl, if_neg (by omega), if_neg (by omega), show ((m : Int) + 1 + 1 - 1).toNat = m + 1 by omega]
theorem cf_dV {m : Nat} : cf 1 (tk dV (m + 1)) ((m : Int) + 1) = dV m := by
 rw [cf_tk (by omega) (by omega)]
 congr 1
 omega
theorem tau_p {n : Int} (h : n ≤ 150 ∨ 1000 ≤ n) : PC Tryz.prog 21 [iV n] (tauT n) := by
  unfold tauT tauB
  rw [enc0]
  cases h1 : decide (n < 1) with
  | true =>
    refine pc_body2 true Tryz.func21 rfl rfl rfl (Nat.le_of_ble_eq_true rfl) (CellT.agg agg_int) CellT.tmp ?_
    refine goA ?_
    exact rfl
  | false =>
  cases h2 : decide (n ≥ 1000) with
  | true =>
    refine pc_body2 true Tryz.func21 rfl rfl rfl (Nat.le_of_ble_eq_true rfl) (CellT.agg agg_int) CellT.tmp ?_
    refine goA ?_
    exact rfl
  | false =>
  have p1 := of_decide_eq_false h1
  have p2 := of_decide_eq_false h2
  obtain ⟨m, rfl⟩ : ∃ m : Nat, n = (m : Int) + 1 := ⟨(n - 1).toNat, by omega⟩
  have hm : m ≤ 149 := by omega
  rw [if_neg (by decide)]
  have c1 := delta_p (p := (m : Int) + 1 + 1) (by omega)
  rw [delT_tau hm] at c1
  have c2 := seriesAt_p (s := 1) (n := (m : Int) + 1) (es := (tk dV (m + 1)).map encQ) (l := tk dV (m + 1)) (K := 2) (isL_enc (ht_tk fun i _ => dV_ht i)) (by decide) (by rw [List.length_map]; exact valid_tk (by decide) (by omega)) (by omega) (by simp; omega)
  rw [cf_dV] at c2
  have c3 := lint_p (K := 2) (by decide) (dV_ht m) (dV_den m)
  have e1 : tauV ((m : Int) + 1) = (dV m).num := by unfold tauV; rw [show ((m : Int) + 1 - 1).toNat = m by omega]
  rw [e1]
  generalize tk dV (m + 1) = D at *
  generalize (dV m).num = z at *
  generalize dV m = q at *
  refine pc_body2 true Tryz.func21 rfl rfl rfl (Nat.le_of_ble_eq_true rfl) (CellT.agg (l := ci z) agg_int) CellT.tmp ?_
  refine goA ?_
  refine evG ggA (ss_call (InB_of rfl) rfl rfl c1) ?_
  refine goA ?_
  refine evG ggA (ss_call (InB_of rfl) rfl rfl c2) ?_
  refine goA ?_
  refine evG ggA (ss_call (InB_of rfl) rfl rfl c3) ?_
  refine goA ?_
  exact rfl
def dimV (k : Int) : Int := if (decide (k < 0) || (k.tmod 2 != 0)) = true then 0 else if (k.tmod 12 == 2) = true then k.tdiv 12 else k.tdiv 12 + 1
theorem td12 (k : Int) : (k.tdiv 12).natAbs ≤ k.natAbs / 12 := by rw [Int.natAbs_tdiv]; exact Nat.le_refl _
theorem dim_p {k : Int} (k0 : -9223372036854775808 ≤ k) (k1 : k ≤ 9223372036854775807) : PC Tryz.prog 23 [iV k] (iV (dimV k)) := by
  have ht := td12 k
  unfold dimV
  cases h1 : decide (k < 0) with
  | true =>
    rw [if_pos (show (true || (k.tmod 2 != 0)) = true from rfl)]
    refine pc_body1 true Tryz.func23 rfl rfl rfl (Nat.le_of_ble_eq_true rfl) CellT.tmp ?_
    refine goA ?_
    exact rfl
  | false =>
  cases h2 : (k.tmod 2 != 0) with
  | true =>
    rw [if_pos (show (false || true) = true from rfl)]
    refine pc_body1 true Tryz.func23 rfl rfl rfl (Nat.le_of_ble_eq_true rfl) CellT.tmp ?_
    refine goA ?_
    refine evG ggA (ss_div (op := .rem) (InB_of rfl) rfl rfl (by omega) rfl) ?_
    refine goA ?_
    exact rfl
  | false =>
  rw [if_neg (by decide)]
  cases h3 : (k.tmod 12 == 2) with
  | true =>
    rw [if_pos rfl]
    refine pc_body1 true Tryz.func23 rfl rfl rfl (Nat.le_of_ble_eq_true rfl) CellT.tmp ?_
    refine goA ?_
    refine evG ggA (ss_div (op := .rem) (InB_of rfl) rfl rfl (by omega) rfl) ?_
    refine goA ?_
    refine evG ggA (ss_div (op := .rem) (InB_of rfl) rfl rfl (by omega) rfl) ?_
    refine goA ?_
    refine evG ggA (ss_div (InB_of rfl) rfl rfl (by omega) (w64 (by omega) (by omega))) ?_
    refine goA ?_
    exact rfl
  | false =>
    rw [if_neg (by decide)]
    refine pc_body1 true Tryz.func23 rfl rfl rfl (Nat.le_of_ble_eq_true rfl) CellT.tmp ?_
    refine goA ?_
    refine evG ggA (ss_div (op := .rem) (InB_of rfl) rfl rfl (by omega) rfl) ?_
    refine goA ?_
    refine evG ggA (ss_div (op := .rem) (InB_of rfl) rfl rfl (by omega) rfl) ?_
    refine goA ?_
    refine evG ggA (ss_div (InB_of rfl) rfl rfl (by omega) (w64 (by omega) (by omega))) ?_
    refine goA ?_
    exact rfl
theorem dV3 : tk dV 3 = qsL [1, -24, 252] := by
 have : dL.take 3 = qsL [1, -24, 252] := by decide +kernel
 rw [← dV_tk (by decide)]
 exact this
theorem jV3 : tk jV 3 = qsL [1, 744, 196884] := by
 have : jL.take 3 = qsL [1, 744, 196884] := by decide +kernel
 rw [← this, ← jV_eq, tk_take _ (by decide)]
theorem int4L {xs : List Int} (h : (xs.all fun x => decide (x.natAbs < 4000000000)) = true) : ∀ x, x ∈ xs → x.natAbs < 4000000000 := fun x hx => by
 have := List.all_eq_true.1 h x hx
 simpa using this
theorem sm4L {xs : List Int} (h : (xs.all fun x => decide (x.natAbs < 4000000000)) = true) : ∀ q, q ∈ qsL xs → Ht q 1 := small4 fun x hx => by have := int4L h x hx; omega
theorem qs4L {xs : List Int} (h : (xs.all fun x => decide (x.natAbs < 4000000000)) = true) (hl : xs.length ≤ 100000) : PC Tryz.prog 87 [.sl (xs.map iv)] (.sl ((qsL xs).map encQ)) := qs_p xs (fun x hx => by have := int4L h x hx; omega) hl
theorem l39awake_p : PC Tryz.prog 16 [] (bV true) := by
 have c1 := delta_p (p := 4) (by decide)
 have e1 : delT 4 = .tup [serA 1 ((qsL [1, -24, 252]).map encQ), iV 0] := by
  rw [← dV3]
  exact delT_tau (m := 2) (by decide)
 rw [e1] at c1
 have c2 := j_p (p := 2) (by decide)
 have e2 : jT 2 = .tup [serA (-1) ((qsL [1, 744, 196884]).map encQ), iV 0] := by
  rw [← jV3]
  exact jT_ok (p := 2) (by decide)
 rw [e2] at c2
 have c3 := qs4L (xs := [1, -24, 252]) (by decide) (by decide)
 have c4 := qs4L (xs := [1, 744, 196884]) (by decide) (by decide)
 have q1 := sameQ_p (s := 1) (t := 1) (k := 1) (m := qsL [1, -24, 252]) (sm4L (xs := [1, -24, 252]) (by decide)) (by decide) (by decide)
 have q2 := sameQ_p (s := -1) (t := -1) (k := 1) (m := qsL [1, 744, 196884]) (sm4L (xs := [1, 744, 196884]) (by decide)) (by decide) (by decide)
 rw [decide_eq_true ⟨rfl, rfl⟩] at q1 q2
 generalize hA : qsL [1, -24, 252] = A at *
 generalize hB : qsL [1, 744, 196884] = B at *
 refine pc_body1 true Tryz.func16 rfl rfl rfl (Nat.le_of_ble_eq_true rfl) CellT.tmp ?_
 refine goA ?_
 refine evG ggA (ss_call (InB_of rfl) rfl rfl c1) ?_
 refine goA ?_
 refine evG ggA (ss_call (InB_of rfl) rfl rfl c2) ?_
 refine goA ?_
 refine evG ggA (ss_bslice (InB_of rfl) (make_tab rfl) rfl rfl rfl rfl (ones_ok rfl) (Nat.le_of_ble_eq_true rfl)) ?_
 refine evG ggA (ss_call (InB_of rfl) rfl rfl c3) ?_
 refine goA ?_
 refine evG ggA (ss_call (InB_of rfl) rfl rfl q1) ?_
 refine goA ?_
 refine evG ggA (ss_bslice (InB_of rfl) (make_tab rfl) rfl rfl rfl rfl (ones_ok rfl) (Nat.le_of_ble_eq_true rfl)) ?_
 refine evG ggA (ss_call (InB_of rfl) rfl rfl c4) ?_
 refine goA ?_
 refine evG ggA (ss_call (InB_of rfl) rfl rfl q2) ?_
 refine goA ?_
 exact rfl
end Ab
