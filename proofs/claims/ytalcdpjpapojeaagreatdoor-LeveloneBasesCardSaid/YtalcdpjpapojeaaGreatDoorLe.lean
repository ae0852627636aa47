/- Delta, the invariant j and tau, of the program and of the document. -/
import Derived.Test.YtalcdpjpapojeaaGreatDoorLd
set_option linter.all false
namespace Ab
open Go Go.RowKit Go.Proofs Hp
set_option maxRecDepth 100000
theorem rcut_p {s p : Int} {es : List AV} {l : List Rat} {K : Nat} (h : IsL es K l) (hK : K ≤ 274877906944) (hv : Zap s es.length = true) (p0 : -100 ≤ p) (p1 : p ≤ 4611686018427387904) : PC Tryz.prog 110 [serA s es, iV p] (serE (cutR s l p)) := by
 have hle := h.get.1
 obtain ⟨a0, a1, a2⟩ := Za2.1 hv
 have cch := check_p (es := es) (s := s) oM oM oM
 rw [hv, if_pos rfl] at cch
 have hpr := rprec_p (es := es) a0 a1 a2
 have b0 : decide (p < -100) = false := decide_eq_false oM
 have e0 : cutR s l p = some (cutS s l p) := by
  unfold cutR
  rw [← hle, hv, decide_eq_true p0]
  rfl
 rw [e0]
 by_cases c1 : p ≤ s
 ·have b1 : decide (p ≤ s) = true := decide_eq_true c1
  have e1 : serE (some (cutS s l p)) = .tup [serA p [], iV 0] := by
   unfold cutS
   by_cases c2 : s + l.length ≤ p
   ·have hl0 : l = [] := List.length_eq_zero_iff.1 oM
    subst hl0
    have : p = s := by simp at c2; omega
    subst this
    rw [if_pos c2]
    unfold tdy
    show serE (some (p + ((0 : Nat) : Int), [])) = _
    rw [show p + ((0 : Nat) : Int) = p by omega]
    rfl
   ·rw [if_neg c2, if_pos c1]
    rfl
  rw [e1]
  have ce := empty_p p
  refine pb2 Tryz.func110 (Zac.agg Zaj) Zac.tmp ?_
  refine goA ?_
  refine clG cch ?_
  refine clG ce ?_
  exact rfl
 have b1 : decide (p ≤ s) = false := decide_eq_false c1
 by_cases c2 : s + l.length ≤ p
 ·have b2 : decide (p ≥ s + (es.length : Int)) = true := decide_eq_true oM
  have cr := Zey (s := s) h hK oM oM oM
  have e1 : nrm s l = some (cutS s l p) := by
   unfold cutS
   rw [if_pos c2, Zeo a0 a1 oM]
   rfl
  rw [e1] at cr
  rw [Zbm] at cr ⊢
  refine pb2 Tryz.func110 (Zac.agg Zaj) Zac.tmp ?_
  refine goA ?_
  refine clG cch ?_
  refine clG hpr ?_
  refine clG cr ?_
  exact rfl
 ·have b2 : decide (p ≥ s + (es.length : Int)) = false := decide_eq_false oM
  have cr := Zey (s := s) (h.take (p - s).toNat) hK oM oM (by rw [List.length_take]; omega)
  have e1 : nrm s (l.take (p - s).toNat) = some (cutS s l p) := by
   unfold cutS
   rw [if_neg c2, if_neg c1, Zeo a0 a1 (by rw [List.length_take]; omega)]
   rfl
  rw [e1] at cr
  rw [Zbm] at cr ⊢
  refine pb2 Tryz.func110 (Zac.agg Zaj) Zac.tmp ?_
  refine goA ?_
  refine clG cch ?_
  refine clG hpr ?_
  refine evG ggA (Zek (Zaa rfl) (Zag rfl) rfl (Zfo h) rfl oM oM) ?_
  refine goA ?_
  refine clG cr ?_
  exact rfl
theorem lnothing_p (p : Int) : PC Tryz.prog 61 [iV p] (serA p []) := by
 refine pb1 Tryz.func61 (Zac.agg Zaj) ?_
 refine goA ?_
 exact rfl
def insB (p : Int) : Bool := decide (p ≥ 0) && decide (p ≤ 1000)
theorem linside_p (p : Int) : PC Tryz.prog 31 [iV p] (bV (insB p)) := by
  unfold insB
  cases h1 : decide (p ≥ 0) with
  | false =>
    refine pb1 Tryz.func31 Zac.tmp ?_
    refine goA ?_
    exact rfl
  | true =>
    refine pb1 Tryz.func31 Zac.tmp ?_
    refine goA ?_
    exact rfl
theorem ins_t {p : Int} (h0 : 0 ≤ p) (h1 : p ≤ 1000) : insB p = true := by unfold insB; simp; omega
def delS (p : Int) : Int := if p < 2 then p else 1
def delL (p : Int) : List Rat := if p < 2 then [] else tk dV (p - 1).toNat
def delT (p : Int) : AV := if insB p then .tup [serA (delS p) ((delL p).map encQ), iV 0] else .tup [serA 0 [], iV 2]
theorem PV1 {N : Nat} (h : N ≤ 150) : PV 1 N = true := by unfold PV; simp; omega
theorem c24_L (N : Nat) : (List.range N).map (fun _ => encQ (24 : Rat)) = (List.replicate N (24 : Rat)).map encQ := by
 rw [List.map_replicate]
 exact (rep_range' N (encQ 24) (g := fun _ => encQ 24) (fun _ _ => rfl)).symm
theorem c24_ht (N : Nat) : ∀ q, q ∈ List.replicate N (24 : Rat) → Ht q 1 := fun q hq => by
 rw [(List.mem_replicate.1 hq).2]
 exact Zcq (c := 24) dC
theorem prod24 {N : Nat} (h : N ≤ 150) : prodR 1 (List.replicate N 24) = some (1, tk dV (N + 1)) := by
 unfold prodR
 rw [List.length_replicate, PV1 h, if_pos rfl, del_prc (Nat.le_refl _) h, dV_tk oM]
 exact nrm_tk dV_ne dC oM
set_option maxHeartbeats 4000000 in
theorem delta_p {p : Int} (h : p ≤ 152 ∨ 1000 < p) : PC Tryz.prog 27 [iV p] (delT p) := by
  have ci := linside_p p
  unfold delT
  cases h1 : insB p with
  | false =>
    rw [h1] at ci
    refine pb2 Tryz.func27 (Zac.agg Zaj) Zac.tmp ?_
    refine goA ?_
    refine clG ci ?_
    exact rfl
  | true =>
  rw [h1] at ci
  have hp : 0 ≤ p ∧ p ≤ 152 := by unfold insB at h1; simp at h1; omega
  unfold delS delL
  by_cases h2 : p < 2
  · have b2 : decide (p < 2) = true := decide_eq_true h2
    have cn := lnothing_p p
    rw [if_pos h2, if_pos h2]
    refine pb2 Tryz.func27 (Zac.agg Zaj) Zac.tmp ?_
    refine goA ?_
    refine clG ci ?_
    refine clG cn ?_
    exact rfl
  have b2 : decide (p < 2) = false := decide_eq_false h2
  rw [if_neg h2, if_neg h2]
  obtain ⟨N, rfl⟩ : ∃ N : Nat, p = (N : Int) + 2 := ⟨(p - 2).toNat, oM⟩
  rw [show ((N : Int) + 2 - 1).toNat = N + 1 by omega]
  have c24 := Zdh 24 dC dC
  rw [show ((24 : Int) : Rat) = 24 from rfl] at c24
  have cp := prod_p (h := 1) (es := (List.replicate N (24 : Rat)).map encQ) (c := List.replicate N 24) (K := 1) (P := 1) (Q := 2) (fun _ => ⟨Zbb (c24_ht N), by rw [List.length_replicate]; omega⟩) (by simp) dC dC (by simp; omega) dC dC dC
    (fun _ => by rw [List.length_replicate]; exact sgsD_ht oM) (fun _ m hm => by rw [List.length_replicate] at hm ⊢; exact prcD_ht hm oM)
  rw [prod24 oM] at cp
  have cp : PC Tryz.prog 66 [iV 1, .sl ((List.replicate N (24 : Rat)).map encQ)] (.tup [serA 1 ((tk dV (N + 1)).map encQ), iV 0]) := cp
  have hend : (List.range N).map (Zdr (fun _ => encQ (24 : Rat)) N) = (List.replicate N (24 : Rat)).map encQ := by rw [fill_end, c24_L]
  have h0 := fill_0 (fun _ => encQ (24 : Rat)) N
  refine pb2 Tryz.func27 (Zac.agg Zaj) Zac.tmp ?_
  refine goA ?_
  refine clG ci ?_
  refine evG ggA (Zdv 30 (e0 := rz) (Zaa rfl) (Zaf rfl) rfl rfl rfl oM oM oM oM rfl rfl rfl) ?_
  rw [show ((N : Int) + 2 - 2).toNat = N by omega, h0]
  refine runA ?_
  refine Zao ?_
  refine osA ?_
  refine T.seqE (mkS [(2, .ptr 2 0), (4, .own 30 N)] [(2, var0), (30, .lst 4 39 ((List.range N).map (Zdr (fun _ => encQ (24 : Rat)) N)))] 31 true) ?_ ?_
  · refine r1A ?_
    refine T.block ?_
    refine T.loop (fun z s1 => ∃ j : Nat, z = N - j ∧ j ≤ N ∧ s1 = mkS [(2, .ptr 2 0), (4, .own 30 N), (18, .v (iV N)), (19, .v (iV j))] [(2, var0), (30, .lst 4 39 ((List.range N).map (Zdr (fun _ => encQ (24 : Rat)) j)))] 31 true) N
      (s' := mkS [(2, .ptr 2 0), (4, .own 30 N), (18, .v (iV N)), (19, .v (iV (0 : Nat)))] [(2, var0), (30, .lst 4 39 ((List.range N).map (Zdr (fun _ => encQ (24 : Rat)) 0)))] 31 true) entA ⟨0, rfl, Nat.zero_le _, rfl⟩ ?_
    rintro _ _ ⟨j, rfl, hj, rfl⟩
    have hgl : ((List.range N).map (Zdr (fun _ => encQ (24 : Rat)) j)).length = N := by simp
    by_cases hlt : j < N
    · have hb : decide ((j : Int) < (N : Int)) = true := decide_eq_true oM
      have hs := fill_set (fun _ => encQ (24 : Rat)) N j
      generalize hG : (List.range N).map (Zdr (fun _ => encQ (24 : Rat)) j) = G at *
      refine goA ?_
      refine clA c24 ?_
      refine evG ggA (Zah (Zaa rfl) (Zag rfl) rfl rfl hgl rfl oM oM) ?_
      refine evG ggA (Zbd rfl (Zbp rfl) rfl rfl hgl oM rfl rfl (fun l e => by cases e) (List.all_eq_true.2 (Ze3 _))) ?_
      rw [show ((j : Int)).toNat = j by omega, hs]
      refine goA ?_
      exact Zab (k := N - (j + 1)) (s' := mkS [(2, .ptr 2 0), (4, .own 30 N), (18, .v (iV N)), (19, .v (iV ((j : Int) + 1)))] [(2, var0), (30, .lst 4 39 ((List.range N).map (Zdr (fun _ => encQ (24 : Rat)) (j + 1))))] 31 true) oM entA ⟨j + 1, rfl, oM, rfl⟩
    · obtain rfl : j = N := oM
      have hb : decide ((j : Int) < (j : Int)) = false := decide_eq_false oM
      refine goA ?_
      exact Zae (s' := mkS [(2, .ptr 2 0), (4, .own 30 j)] [(2, var0), (30, .lst 4 39 ((List.range j).map (Zdr (fun _ => encQ (24 : Rat)) j)))] 31 true) entA rfl
  rw [hend]
  have hl3 : ((List.replicate N (24 : Rat)).map encQ).length = N := by simp
  refine T.weak (s' := mkS [(2, .ptr 2 0), (4, .v (.sl ((List.replicate N (24 : Rat)).map encQ)))] [(2, var0)] 31 true) entA ?_
  refine goA ?_
  refine clG cp ?_
  exact rfl
theorem pw_hb : ((List.range 10).all fun e => (powL (eiL 4 40) (e : Int) 39).all (htB 9)) = true := by decide +kernel
theorem p4_h {e n : Nat} (he : e < 10) (hn : n < 40) : Ht (pq (eiV 4) e n) 9 := by
 have h := List.all_eq_true.1 pw_hb e (List.mem_range.2 he)
 have e1 : powL (eiL 4 40) (e : Int) 39 = tk (pq (eiV 4) e) 40 := powL_tk (f := eiV 4) (n := 40) (Zf4 rfl) dC e (m := 39) dC
 rw [e1] at h
 exact Zc3 h _ (List.mem_map.2 ⟨n, List.mem_range.2 hn, rfl⟩)
theorem pow4_lh {e p : Nat} (he : e < 10) (hp : p ≤ 40) : ∀ q, q ∈ tk (pq (eiV 4) e) p → Ht q 9 := Ze1 fun i hi => p4_h he oM
theorem drop_tk {f : Nat → Rat} {n : Nat} (h : f 0 ≠ 0) : (tk f n).drop (lead (tk f n)) = tk f n := by rw [Zeh h, List.drop_zero]
theorem Zgx {s : Int} {f : Nat → Rat} {n : Nat} (h0 : -1000 ≤ s) (h1 : s ≤ 1000) (h2 : n ≤ 1000) : InR s ((tk f n).map encQ).length := ⟨oM, oM, by simp; omega⟩
theorem e4pow_p {e p : Nat} (he : e < 10) (h1 : 1 ≤ p) (hp : p ≤ 40) : PC Tryz.prog 67 [serA 0 ((eiL 4 p).map encQ), iV e] (.tup [serA 0 ((tk (pq (eiV 4) e) p).map encQ), iV 0]) := by
 have c := spow_p (s := 0) (n := (e : Int)) (es := (eiL 4 p).map encQ) (l := eiL 4 p) (K := 4) (Q := 9) (fun _ => ⟨Zbb (eiL_ht rfl hp), by simp [eiL]; omega⟩) (by simp) (Zgx dC dC oM) dC dC oM oM
  (fun _ _ _ m hm => by
   rw [show eiL 4 p = tk (eiV 4) p from rfl, drop_tk (Zf4 rfl)] at hm ⊢
   rw [powL_tk (Zf4 rfl) h1 e (by rw [tk_len] at hm; exact hm)]
   exact pow4_lh he (by rw [tk_len] at hm; omega))
 rw [show eiL 4 p = tk (eiV 4) p from rfl, powT_tk (Zf4 rfl) h1 oM dC oM oM oM] at c
 rw [show (e : Int) * 0 = 0 by omega] at c
 exact c
def jT (p : Int) : AV := if decide (p < -100) || decide (p > 998) then .tup [serA 0 [], iV 2] else if p < 0 then .tup [serA p [], iV 0] else .tup [serA (-1) ((tk jV (p.toNat + 1)).map encQ), iV 0]
theorem ivs_h {n m : Nat} (hn : n ≤ m) (hm : n ≤ 40) : ∀ q, q ∈ ivs (tk dV m) n → Ht q 3 := by
 rw [ivs_tk dV hn]
 exact Ze1 fun i hi => ivD_h oM
theorem ivf_ne : ivf dV 0 ≠ 0 := by rw [ivf_0]; exact inv_ne dV_ne
theorem jmul {p : Nat} (hp : p ≤ 38) : mulR 0 (tk (pq (eiV 4) 3) (p + 1)) (-1) (tk (ivf dV) (p + 1)) = some (-1, tk jV (p + 1)) := by
 have h := mulR_tk (s := 0) (t := -1) (f := pq (eiV 4) 3) (g := ivf dV) (n := p + 1) (m := p + 1) (pq_ne (Zf4 rfl) 3) ivf_ne dC dC oM oM dC oM
 rw [Nat.min_self] at h
 exact h
theorem jT_ok {p : Nat} (hp : p ≤ 38) : jT (p : Int) = .tup [serA (-1) ((tk jV (p + 1)).map encQ), iV 0] := by
 unfold jT
 rw [if_neg (by simp; omega), if_neg oM, Int.toNat_natCast]
theorem delT_ok {p : Nat} (hp : p ≤ 38) : delT ((p : Int) + 2) = .tup [serA 1 ((tk dV (p + 1)).map encQ), iV 0] := by
 unfold delT delS delL
 rw [ins_t oM oM, if_pos rfl, if_neg oM, if_neg oM, show ((p : Int) + 2 - 1).toNat = p + 1 by omega]
set_option maxHeartbeats 4000000 in
theorem j_p {p : Int} (h : p ≤ 38 ∨ 998 < p) : PC Tryz.prog 28 [iV p] (jT p) := by
  cases h1 : decide (p < -100) with
  | true =>
    have e : jT p = .tup [serA 0 [], iV 2] := by unfold jT; rw [h1]; rfl
    rw [e]
    refine pb2 Tryz.func28 (Zac.agg Zaj) Zac.tmp ?_
    refine goA ?_
    exact rfl
  | false =>
  cases h2 : decide (p > 998) with
  | true =>
    have e : jT p = .tup [serA 0 [], iV 2] := by unfold jT; rw [h1, h2]; rfl
    rw [e]
    refine pb2 Tryz.func28 (Zac.agg Zaj) Zac.tmp ?_
    refine goA ?_
    exact rfl
  | false =>
  have p1 := of_decide_eq_false h1
  have p2 := of_decide_eq_false h2
  cases h3 : decide (p < 0) with
  | true =>
    have e : jT p = .tup [serA p [], iV 0] := by unfold jT; rw [h1, h2, if_neg (by simp), if_pos (of_decide_eq_true h3)]
    rw [e]
    have cn := lnothing_p p
    refine pb2 Tryz.func28 (Zac.agg Zaj) Zac.tmp ?_
    refine goA ?_
    refine clG cn ?_
    exact rfl
  | false =>
  have p3 := of_decide_eq_false h3
  obtain ⟨p, rfl⟩ : ∃ n : Nat, p = n := ⟨p.toNat, oM⟩
  have hp : p ≤ 38 := oM
  rw [jT_ok hp]
  have c1 := enorm_p bq_ok (k := 4) (p := p + 1) rfl oM
  have c2 := e4pow_p (e := 3) (p := p + 1) dC oM oM
  have c3 := delta_p (p := (p : Int) + 2) oM
  rw [delT_ok hp] at c3
  have hinv : invT 1 (tk dV (p + 1)) = (-1, tk (ivf dV) (p + 1), 0) := invT_tk dV_ne oM dC oM dC oM
  have c4 := quoV_p (s := 0) (t := 1) (es := (tk (pq (eiV 4) 3) (p + 1)).map encQ) (fs := (tk dV (p + 1)).map encQ) (l := tk (pq (eiV 4) 3) (p + 1)) (m := tk dV (p + 1)) (K := 9) (Q := 9) dC dC
    (fun _ k hk q hq => by
      rw [drop_tk dV_ne] at hk hq
      rw [tk_len] at hk
      exact (ivs_h hk oM q hq).mono dC)
    (fun _ => by
      rw [hinv]
      exact ⟨Zcs (s := -1) (f := ivf dV) (n := p + 1) dC oM, Ze1 fun i hi => (ivD_h oM).mono dC, by simp; omega⟩)
    (Nat.le_refl _) (fun _ => ⟨Zbb (pow4_lh dC oM), by simp; omega⟩) (fun _ => ⟨Zbb (Ze1 fun i _ => (dV_ht i).mono dC), by simp; omega⟩) (by simp) (by simp) (Zgx dC dC oM) (Zgx dC dC oM)
  have hq : quoT 0 (tk (pq (eiV 4) 3) (p + 1)) 1 (tk dV (p + 1)) = (-1, tk jV (p + 1), 0) := by
    unfold quoT
    rw [Zcs dC oM, hinv, if_pos rfl, if_pos rfl]
    simp only []
    rw [jmul hp]
    rfl
  rw [hq] at c4
  have c4 : PC Tryz.prog 68 [serA 0 ((tk (pq (eiV 4) 3) (p + 1)).map encQ), serA 1 ((tk dV (p + 1)).map encQ)] (.tup [serA (-1) ((tk jV (p + 1)).map encQ), iV 0]) := c4
  generalize tk jV (p + 1) = J at *
  generalize tk dV (p + 1) = D at *
  generalize tk (pq (eiV 4) 3) (p + 1) = W at *
  rw [show ((p + 1 : Nat) : Int) = (p : Int) + 1 by omega] at c1
  have c1 : PC Tryz.prog 49 [iV 4, iV ((p : Int) + 1)] (.tup [serA 0 ((eiL 4 (p + 1)).map encQ), iV 0]) := c1
  have c2 : PC Tryz.prog 67 [serA 0 ((eiL 4 (p + 1)).map encQ), iV 3] (.tup [serA 0 (W.map encQ), iV 0]) := c2
  generalize eiL 4 (p + 1) = E at *
  refine pb2 Tryz.func28 (Zac.agg Zaj) Zac.tmp ?_
  refine goA ?_
  refine clG c1 ?_
  refine clG c2 ?_
  refine clG c3 ?_
  refine clG c4 ?_
  exact rfl
theorem delT_tau {m : Nat} (hm : m ≤ 149) : delT ((m : Int) + 1 + 1) = .tup [serA 1 ((tk dV (m + 1)).map encQ), iV 0] := by
 unfold delT delS delL
 rw [ins_t oM oM, if_pos rfl, if_neg oM, if_neg oM, show ((m : Int) + 1 + 1 - 1).toNat = m + 1 by omega]
def dimV (k : Int) : Int := if (decide (k < 0) || (k.tmod 2 != 0)) = true then 0 else if (k.tmod 12 == 2) = true then k.tdiv 12 else k.tdiv 12 + 1
theorem td12 (k : Int) : (k.tdiv 12).natAbs ≤ k.natAbs / 12 := by rw [Int.natAbs_tdiv]; exact Nat.le_refl _
theorem dim_p {k : Int} (k0 : -9223372036854775808 ≤ k) (k1 : k ≤ 9223372036854775807) : PC Tryz.prog 37 [iV k] (iV (dimV k)) := by
  have ht := td12 k
  unfold dimV
  cases h1 : decide (k < 0) with
  | true =>
    rw [if_pos (show (true || (k.tmod 2 != 0)) = true from rfl)]
    refine pb1 Tryz.func37 Zac.tmp ?_
    refine goA ?_
    exact rfl
  | false =>
  cases h2 : (k.tmod 2 != 0) with
  | true =>
    rw [if_pos (show (false || true) = true from rfl)]
    refine pb1 Tryz.func37 Zac.tmp ?_
    refine goA ?_
    refine remA ?_
    refine goA ?_
    exact rfl
  | false =>
  rw [if_neg dC]
  cases h3 : (k.tmod 12 == 2) with
  | true =>
    rw [if_pos rfl]
    refine pb1 Tryz.func37 Zac.tmp ?_
    refine goA ?_
    refine remA ?_
    refine goA ?_
    refine remA ?_
    refine goA ?_
    refine evG ggA (Zbx (Zaa rfl) rfl rfl oM (w64 oM oM)) ?_
    refine goA ?_
    exact rfl
  | false =>
    rw [if_neg dC]
    refine pb1 Tryz.func37 Zac.tmp ?_
    refine goA ?_
    refine remA ?_
    refine goA ?_
    refine remA ?_
    refine goA ?_
    refine evG ggA (Zbx (Zaa rfl) rfl rfl oM (w64 oM oM)) ?_
    refine goA ?_
    exact rfl
theorem rdim_p {k : Int} (k0 : -9223372036854775808 ≤ k) (k1 : k ≤ 9223372036854775807) : PC Tryz.prog 19 [iV k] (iV (dimV k)) := by
  have ht := td12 k
  unfold dimV
  cases h1 : decide (k < 0) with
  | true =>
    rw [if_pos (show (true || (k.tmod 2 != 0)) = true from rfl)]
    refine pb1 Tryz.func19 Zac.tmp ?_
    refine goA ?_
    exact rfl
  | false =>
  cases h2 : (k.tmod 2 != 0) with
  | true =>
    rw [if_pos (show (false || true) = true from rfl)]
    refine pb1 Tryz.func19 Zac.tmp ?_
    refine goA ?_
    refine remA ?_
    refine goA ?_
    exact rfl
  | false =>
  rw [if_neg dC]
  cases h3 : (k.tmod 12 == 2) with
  | true =>
    rw [if_pos rfl]
    refine pb1 Tryz.func19 Zac.tmp ?_
    refine goA ?_
    refine remA ?_
    refine goA ?_
    refine remA ?_
    refine goA ?_
    refine evG ggA (Zbx (Zaa rfl) rfl rfl oM (w64 oM oM)) ?_
    refine goA ?_
    exact rfl
  | false =>
    rw [if_neg dC]
    refine pb1 Tryz.func19 Zac.tmp ?_
    refine goA ?_
    refine remA ?_
    refine goA ?_
    refine remA ?_
    refine goA ?_
    refine evG ggA (Zbx (Zaa rfl) rfl rfl oM (w64 oM oM)) ?_
    refine goA ?_
    exact rfl
def l39L (p m : Int) : Bool := decide (p > m) && decide (p ≤ 1000)
theorem l39long_p (p m : Int) : PC Tryz.prog 6 [iV p, iV m] (bV (l39L p m)) := by
  unfold l39L
  cases h1 : decide (p > m) with
  | false =>
    refine pb1 Tryz.func6 Zac.tmp ?_
    refine goA ?_
    exact rfl
  | true =>
    refine pb1 Tryz.func6 Zac.tmp ?_
    refine goA ?_
    exact rfl
theorem dV3 : tk dV 3 = qsL [1, -24, 252] := by
 have : dL.take 3 = qsL [1, -24, 252] := by decide +kernel
 rw [← dV_tk dC]
 exact this
theorem jV3 : tk jV 3 = qsL [1, 744, 196884] := by
 have : jL.take 3 = qsL [1, 744, 196884] := by decide +kernel
 rw [← this, ← jV_eq, tk_take _ dC]
theorem int4L {xs : List Int} (h : (xs.all fun x => decide (x.natAbs < 4000000000)) = true) : ∀ x, x ∈ xs → x.natAbs < 4000000000 := fun x hx => by
 have := List.all_eq_true.1 h x hx
 simpa using this
theorem sm4L {xs : List Int} (h : (xs.all fun x => decide (x.natAbs < 4000000000)) = true) : ∀ q, q ∈ qsL xs → Ht q 1 := small4 fun x hx => by have := int4L h x hx; omega
theorem qs4L {xs : List Int} (h : (xs.all fun x => decide (x.natAbs < 4000000000)) = true) (hl : xs.length ≤ 100000) : PC Tryz.prog 29 [.sl (xs.map iv)] (.sl ((qsL xs).map encQ)) := qs_p xs (fun x hx => by have := int4L h x hx; omega) hl
theorem l39awake_p : PC Tryz.prog 7 [] (bV true) := by
 have c1 := delta_p (p := 4) dC
 have e1 : delT 4 = .tup [serA 1 ((qsL [1, -24, 252]).map encQ), iV 0] := by
  rw [← dV3]
  exact delT_tau (m := 2) dC
 rw [e1] at c1
 have c2 := j_p (p := 2) dC
 have e2 : jT 2 = .tup [serA (-1) ((qsL [1, 744, 196884]).map encQ), iV 0] := by
  rw [← jV3]
  exact jT_ok (p := 2) dC
 rw [e2] at c2
 have c3 := qs4L (xs := [1, -24, 252]) dC dC
 have c4 := qs4L (xs := [1, 744, 196884]) dC dC
 have q1 := sameQ_p (s := 1) (t := 1) (k := 1) (m := qsL [1, -24, 252]) (sm4L (xs := [1, -24, 252]) dC) dC dC
 have q2 := sameQ_p (s := -1) (t := -1) (k := 1) (m := qsL [1, 744, 196884]) (sm4L (xs := [1, 744, 196884]) dC) dC dC
 rw [decide_eq_true ⟨rfl, rfl⟩] at q1 q2
 generalize hA : qsL [1, -24, 252] = A at *
 generalize hB : qsL [1, 744, 196884] = B at *
 refine pb1 Tryz.func7 Zac.tmp ?_
 refine goA ?_
 refine clG c1 ?_
 refine clG c2 ?_
 refine evG ggA (Zaw (Zaa rfl) (Zaf rfl) rfl rfl rfl rfl (Zee rfl) (Nat.le_of_ble_eq_true rfl)) ?_
 refine clG c3 ?_
 refine clG q1 ?_
 refine evG ggA (Zaw (Zaa rfl) (Zaf rfl) rfl rfl rfl rfl (Zee rfl) (Nat.le_of_ble_eq_true rfl)) ?_
 refine clG c4 ?_
 refine clG q2 ?_
 exact rfl
theorem sameIz_p {z : Int} {k : Nat} (h : z.natAbs < pw k) (hk : k ≤ 1000) : PC Tryz.prog 11 [encI z, encI z] (bV true) := by
 have c := sameInt_p (decide (z < 0), dgs z.natAbs) (decide (z < 0), dgs z.natAbs) (by
  have := Zfp h
  show (dgs z.natAbs).length ≤ _
  omega)
 rw [decide_eq_true rfl] at c
 exact c
end Ab
