/- Delta, the invariant j and tau, of the program and of the document: walked. The invariant j and tau, of the program and of the document: walked; the example of the chapter. Tau and the dimension, of the program and of the document; the example of the chapter; the statement LeveloneDelta: walked. -/
import Derived.Test.YtockbmflgmnbaaaGreatDoorLd
set_option linter.all false
namespace Ab
open Go Go.RowKit Go.Proofs Hp
set_option maxRecDepth 100000
theorem rcut_p {s p : Int} {es : List AV} {l : List Rat} {K : Nat} (h : IsL es K l) (hK : K ≤ 274877906944) (hv : Zai s es.length = true) (p0 : -100 ≤ p) (p1 : p ≤ 4611686018427387904) : PC Tryz.prog 38 [serA s es, iV p] (serE (cutR s l p)) := by
 have hle := h.get.1
 obtain ⟨a0, a1, a2⟩ := Zan.1 hv
 have cch := Zfu (es := es) (s := s) (by omega) (by omega) (by omega)
 rw [hv, if_pos rfl] at cch
 have hpr := Zd5 (es := es) a0 a1 a2
 have b0 : decide (p < -100) = false := decide_eq_false (by omega)
 have e0 : cutR s l p = some (cutS s l p) := by
  unfold cutR
  rw [← hle, hv, decide_eq_true p0]
  rfl
 rw [e0]
 by_cases c1 : p ≤ s
 ·have b1 : decide (p ≤ s) = true := decide_eq_true c1
  have e1 : serE (some (cutS s l p)) = .tup [serA p [], iV 0] := by
   unfold cutS
   by_cases c2 : s + l.length ≤ p
   ·have hl0 : l = [] := List.length_eq_zero_iff.1 (by omega)
    subst hl0
    have : p = s := by simp at c2; omega
    subst this
    rw [if_pos c2]
    unfold tdy
    show serE (some (p + ((0 : Nat) : Int), [])) = _
    rw [show p + ((0 : Nat) : Int) = p by omega]
    rfl
   ·rw [if_neg c2, if_pos c1]
    rfl
  rw [e1]
  have ce := empty_p p
  refine pb2 Tryz.func38 (Zab.agg Zaf) Zab.tmp ?_
  refine goA ?_
  refine clG cch ?_
  refine clG ce ?_
  exact rfl
 have b1 : decide (p ≤ s) = false := decide_eq_false c1
 by_cases c2 : s + l.length ≤ p
 ·have b2 : decide (p ≥ s + (es.length : Int)) = true := decide_eq_true (by omega)
  have cr := Zcy (s := s) h hK (by omega) (by omega) (by omega)
  have e1 : nrm s l = some (cutS s l p) := by
   unfold cutS
   rw [if_pos c2, Zd9 a0 a1 (by omega)]
   rfl
  rw [e1] at cr
  rw [Zbc] at cr ⊢
  refine pb2 Tryz.func38 (Zab.agg Zaf) Zab.tmp ?_
  refine goA ?_
  refine clG cch ?_
  refine clG hpr ?_
  refine clG cr ?_
  exact rfl
 ·have b2 : decide (p ≥ s + (es.length : Int)) = false := decide_eq_false (by omega)
  have cr := Zcy (s := s) (h.take (p - s).toNat) hK (by omega) (by omega) (by rw [List.length_take]; omega)
  have e1 : nrm s (l.take (p - s).toNat) = some (cutS s l p) := by
   unfold cutS
   rw [if_neg c2, if_neg c1, Zd9 a0 a1 (by rw [List.length_take]; omega)]
   rfl
  rw [e1] at cr
  rw [Zbc] at cr ⊢
  refine pb2 Tryz.func38 (Zab.agg Zaf) Zab.tmp ?_
  refine goA ?_
  refine clG cch ?_
  refine clG hpr ?_
  refine evG ggA (Zc5 (Zaa rfl) (Zat rfl) rfl (Zev h) rfl (by omega) (by omega)) ?_
  refine goA ?_
  refine clG cr ?_
  exact rfl
theorem lnothing_p (p : Int) : PC Tryz.prog 31 [iV p] (serA p []) := by
 refine pb1 Tryz.func31 (Zab.agg Zaf) ?_
 refine goA ?_
 exact rfl
def insB (p : Int) : Bool := decide (p ≥ 0) && decide (p ≤ 1000)
theorem linside_p (p : Int) : PC Tryz.prog 43 [iV p] (bV (insB p)) := by
  unfold insB
  cases h1 : decide (p ≥ 0) with
  | false =>
    refine pb1 Tryz.func43 Zab.tmp ?_
    refine goA ?_
    exact rfl
  | true =>
    refine pb1 Tryz.func43 Zab.tmp ?_
    refine goA ?_
    exact rfl
theorem ins_t {p : Int} (h0 : 0 ≤ p) (h1 : p ≤ 1000) : insB p = true := by unfold insB; simp; omega
def delS (p : Int) : Int := if p < 2 then p else 1
def delL (p : Int) : List Rat := if p < 2 then [] else tk dV (p - 1).toNat
def delT (p : Int) : AV := if insB p then .tup [serA (delS p) ((delL p).map encQ), iV 0] else .tup [serA 0 [], iV 2]
theorem PV1 {N : Nat} (h : N ≤ 150) : PV 1 N = true := by unfold PV; simp; omega
theorem c24_L (N : Nat) : (List.range N).map (fun _ => encQ (24 : Rat)) = (List.replicate N (24 : Rat)).map encQ := by
 rw [List.map_replicate]
 exact (rep_range' N (encQ 24) (g := fun _ => encQ 24) (fun _ _ => rfl)).symm
theorem c24_ht (N : Nat) : ∀ q, q ∈ List.replicate N (24 : Rat) → Ht q 1 := fun q hq => by
 rw [(List.mem_replicate.1 hq).2]
 exact Zcb (c := 24) (by decide)
theorem prod24 {N : Nat} (h : N ≤ 150) : prodR 1 (List.replicate N 24) = some (1, tk dV (N + 1)) := by
 unfold prodR
 rw [List.length_replicate, PV1 h, if_pos rfl, del_prc (Nat.le_refl _) h, dV_tk (by omega)]
 exact nrm_tk dV_ne (by decide) (by omega)
set_option maxHeartbeats 4000000 in
theorem delta_p {p : Int} (h : p ≤ 152 ∨ 1000 < p) : PC Tryz.prog 17 [iV p] (delT p) := by
  have ci := linside_p p
  unfold delT
  cases h1 : insB p with
  | false =>
    rw [h1] at ci
    refine pb2 Tryz.func17 (Zab.agg Zaf) Zab.tmp ?_
    refine goA ?_
    refine clG ci ?_
    exact rfl
  | true =>
  rw [h1] at ci
  have hp : 0 ≤ p ∧ p ≤ 152 := by unfold insB at h1; simp at h1; omega
  unfold delS delL
  by_cases h2 : p < 2
  · have b2 : decide (p < 2) = true := decide_eq_true h2
    have cn := lnothing_p p
    rw [if_pos h2, if_pos h2]
    refine pb2 Tryz.func17 (Zab.agg Zaf) Zab.tmp ?_
    refine goA ?_
    refine clG ci ?_
    refine clG cn ?_
    exact rfl
  have b2 : decide (p < 2) = false := decide_eq_false h2
  rw [if_neg h2, if_neg h2]
  obtain ⟨N, rfl⟩ : ∃ N : Nat, p = (N : Int) + 2 := ⟨(p - 2).toNat, by omega⟩
  rw [show ((N : Int) + 2 - 1).toNat = N + 1 by omega]
  have c24 := Zdp 24 (by decide) (by decide)
  rw [show ((24 : Int) : Rat) = 24 from rfl] at c24
  have cp := prod_p (h := 1) (es := (List.replicate N (24 : Rat)).map encQ) (c := List.replicate N 24) (K := 1) (P := 1) (Q := 2) (fun _ => ⟨Zau (c24_ht N), by rw [List.length_replicate]; omega⟩) (by simp) (by decide) (by decide) (by simp; omega) (by decide) (by decide) (by decide)
    (fun _ => by rw [List.length_replicate]; exact sgsD_ht (by omega)) (fun _ m hm => by rw [List.length_replicate] at hm ⊢; exact prcD_ht hm (by omega))
  rw [prod24 (by omega)] at cp
  have cp : PC Tryz.prog 44 [iV 1, .sl ((List.replicate N (24 : Rat)).map encQ)] (.tup [serA 1 ((tk dV (N + 1)).map encQ), iV 0]) := cp
  have hend : (List.range N).map (Zd1 (fun _ => encQ (24 : Rat)) N) = (List.replicate N (24 : Rat)).map encQ := by rw [fill_end, c24_L]
  have h0 := fill_0 (fun _ => encQ (24 : Rat)) N
  refine pb2 Tryz.func17 (Zab.agg Zaf) Zab.tmp ?_
  refine goA ?_
  refine clG ci ?_
  refine evG ggA (Zdo 30 (e0 := rz) (Zaa rfl) (Zak rfl) rfl rfl rfl (by omega) (by omega) (by omega) (by omega) rfl rfl rfl) ?_
  rw [show ((N : Int) + 2 - 2).toNat = N by omega, h0]
  refine runA ?_
  refine Zao ?_
  refine osA ?_
  refine T.seqE (mkS [(2, .ptr 2 0), (4, .own 30 N)] [(2, var0), (30, .lst 4 49 ((List.range N).map (Zd1 (fun _ => encQ (24 : Rat)) N)))] 31 true) ?_ ?_
  · refine r1A ?_
    refine T.block ?_
    refine T.loop (fun z s1 => ∃ j : Nat, z = N - j ∧ j ≤ N ∧ s1 = mkS [(2, .ptr 2 0), (4, .own 30 N), (18, .v (iV N)), (19, .v (iV j))] [(2, var0), (30, .lst 4 49 ((List.range N).map (Zd1 (fun _ => encQ (24 : Rat)) j)))] 31 true) N
      (s' := mkS [(2, .ptr 2 0), (4, .own 30 N), (18, .v (iV N)), (19, .v (iV (0 : Nat)))] [(2, var0), (30, .lst 4 49 ((List.range N).map (Zd1 (fun _ => encQ (24 : Rat)) 0)))] 31 true) entA ⟨0, rfl, Nat.zero_le _, rfl⟩ ?_
    rintro _ _ ⟨j, rfl, hj, rfl⟩
    have hgl : ((List.range N).map (Zd1 (fun _ => encQ (24 : Rat)) j)).length = N := by simp
    by_cases hlt : j < N
    · have hb : decide ((j : Int) < (N : Int)) = true := decide_eq_true (by omega)
      have hs := fill_set (fun _ => encQ (24 : Rat)) N j
      generalize hG : (List.range N).map (Zd1 (fun _ => encQ (24 : Rat)) j) = G at *
      refine goA ?_
      refine clA c24 ?_
      refine evG ggA (Zap (Zaa rfl) (Zat rfl) rfl rfl hgl rfl (by omega) (by omega)) ?_
      refine evG ggA (Zba rfl (Zbu rfl) rfl rfl hgl (by omega) rfl rfl (fun l e => by cases e) (List.all_eq_true.2 (Zds _))) ?_
      rw [show ((j : Int)).toNat = j by omega, hs]
      refine goA ?_
      exact Zac (k := N - (j + 1)) (s' := mkS [(2, .ptr 2 0), (4, .own 30 N), (18, .v (iV N)), (19, .v (iV ((j : Int) + 1)))] [(2, var0), (30, .lst 4 49 ((List.range N).map (Zd1 (fun _ => encQ (24 : Rat)) (j + 1))))] 31 true) (by omega) entA ⟨j + 1, rfl, by omega, rfl⟩
    · obtain rfl : j = N := by omega
      have hb : decide ((j : Int) < (j : Int)) = false := decide_eq_false (by omega)
      refine goA ?_
      exact Zae (s' := mkS [(2, .ptr 2 0), (4, .own 30 j)] [(2, var0), (30, .lst 4 49 ((List.range j).map (Zd1 (fun _ => encQ (24 : Rat)) j)))] 31 true) entA rfl
  rw [hend]
  have hl3 : ((List.replicate N (24 : Rat)).map encQ).length = N := by simp
  refine T.weak (s' := mkS [(2, .ptr 2 0), (4, .v (.sl ((List.replicate N (24 : Rat)).map encQ)))] [(2, var0)] 31 true) entA ?_
  refine goA ?_
  refine clG cp ?_
  exact rfl
set_option maxHeartbeats 4000000 in
theorem rdelta_p {p : Int} (h : p ≤ 152 ∨ 1000 < p) : PC Tryz.prog 84 [iV p] (delT p) := by
  unfold delT insB
  cases h1 : decide (p ≥ 0) with
  | false =>
    have hb : decide (p < 0) = true := decide_eq_true (by have := of_decide_eq_false h1; omega)
    refine pb2 Tryz.func84 (Zab.agg Zaf) Zab.tmp ?_
    refine goA ?_
    exact rfl
  | true =>
  have p0 := of_decide_eq_true h1
  have hb : decide (p < 0) = false := decide_eq_false (by omega)
  cases h3 : decide (p ≤ 1000) with
  | false =>
    have hb2 : decide (p > 1000) = true := decide_eq_true (by have := of_decide_eq_false h3; omega)
    refine pb2 Tryz.func84 (Zab.agg Zaf) Zab.tmp ?_
    refine goA ?_
    exact rfl
  | true =>
  have p1 := of_decide_eq_true h3
  have hb2 : decide (p > 1000) = false := decide_eq_false (by omega)
  unfold delS delL
  rw [if_pos (show (true && true) = true from rfl)]
  by_cases h2 : p < 2
  · have b2 : decide (p < 2) = true := decide_eq_true h2
    have cn := empty_p p
    rw [if_pos h2, if_pos h2]
    refine pb2 Tryz.func84 (Zab.agg Zaf) Zab.tmp ?_
    refine goA ?_
    refine clG cn ?_
    exact rfl
  have b2 : decide (p < 2) = false := decide_eq_false h2
  rw [if_neg h2, if_neg h2]
  obtain ⟨N, rfl⟩ : ∃ N : Nat, p = (N : Int) + 2 := ⟨(p - 2).toNat, by omega⟩
  rw [show ((N : Int) + 2 - 1).toNat = N + 1 by omega]
  have c24 := q_p 24 (by decide) (by decide)
  rw [show ((24 : Int) : Rat) = 24 from rfl] at c24
  have cp := rprod_p (h := 1) (es := (List.replicate N (24 : Rat)).map encQ) (c := List.replicate N 24) (K := 1) (P := 1) (Q := 2) (fun _ => ⟨Zau (c24_ht N), by rw [List.length_replicate]; omega⟩) (by simp) (by decide) (by decide) (by simp; omega) (by decide) (by decide) (by decide)
    (fun _ => by rw [List.length_replicate]; exact sgsD_ht (by omega)) (fun _ m hm => by rw [List.length_replicate] at hm ⊢; exact prcD_ht hm (by omega))
  rw [prod24 (by omega)] at cp
  have cp : PC Tryz.prog 104 [iV 1, .sl ((List.replicate N (24 : Rat)).map encQ)] (.tup [serA 1 ((tk dV (N + 1)).map encQ), iV 0]) := cp
  refine pb2 Tryz.func84 (Zab.agg Zaf) Zab.tmp ?_
  refine r1A ?_
  refine T.seqE (mkS [(0, .v (iV ((N : Int) + 2))), (2, .ptr 2 0)] [(2, var0)] 31 true) ?_ ?_
  · refine goA ?_
    exact midE
  refine T.seqE (mkS [(0, .v (iV ((N : Int) + 2))), (2, .ptr 2 0)] [(2, var0)] 31 true) ?_ ?_
  · refine goA ?_
    exact midE
  refine r1A ?_
  refine T.seqE (mkS [(2, .ptr 2 0), (4, .v (.sl ((List.replicate N (24 : Rat)).map encQ)))] [(2, var0)] 31 true) ?_ ?_
  · refine r1A ?_
    refine T.block ?_
    refine T.loop (fun z s1 => ∃ j : Nat, z = N - j ∧ j ≤ N ∧ s1 = mkS [(0, .v (iV ((N : Int) + 2))), (2, .ptr 2 0), (4, .own 100 j), (5, .v (iV ((j : Int) + 1)))] [(2, var0), (100, .lst 4 49 ((List.replicate j (24 : Rat)).map encQ))] 31 true) N
      (s' := mkS [(0, .v (iV ((N : Int) + 2))), (2, .ptr 2 0), (4, .own 100 0), (5, .v (iV 1))] [(2, var0), (100, .lst 4 49 [])] 31 true) entA ⟨0, rfl, Nat.zero_le _, rfl⟩ ?_
    rintro _ _ ⟨j, rfl, hj, rfl⟩
    have hlen : (List.replicate j (24 : Rat)).length = j := List.length_replicate
    by_cases hlt : j < N
    · have hb3 : decide ((j : Int) + 1 < (N : Int) + 2 - 1) = true := decide_eq_true (by omega)
      refine goA ?_
      refine clA c24 ?_
      refine appA ?_
      rw [show List.replicate j (24 : Rat) ++ [24] = List.replicate (j + 1) 24 from (List.replicate_succ' ..).symm]
      refine goA ?_
      exact Zac (k := N - (j + 1)) (s' := mkS [(0, .v (iV ((N : Int) + 2))), (2, .ptr 2 0), (4, .own 100 (j + 1)), (5, .v (iV ((j : Int) + 1 + 1)))] [(2, var0), (100, .lst 4 49 ((List.replicate (j + 1) (24 : Rat)).map encQ))] 31 true) (by omega) entA ⟨j + 1, rfl, by omega, rfl⟩
    · obtain rfl : j = N := by omega
      have hb3 : decide ((j : Int) + 1 < (j : Int) + 2 - 1) = false := decide_eq_false (by omega)
      have hl2 : ((List.replicate j (24 : Rat)).map encQ).length = j := by simp
      refine goA ?_
      exact Zae (s' := mkS [(2, .ptr 2 0), (4, .v (.sl ((List.replicate j (24 : Rat)).map encQ)))] [(2, var0)] 31 true) entA rfl
  refine goA ?_
  refine clG cp ?_
  exact rfl
end Ab
namespace Ab
open Go Go.RowKit Go.Proofs Hp
set_option maxRecDepth 100000
theorem pw_hb : ((List.range 10).all fun e => (powL (eiL 4 40) (e : Int) 39).all (htB 9)) = true := by decide +kernel
theorem p4_h {e n : Nat} (he : e < 10) (hn : n < 40) : Ht (pq (eiV 4) e n) 9 := by
 have h := List.all_eq_true.1 pw_hb e (List.mem_range.2 he)
 have e1 : powL (eiL 4 40) (e : Int) 39 = tk (pq (eiV 4) e) 40 := Zgd (f := eiV 4) (n := 40) (Zfs rfl) (by decide) e (m := 39) (by decide)
 rw [e1] at h
 exact Zeo h _ (List.mem_map.2 ⟨n, List.mem_range.2 hn, rfl⟩)
theorem pow4_lh {e p : Nat} (he : e < 10) (hp : p ≤ 40) : ∀ q, q ∈ tk (pq (eiV 4) e) p → Ht q 9 := Zee fun i hi => p4_h he (by omega)
theorem drop_tk {f : Nat → Rat} {n : Nat} (h : f 0 ≠ 0) : (tk f n).drop (lead (tk f n)) = tk f n := by rw [Zem h, List.drop_zero]
theorem Zeb {s : Int} {f : Nat → Rat} {n : Nat} (h0 : -1000 ≤ s) (h1 : s ≤ 1000) (h2 : n ≤ 1000) : InR s ((tk f n).map encQ).length := ⟨by omega, by omega, by simp; omega⟩
theorem e4pow_p {e p : Nat} (he : e < 10) (h1 : 1 ≤ p) (hp : p ≤ 40) : PC Tryz.prog 46 [serA 0 ((eiL 4 p).map encQ), iV e] (.tup [serA 0 ((tk (pq (eiV 4) e) p).map encQ), iV 0]) := by
 have c := spow_p (s := 0) (n := (e : Int)) (es := (eiL 4 p).map encQ) (l := eiL 4 p) (K := 4) (Q := 9) (fun _ => ⟨Zau (eiL_ht rfl hp), by simp [eiL]; omega⟩) (by simp) (Zeb (by decide) (by decide) (by omega)) (by decide) (by decide) (by omega) (by omega)
  (fun _ _ _ m hm => by
   rw [show eiL 4 p = tk (eiV 4) p from rfl, drop_tk (Zfs rfl)] at hm ⊢
   rw [Zgd (Zfs rfl) h1 e (by rw [tk_len] at hm; exact hm)]
   exact pow4_lh he (by rw [tk_len] at hm; omega))
 rw [show eiL 4 p = tk (eiV 4) p from rfl, powT_tk (Zfs rfl) h1 (by omega) (by decide) (by omega) (by omega) (by omega)] at c
 rw [show (e : Int) * 0 = 0 by omega] at c
 exact c
theorem re4pow_p {e p : Nat} (he : e < 10) (h1 : 1 ≤ p) (hp : p ≤ 40) : PC Tryz.prog 83 [serA 0 ((eiL 4 p).map encQ), iV e] (.tup [serA 0 ((tk (pq (eiV 4) e) p).map encQ), iV 0]) := by
 have c := rpow_p (s := 0) (n := (e : Int)) (es := (eiL 4 p).map encQ) (l := eiL 4 p) (K := 4) (Q := 9) (fun _ => ⟨Zau (eiL_ht rfl hp), by simp [eiL]; omega⟩) (by simp) (Zeb (by decide) (by decide) (by omega)) (by decide) (by decide) (by omega) (by decide) (by omega) (by omega)
  (fun _ _ _ i hi => by
   rw [show eiL 4 p = tk (eiV 4) p from rfl, drop_tk (Zfs rfl), tk_len, show sgi (e : Int) i = (i : Int) by unfold sgi; rw [if_neg (by omega)]]
   rw [Zgd (Zfs rfl) h1 i (by omega)]
   exact pow4_lh (by omega) (by omega))
 rw [show eiL 4 p = tk (eiV 4) p from rfl, powT_tk (Zfs rfl) h1 (by omega) (by decide) (by omega) (by omega) (by omega)] at c
 rw [show (e : Int) * 0 = 0 by omega] at c
 exact c
def jT (p : Int) : AV := if decide (p < -100) || decide (p > 998) then .tup [serA 0 [], iV 2] else if p < 0 then .tup [serA p [], iV 0] else .tup [serA (-1) ((tk jV (p.toNat + 1)).map encQ), iV 0]
theorem ivs_h {n m : Nat} (hn : n ≤ m) (hm : n ≤ 40) : ∀ q, q ∈ ivs (tk dV m) n → Ht q 3 := by
 rw [ivs_tk dV hn]
 exact Zee fun i hi => ivD_h (by omega)
theorem ivf_ne : ivf dV 0 ≠ 0 := by rw [ivf_0]; exact inv_ne dV_ne
theorem jmul {p : Nat} (hp : p ≤ 38) : mulR 0 (tk (pq (eiV 4) 3) (p + 1)) (-1) (tk (ivf dV) (p + 1)) = some (-1, tk jV (p + 1)) := by
 have h := mulR_tk (s := 0) (t := -1) (f := pq (eiV 4) 3) (g := ivf dV) (n := p + 1) (m := p + 1) (pq_ne (Zfs rfl) 3) ivf_ne (by decide) (by decide) (by omega) (by omega) (by decide) (by omega)
 rw [Nat.min_self] at h
 exact h
theorem jT_ok {p : Nat} (hp : p ≤ 38) : jT (p : Int) = .tup [serA (-1) ((tk jV (p + 1)).map encQ), iV 0] := by
 unfold jT
 rw [if_neg (by simp; omega), if_neg (by omega), Int.toNat_natCast]
theorem delT_ok {p : Nat} (hp : p ≤ 38) : delT ((p : Int) + 2) = .tup [serA 1 ((tk dV (p + 1)).map encQ), iV 0] := by
 unfold delT delS delL
 rw [ins_t (by omega) (by omega), if_pos rfl, if_neg (by omega), if_neg (by omega), show ((p : Int) + 2 - 1).toNat = p + 1 by omega]
set_option maxHeartbeats 4000000 in
theorem j_p {p : Int} (h : p ≤ 38 ∨ 998 < p) : PC Tryz.prog 18 [iV p] (jT p) := by
  cases h1 : decide (p < -100) with
  | true =>
    have e : jT p = .tup [serA 0 [], iV 2] := by unfold jT; rw [h1]; rfl
    rw [e]
    refine pb2 Tryz.func18 (Zab.agg Zaf) Zab.tmp ?_
    refine goA ?_
    exact rfl
  | false =>
  cases h2 : decide (p > 998) with
  | true =>
    have e : jT p = .tup [serA 0 [], iV 2] := by unfold jT; rw [h1, h2]; rfl
    rw [e]
    refine pb2 Tryz.func18 (Zab.agg Zaf) Zab.tmp ?_
    refine goA ?_
    exact rfl
  | false =>
  have p1 := of_decide_eq_false h1
  have p2 := of_decide_eq_false h2
  cases h3 : decide (p < 0) with
  | true =>
    have e : jT p = .tup [serA p [], iV 0] := by unfold jT; rw [h1, h2, if_neg (by simp), if_pos (of_decide_eq_true h3)]
    rw [e]
    have cn := lnothing_p p
    refine pb2 Tryz.func18 (Zab.agg Zaf) Zab.tmp ?_
    refine goA ?_
    refine clG cn ?_
    exact rfl
  | false =>
  have p3 := of_decide_eq_false h3
  obtain ⟨p, rfl⟩ : ∃ n : Nat, p = n := ⟨p.toNat, by omega⟩
  have hp : p ≤ 38 := by omega
  rw [jT_ok hp]
  have c1 := enorm_p bq_ok (k := 4) (p := p + 1) rfl (by omega)
  have c2 := e4pow_p (e := 3) (p := p + 1) (by decide) (by omega) (by omega)
  have c3 := delta_p (p := (p : Int) + 2) (by omega)
  rw [delT_ok hp] at c3
  have hinv : invT 1 (tk dV (p + 1)) = (-1, tk (ivf dV) (p + 1), 0) := invT_tk dV_ne (by omega) (by decide) (by omega) (by decide) (by omega)
  have c4 := quoV_p (s := 0) (t := 1) (es := (tk (pq (eiV 4) 3) (p + 1)).map encQ) (fs := (tk dV (p + 1)).map encQ) (l := tk (pq (eiV 4) 3) (p + 1)) (m := tk dV (p + 1)) (K := 9) (Q := 9) (by decide) (by decide)
    (fun _ k hk q hq => by
      rw [drop_tk dV_ne] at hk hq
      rw [tk_len] at hk
      exact (ivs_h hk (by omega) q hq).mono (by decide))
    (fun _ => by
      rw [hinv]
      exact ⟨Zci (s := -1) (f := ivf dV) (n := p + 1) (by decide) (by omega), Zee fun i hi => (ivD_h (by omega)).mono (by decide), by simp; omega⟩)
    (Nat.le_refl _) (fun _ => ⟨Zau (pow4_lh (by decide) (by omega)), by simp; omega⟩) (fun _ => ⟨Zau (Zee fun i _ => (dV_ht i).mono (by decide)), by simp; omega⟩) (by simp) (by simp) (Zeb (by decide) (by decide) (by omega)) (Zeb (by decide) (by decide) (by omega))
  have hq : quoT 0 (tk (pq (eiV 4) 3) (p + 1)) 1 (tk dV (p + 1)) = (-1, tk jV (p + 1), 0) := by
    unfold quoT
    rw [Zci (by decide) (by omega), hinv, if_pos rfl, if_pos rfl]
    simp only []
    rw [jmul hp]
    rfl
  rw [hq] at c4
  have c4 : PC Tryz.prog 47 [serA 0 ((tk (pq (eiV 4) 3) (p + 1)).map encQ), serA 1 ((tk dV (p + 1)).map encQ)] (.tup [serA (-1) ((tk jV (p + 1)).map encQ), iV 0]) := c4
  generalize tk jV (p + 1) = J at *
  generalize tk dV (p + 1) = D at *
  generalize tk (pq (eiV 4) 3) (p + 1) = W at *
  rw [show ((p + 1 : Nat) : Int) = (p : Int) + 1 by omega] at c1
  have c1 : PC Tryz.prog 45 [iV 4, iV ((p : Int) + 1)] (.tup [serA 0 ((eiL 4 (p + 1)).map encQ), iV 0]) := c1
  have c2 : PC Tryz.prog 46 [serA 0 ((eiL 4 (p + 1)).map encQ), iV 3] (.tup [serA 0 (W.map encQ), iV 0]) := c2
  generalize eiL 4 (p + 1) = E at *
  refine pb2 Tryz.func18 (Zab.agg Zaf) Zab.tmp ?_
  refine goA ?_
  refine clG c1 ?_
  refine clG c2 ?_
  refine clG c3 ?_
  refine clG c4 ?_
  exact rfl
set_option maxHeartbeats 4000000 in
theorem rj_p {p : Int} (h : p ≤ 38 ∨ 998 < p) : PC Tryz.prog 54 [iV p] (jT p) := by
  cases h1 : decide (p < -100) with
  | true =>
    have e : jT p = .tup [serA 0 [], iV 2] := by unfold jT; rw [h1]; rfl
    rw [e]
    refine pb2 Tryz.func54 (Zab.agg Zaf) Zab.tmp ?_
    refine goA ?_
    exact rfl
  | false =>
  cases h2 : decide (p > 998) with
  | true =>
    have e : jT p = .tup [serA 0 [], iV 2] := by unfold jT; rw [h1, h2]; rfl
    rw [e]
    refine pb2 Tryz.func54 (Zab.agg Zaf) Zab.tmp ?_
    refine goA ?_
    exact rfl
  | false =>
  have p1 := of_decide_eq_false h1
  have p2 := of_decide_eq_false h2
  cases h3 : decide (p < 0) with
  | true =>
    have e : jT p = .tup [serA p [], iV 0] := by unfold jT; rw [h1, h2, if_neg (by simp), if_pos (of_decide_eq_true h3)]
    rw [e]
    have cn := empty_p p
    refine pb2 Tryz.func54 (Zab.agg Zaf) Zab.tmp ?_
    refine goA ?_
    refine clG cn ?_
    exact rfl
  | false =>
  have p3 := of_decide_eq_false h3
  obtain ⟨p, rfl⟩ : ∃ n : Nat, p = n := ⟨p.toNat, by omega⟩
  have hp : p ≤ 38 := by omega
  rw [jT_ok hp]
  have c1 := rnorm34_p (k := 4) (p := p + 1) rfl (by omega)
  have c2 := re4pow_p (e := 3) (p := p + 1) (by decide) (by omega) (by omega)
  have c3 := rdelta_p (p := (p : Int) + 2) (by omega)
  rw [delT_ok hp] at c3
  have hinv : invT 1 (tk dV (p + 1)) = (-1, tk (ivf dV) (p + 1), 0) := invT_tk dV_ne (by omega) (by decide) (by omega) (by decide) (by omega)
  have c4 := rinvV_p (s := 1) (es := (tk dV (p + 1)).map encQ) (l := tk dV (p + 1)) (K := 2) (Q := 3) (fun _ => ⟨Zau (Zee fun i _ => dV_ht i), by simp; omega⟩) (by simp) (Zeb (by decide) (by decide) (by omega)) (by decide) (by decide)
    (fun _ k hk q hq => by
      rw [drop_tk dV_ne] at hk hq
      rw [tk_len] at hk
      exact ivs_h hk (by omega) q hq)
  rw [hinv] at c4
  have c4 : PC Tryz.prog 85 [serA 1 ((tk dV (p + 1)).map encQ)] (.tup [serA (-1) ((tk (ivf dV) (p + 1)).map encQ), iV 0]) := c4
  have c5 := rmul33_p (s := 0) (t := -1) (es := (tk (pq (eiV 4) 3) (p + 1)).map encQ) (fs := (tk (ivf dV) (p + 1)).map encQ) (l := tk (pq (eiV 4) 3) (p + 1)) (m := tk (ivf dV) (p + 1)) (K := 9) (M := 40)
    (both_mk (Zau (pow4_lh (by decide) (by omega))) (Zau (Zee fun i hi => (ivD_h (by omega)).mono (by decide))) (Zeb (by decide) (by decide) (by omega)) (Zeb (by decide) (by decide) (by omega))) (by decide) (by decide) (by decide) (fun _ => by simp; omega)
  rw [jmul hp] at c5
  have c5 : PC Tryz.prog 55 [serA 0 ((tk (pq (eiV 4) 3) (p + 1)).map encQ), serA (-1) ((tk (ivf dV) (p + 1)).map encQ)] (.tup [serA (-1) ((tk jV (p + 1)).map encQ), iV 0]) := c5
  have c6 := rcut_p (s := -1) (p := (p : Int)) (es := (tk jV (p + 1)).map encQ) (l := tk jV (p + 1)) (K := 5) (Zau (Zee fun i hi => jV_h (by omega))) (by decide) (by rw [List.length_map]; exact Zci (by decide) (by show (-1 : Int) + _ ≤ 1000; omega)) (by omega) (by omega)
  rw [cutR_tk jV_ne (by decide) (by show (-1 : Int) + _ ≤ 1000; omega) (by omega), show min (p + 1) ((p : Int) - (-1)).toNat = p + 1 by omega] at c6
  have c6 : PC Tryz.prog 38 [serA (-1) ((tk jV (p + 1)).map encQ), iV p] (.tup [serA (-1) ((tk jV (p + 1)).map encQ), iV 0]) := c6
  generalize tk jV (p + 1) = J at *
  generalize tk dV (p + 1) = D at *
  generalize tk (ivf dV) (p + 1) = I at *
  generalize tk (pq (eiV 4) 3) (p + 1) = W at *
  rw [show ((p + 1 : Nat) : Int) = (p : Int) + 1 by omega] at c1
  have c1 : PC Tryz.prog 82 [iV 4, iV ((p : Int) + 1)] (.tup [serA 0 ((eiL 4 (p + 1)).map encQ), iV 0]) := c1
  have c2 : PC Tryz.prog 83 [serA 0 ((eiL 4 (p + 1)).map encQ), iV 3] (.tup [serA 0 (W.map encQ), iV 0]) := c2
  generalize eiL 4 (p + 1) = E at *
  refine pb2 Tryz.func54 (Zab.agg Zaf) Zab.tmp ?_
  refine goA ?_
  refine clG c1 ?_
  refine clG c2 ?_
  refine clG c3 ?_
  refine clG c4 ?_
  refine clG c5 ?_
  refine clG c6 ?_
  exact rfl
end Ab
namespace Ab
open Go Go.RowKit Go.Proofs Hp
set_option maxRecDepth 100000
theorem delT_tau {m : Nat} (hm : m ≤ 149) : delT ((m : Int) + 1 + 1) = .tup [serA 1 ((tk dV (m + 1)).map encQ), iV 0] := by
 unfold delT delS delL
 rw [ins_t (by omega) (by omega), if_pos rfl, if_neg (by omega), if_neg (by omega), show ((m : Int) + 1 + 1 - 1).toNat = m + 1 by omega]
def l39L (p m : Int) : Bool := decide (p > m) && decide (p ≤ 1000)
theorem l39long_p (p m : Int) : PC Tryz.prog 5 [iV p, iV m] (bV (l39L p m)) := by
  unfold l39L
  cases h1 : decide (p > m) with
  | false =>
    refine pb1 Tryz.func5 Zab.tmp ?_
    refine goA ?_
    exact rfl
  | true =>
    refine pb1 Tryz.func5 Zab.tmp ?_
    refine goA ?_
    exact rfl
theorem dV3 : tk dV 3 = qsL [1, -24, 252] := by
 have : dL.take 3 = qsL [1, -24, 252] := by decide +kernel
 rw [← dV_tk (by decide)]
 exact this
theorem jV3 : tk jV 3 = qsL [1, 744, 196884] := by
 have : jL.take 3 = qsL [1, 744, 196884] := by decide +kernel
 rw [← this, ← jV_eq, tk_take _ (by decide)]
theorem int4L {xs : List Int} (h : (xs.all fun x => decide (x.natAbs < 4000000000)) = true) : ∀ x, x ∈ xs → x.natAbs < 4000000000 := fun x hx => by
 have := List.all_eq_true.1 h x hx
 simpa using this
theorem sm4L {xs : List Int} (h : (xs.all fun x => decide (x.natAbs < 4000000000)) = true) : ∀ q, q ∈ qsL xs → Ht q 1 := small4 fun x hx => by have := int4L h x hx; omega
theorem qs4L {xs : List Int} (h : (xs.all fun x => decide (x.natAbs < 4000000000)) = true) (hl : xs.length ≤ 100000) : PC Tryz.prog 19 [.sl (xs.map iv)] (.sl ((qsL xs).map encQ)) := qs_p xs (fun x hx => by have := int4L h x hx; omega) hl
theorem Zd2 : PC Tryz.prog 8 [] (bV true) := by
 have c1 := delta_p (p := 4) (by decide)
 have e1 : delT 4 = .tup [serA 1 ((qsL [1, -24, 252]).map encQ), iV 0] := by
  rw [← dV3]
  exact delT_tau (m := 2) (by decide)
 rw [e1] at c1
 have c2 := j_p (p := 2) (by decide)
 have e2 : jT 2 = .tup [serA (-1) ((qsL [1, 744, 196884]).map encQ), iV 0] := by
  rw [← jV3]
  exact jT_ok (p := 2) (by decide)
 rw [e2] at c2
 have c3 := qs4L (xs := [1, -24, 252]) (by decide) (by decide)
 have c4 := qs4L (xs := [1, 744, 196884]) (by decide) (by decide)
 have q1 := sameQ_p (s := 1) (t := 1) (k := 1) (m := qsL [1, -24, 252]) (sm4L (xs := [1, -24, 252]) (by decide)) (by decide) (by decide)
 have q2 := sameQ_p (s := -1) (t := -1) (k := 1) (m := qsL [1, 744, 196884]) (sm4L (xs := [1, 744, 196884]) (by decide)) (by decide) (by decide)
 rw [decide_eq_true ⟨rfl, rfl⟩] at q1 q2
 generalize hA : qsL [1, -24, 252] = A at *
 generalize hB : qsL [1, 744, 196884] = B at *
 refine pb1 Tryz.func8 Zab.tmp ?_
 refine goA ?_
 refine clG c1 ?_
 refine clG c2 ?_
 refine evG ggA (Zbj (Zaa rfl) (Zak rfl) rfl rfl rfl rfl (Zgf rfl) (Nat.le_of_ble_eq_true rfl)) ?_
 refine clG c3 ?_
 refine clG q1 ?_
 refine evG ggA (Zbj (Zaa rfl) (Zak rfl) rfl rfl rfl rfl (Zgf rfl) (Nat.le_of_ble_eq_true rfl)) ?_
 refine clG c4 ?_
 refine clG q2 ?_
 exact rfl
end Ab
