/- Monomial, of the program and of the document, Zeros of the base. -/
import Derived.Test.YtalcdpjpapojeaaGreatDoorZJ
import Derived.Test.YtalcdpjpapojeaaGreatDoorLe
import Derived.Test.YtalcdpjpapojeaaGreatDoorSHK
set_option linter.all false
namespace Ab
open Go Go.RowKit Go.Proofs Hp
set_option maxRecDepth 100000
theorem zeros_p (N : Nat) (hN : N ≤ 100000) : PCO Tryz.prog 34 [.p (.int .i64 N)] 4 39 ((tk (fun _ => 0) N).map encQ) := by
 have cz := q_p 0 dC dC
 rw [show ((0 : Int) : Rat) = 0 from rfl] at cz
 have hx0 : ((tk (fun _ => 0) N).map encQ).length = N := by rw [List.length_map, tk_len]
 refine pc_bodyO (t := 2) (id := 100) Tryz.func34 rfl rfl rfl (Nat.le_of_ble_eq_true rfl) ?_
 refine r1A ?_
 refine T.seq ?_
 refine regA ?_
 refine runA ?_
 refine Zao ?_
 refine Za1 ?_
 refine T.seqE (mkS [(3, .own 100 N)] [(100, .lst 4 39 ((tk (fun _ => 0) N).map encQ))] 15 true) ?_ ?_
 ·refine r1A ?_
  refine T.block ?_
  refine T.loop (fun n s1 => ∃ j : Nat, n = N - j ∧ j ≤ N ∧ s1 = mkS [(0, .v (iV N)), (3, .own 100 j), (4, .v (iV (j : Nat)))] [(100, .lst 4 39 ((tk (fun _ => 0) j).map encQ))] 15 true) N
   (s' := mkS [(0, .v (iV N)), (3, .own 100 0), (4, .v (iV (0 : Nat)))] [(100, .lst 4 39 ((tk (fun _ => 0) 0).map encQ))] 15 true) entA ⟨0, rfl, Nat.zero_le _, rfl⟩ ?_
  rintro n _ ⟨j, rfl, hj, rfl⟩
  by_cases hlt : j < N
  ·have hb : decide ((j : Int) < (N : Int)) = true := by simp; omega
   refine goA ?_
   refine clA cz ?_
   refine appA ?_
   refine goA ?_
   exact Zab (k := N - (j + 1)) (s' := mkS [(0, .v (iV N)), (3, .own 100 (j + 1)), (4, .v (iV ((j : Int) + 1)))] [(100, .lst 4 39 ((tk (fun _ => 0) j ++ [0]).map encQ))] 15 true) oM entA ⟨j + 1, rfl, hlt, by rw [Zdu]; rfl⟩
  ·obtain rfl : j = N := oM
   have hb : decide ((j : Int) < (j : Int)) = false := by simp
   refine goA ?_
   exact midE
 refine goA ?_
 exact ⟨.inr rfl, rfl, by rw [hx0]; rfl, rfl⟩
def MV (n p : Int) : Bool := decide (-100 ≤ n) && decide (n ≤ 1000) && decide (-100 ≤ p) && decide (p ≤ 1000)
def monR (c : Rat) (n p : Int) : Option (Int × List Rat) := if MV n p then (if n ≥ p then some (p, []) else nrm n (c :: List.replicate ((p - n).toNat - 1) 0)) else none
theorem isL_rep {e : AV} {k : Nat} (h : IsV e k 0) : ∀ n, IsL (List.replicate n e) k (List.replicate n 0)
 | 0 => trivial
 | n + 1 => ⟨h, isL_rep h n⟩
theorem mv_cases {n p : Int} {Q : Prop} (h0 : MV n p = false → decide (n < -100) = true → Q) (h1 : MV n p = false → decide (n < -100) = false → decide (n > 1000) = true → Q)
  (h2 : MV n p = false → decide (n < -100) = false → decide (n > 1000) = false → decide (p < -100) = true → Q) (h3 : MV n p = false → decide (n < -100) = false → decide (n > 1000) = false → decide (p < -100) = false → decide (p > 1000) = true → Q)
  (h4 : MV n p = true → decide (n < -100) = false → decide (n > 1000) = false → decide (p < -100) = false → decide (p > 1000) = false → Q) : Q := by
 unfold MV at *
 by_cases a0 : n < -100
 ·exact h0 (by simp; omega) (by simp [a0])
 by_cases a1 : n > 1000
 ·exact h1 (by simp; omega) (by simp; omega) (by simp; omega)
 by_cases a2 : p < -100
 ·exact h2 (by simp; omega) (by simp; omega) (by simp; omega) (by simp; omega)
 by_cases a3 : p > 1000
 ·exact h3 (by simp; omega) (by simp; omega) (by simp; omega) (by simp; omega) (by simp; omega)
 ·exact h4 (by simp; omega) (by simp; omega) (by simp; omega) (by simp; omega) (by simp; omega)
set_option maxHeartbeats 2000000 in
theorem monomial_p {a : AV} {c : Rat} {K : Nat} {n p : Int} (ha : IsV a K c) (hK : 1 ≤ K ∧ K ≤ 100000000) : PC Tryz.prog 47 [a, .p (.int .i64 n), .p (.int .i64 p)] (serE (monR c n p)) := by
 obtain ⟨g, xs, g', xs', rfl⟩ := Zax ha
 rw [Zbm]
 unfold monR
 refine mv_cases (n := n) (p := p) (fun e b0 => ?_) (fun e b0 b1 => ?_) (fun e b0 b1 b2 => ?_) (fun e b0 b1 b2 b3 => ?_) (fun e b0 b1 b2 b3 => ?_)
 ·rw [e]
  refine pb2 Tryz.func47 (Zac.agg Zaj) Zac.tmp ?_
  refine goA ?_
  exact rfl
 ·rw [e]
  refine pb2 Tryz.func47 (Zac.agg Zaj) Zac.tmp ?_
  refine goA ?_
  exact rfl
 ·rw [e]
  refine pb2 Tryz.func47 (Zac.agg Zaj) Zac.tmp ?_
  refine goA ?_
  exact rfl
 ·rw [e]
  refine pb2 Tryz.func47 (Zac.agg Zaj) Zac.tmp ?_
  refine goA ?_
  exact rfl
 rw [e]
 simp only [if_true]
 unfold MV at e
 simp only [Bool.and_eq_true, decide_eq_true_eq] at e
 obtain ⟨⟨⟨a0, a1⟩, a2⟩, a3⟩ := e
 by_cases h1 : n ≥ p
 ·have hb : decide (n ≥ p) = true := by simp [h1]
  rw [if_pos h1]
  refine pb2 Tryz.func47 (Zac.agg Zaj) Zac.tmp ?_
  refine goA ?_
  exact rfl
 have hb : decide (n ≥ p) = false := by simp; omega
 rw [if_neg h1]
 obtain ⟨k, hk⟩ : ∃ k : Nat, (p - n).toNat = k + 1 := ⟨(p - n).toNat - 1, oM⟩
 have hbuild := Ze7 (s := n) (es := .agg [.p (.bool g), .sl xs, .p (.bool g'), .sl xs'] :: List.replicate k rz) (l := c :: List.replicate k 0) (K := K) ⟨ha, isL_rep (isV_rz K) k⟩ oM oM oM (by simp; omega)
 rw [Zbm] at hbuild
 rw [show (p - n).toNat - 1 = k by omega]
 refine pb2 Tryz.func47 (Zac.agg Zaj) Zac.tmp ?_
 refine r1A ?_
 refine T.seqE (mkS [(1, .v (iV n)), (2, .v (iV p)), (3, .ptr 3 0), (6, .ptr 6 0)] [(3, .var [.v (.p (.bool g)), .v (.sl xs), .v (.p (.bool g')), .v (.sl xs')]), (6, var0)] 41 true) ?_ ?_
 ·refine goA ?_
  exact midE
 refine T.seqE (mkS [(1, .v (iV n)), (2, .v (iV p)), (3, .ptr 3 0), (6, .ptr 6 0)] [(3, .var [.v (.p (.bool g)), .v (.sl xs), .v (.p (.bool g')), .v (.sl xs')]), (6, var0)] 41 true) ?_ ?_
 ·refine goA ?_
  exact midE
 refine T.seqE (mkS [(1, .v (iV n)), (3, .ptr 3 0), (6, .ptr 6 0), (8, .own 30 (k + 1))] [(3, .var [.v (.p (.bool g)), .v (.sl xs), .v (.p (.bool g')), .v (.sl xs')]), (6, var0), (30, .lst 4 39 (List.replicate (k + 1) rz))] 41 true) ?_ ?_
 ·refine goA ?_
  refine evG ggA (Zdv 30 (e0 := rz) (Zaa rfl) (Zaf rfl) rfl rfl rfl oM oM oM oM rfl rfl rfl) ?_
  refine goA ?_
  exact Zae (s' := mkS [(1, .v (iV n)), (3, .ptr 3 0), (6, .ptr 6 0), (8, .own 30 (p - n).toNat)] [(3, .var [.v (.p (.bool g)), .v (.sl xs), .v (.p (.bool g')), .v (.sl xs')]), (6, var0), (30, .lst 4 39 (List.replicate (p - n).toNat rz))] 41 true) entA (by rw [hk])
 have hel : (List.replicate (k + 1) rz).length = k + 1 := by simp
 refine T.seqE (mkS [(1, .v (iV n)), (6, .ptr 6 0), (8, .own 30 (k + 1))] [(6, var0), (30, .lst 4 39 (.agg [.p (.bool g), .sl xs, .p (.bool g'), .sl xs'] :: List.replicate k rz))] 41 true) ?_ ?_
 ·refine goA ?_
  refine evG ggA (Zah (Zaa rfl) (Zag rfl) rfl rfl hel rfl oM oM) ?_
  refine evG ggA (Zbd rfl (Zbp rfl) rfl rfl hel (Nat.succ_pos k) rfl rfl (fun l e => by cases e) rfl) ?_
  refine goA ?_
  exact midE
 have hx0 : (AV.agg [.p (.bool g), .sl xs, .p (.bool g'), .sl xs'] :: List.replicate k rz).length = k + 1 := by simp
 refine T.weak (s' := mkS [(1, .v (iV n)), (6, .ptr 6 0), (8, .v (.sl (.agg [.p (.bool g), .sl xs, .p (.bool g'), .sl xs'] :: List.replicate k rz)))] [(6, var0)] 41 true) entA ?_
 refine goA ?_
 refine clG hbuild ?_
 exact rfl
theorem empty_p' (p : Int) : PC Tryz.prog 107 [.p (.int .i64 p)] (serA p []) := by
 refine pb1 Tryz.func107 (Zac.agg Zaj) ?_
 refine goA ?_
 exact rfl
set_option maxHeartbeats 2000000 in
theorem rmonomial_p {a : AV} {c : Rat} {K : Nat} {n p : Int} (ha : IsV a K c) (hK : 1 ≤ K ∧ K ≤ 100000000) : PC Tryz.prog 108 [a, .p (.int .i64 n), .p (.int .i64 p)] (serE (monR c n p)) := by
 obtain ⟨g, xs, g', xs', rfl⟩ := Zax ha
 rw [Zbm]
 unfold monR
 refine mv_cases (n := n) (p := p) (fun e b0 => ?_) (fun e b0 b1 => ?_) (fun e b0 b1 b2 => ?_) (fun e b0 b1 b2 b3 => ?_) (fun e b0 b1 b2 b3 => ?_)
 ·rw [e]
  refine pb2 Tryz.func108 (Zac.agg Zaj) Zac.tmp ?_
  refine goA ?_
  exact rfl
 ·rw [e]
  refine pb2 Tryz.func108 (Zac.agg Zaj) Zac.tmp ?_
  refine goA ?_
  exact rfl
 ·rw [e]
  refine pb2 Tryz.func108 (Zac.agg Zaj) Zac.tmp ?_
  refine goA ?_
  exact rfl
 ·rw [e]
  refine pb2 Tryz.func108 (Zac.agg Zaj) Zac.tmp ?_
  refine goA ?_
  exact rfl
 rw [e]
 simp only [if_true]
 unfold MV at e
 simp only [Bool.and_eq_true, decide_eq_true_eq] at e
 obtain ⟨⟨⟨a0, a1⟩, a2⟩, a3⟩ := e
 by_cases h1 : n ≥ p
 ·have hb : decide (n ≥ p) = true := by simp [h1]
  rw [if_pos h1]
  have cem := empty_p' p
  refine pb2 Tryz.func108 (Zac.agg Zaj) Zac.tmp ?_
  refine goA ?_
  refine clG cem ?_
  exact rfl
 have hb : decide (n ≥ p) = false := by simp; omega
 rw [if_neg h1]
 obtain ⟨k, hk⟩ : ∃ k : Nat, (p - n).toNat = k + 1 := ⟨(p - n).toNat - 1, oM⟩
 have hbuild := Zey (s := n) (es := .agg [.p (.bool g), .sl xs, .p (.bool g'), .sl xs'] :: List.replicate k (encQ 0)) (l := c :: List.replicate k 0) (K := K) ⟨ha, isL_rep (Zad (ht0 hK.1)) k⟩ oM oM oM (by simp; omega)
 rw [Zbm] at hbuild
 rw [show (p - n).toNat - 1 = k by omega]
 have cze := zeros_p (k + 1) oM
 have hzz : (tk (fun _ => 0) (k + 1)).map encQ = List.replicate (k + 1) (encQ 0) := by
  unfold tk
  rw [List.map_map]
  exact (List.eq_replicate_iff.2 ⟨by simp, fun b hb => by obtain ⟨i, -, rfl⟩ := List.mem_map.1 hb; rfl⟩)
 rw [hzz, show ((k + 1 : Nat) : Int) = p - n by omega] at cze
 refine pb2 Tryz.func108 (Zac.agg Zaj) Zac.tmp ?_
 refine r1A ?_
 refine T.seqE (mkS [(1, .v (iV n)), (2, .v (iV p)), (3, .ptr 3 0), (6, .ptr 6 0)] [(3, .var [.v (.p (.bool g)), .v (.sl xs), .v (.p (.bool g')), .v (.sl xs')]), (6, var0)] 41 true) ?_ ?_
 ·refine goA ?_
  exact midE
 refine T.seqE (mkS [(1, .v (iV n)), (2, .v (iV p)), (3, .ptr 3 0), (6, .ptr 6 0)] [(3, .var [.v (.p (.bool g)), .v (.sl xs), .v (.p (.bool g')), .v (.sl xs')]), (6, var0)] 41 true) ?_ ?_
 ·refine goA ?_
  exact midE
 refine T.seqE (mkS [(1, .v (iV n)), (3, .ptr 3 0), (6, .ptr 6 0), (8, .own 30 (k + 1))] [(3, .var [.v (.p (.bool g)), .v (.sl xs), .v (.p (.bool g')), .v (.sl xs')]), (6, var0), (30, .lst 4 39 (List.replicate (k + 1) (encQ 0)))] 41 true) ?_ ?_
 ·refine T.regionO 3 ?_
  show EvL _ _ _ (_ :: _) _ _
  refine runA ?_
  refine Zao ?_
  refine ocall 30 cze rfl rfl rfl rfl ?_
  refine runA ?_
  refine Zao ?_
  exact Zae (s' := mkS [(1, .v (iV n)), (3, .ptr 3 0), (6, .ptr 6 0), (8, .own 30 (List.replicate (k + 1) (encQ 0)).length)] [(3, .var [.v (.p (.bool g)), .v (.sl xs), .v (.p (.bool g')), .v (.sl xs')]), (6, var0), (30, .lst 4 39 (List.replicate (k + 1) (encQ 0)))] 41 true) entA (by rw [List.length_replicate])
 have hel : (List.replicate (k + 1) (encQ 0)).length = k + 1 := by simp
 refine T.seqE (mkS [(1, .v (iV n)), (6, .ptr 6 0), (8, .own 30 (k + 1))] [(6, var0), (30, .lst 4 39 (.agg [.p (.bool g), .sl xs, .p (.bool g'), .sl xs'] :: List.replicate k (encQ 0)))] 41 true) ?_ ?_
 ·refine goA ?_
  refine evG ggA (Zah (Zaa rfl) (Zag rfl) rfl rfl hel rfl oM oM) ?_
  refine evG ggA (Zbd rfl (Zbp rfl) rfl rfl hel (Nat.succ_pos k) rfl rfl (fun l e => by cases e) rfl) ?_
  refine goA ?_
  exact midE
 have hx0 : (AV.agg [.p (.bool g), .sl xs, .p (.bool g'), .sl xs'] :: List.replicate k (encQ 0)).length = k + 1 := by simp
 refine T.weak (s' := mkS [(1, .v (iV n)), (6, .ptr 6 0), (8, .v (.sl (.agg [.p (.bool g), .sl xs, .p (.bool g'), .sl xs'] :: List.replicate k (encQ 0))))] [(6, var0)] 41 true) entA ?_
 refine goA ?_
 refine clG hbuild ?_
 exact rfl
theorem scut_p {s p : Int} {es : List AV} {l : List Rat} {K : Nat} (h : IsL es K l) (hK : 1 ≤ K ∧ K ≤ 268435456) (a0 : -100 ≤ s) (a1 : s ≤ 1000) (a2 : (es.length : Int) ≤ 1000 - s) (p0 : -9223372036854775808 ≤ p) (p1 : p ≤ 9223372036854775807) : PC Tryz.prog 101 [serA s es, .p (.int .i64 p)] (serA (cutS s l p).1 ((cutS s l p).2.map encQ)) := by
 have hlen := h.get.1
 have hpr := prec_p a0 a1 a2
 unfold cutS
 by_cases h1 : s + l.length ≤ p
 ·have hb : decide (p ≥ s + (es.length : Int)) = true := by simp; omega
  have ht := tidy_p h oM a0 a1 a2
  rw [if_pos h1]
  refine pb1 Tryz.func101 (Zac.agg Zaj) ?_
  refine goA ?_
  refine clG hpr ?_
  refine clG ht ?_
  exact rfl
 ·have hb : decide (p ≥ s + (es.length : Int)) = false := by simp; omega
  rw [if_neg h1]
  by_cases h2 : p ≤ s
  ·have hb2 : decide (p ≤ s) = true := by simp [h2]
   rw [if_pos h2]
   refine pb1 Tryz.func101 (Zac.agg Zaj) ?_
   refine goA ?_
   refine clG hpr ?_
   exact rfl
  ·have hb2 : decide (p ≤ s) = false := by simp; omega
   rw [if_neg h2]
   have ht := tidy_p (s := s) (h.take (p - s).toNat) oM a0 a1 (by simp; omega)
   refine pb1 Tryz.func101 (Zac.agg Zaj) ?_
   refine goA ?_
   refine clG hpr ?_
   refine evG ggA (Zek (Zaa rfl) (Zag rfl) rfl (Zfo h) rfl oM oM) ?_
   refine goA ?_
   refine clG ht ?_
   exact rfl
theorem scutx_p {s p : Int} {es : List AV} {l : List Rat} {K : Nat} (h : Zap s es.length = true → IsL es K l) (hle : es.length = l.length) (hr : InR s es.length) (hK : 1 ≤ K ∧ K ≤ 268435456) (p0 : -9223372036854775808 ≤ p) (p1 : p ≤ 9223372036854775807) : PC Tryz.prog 62 [serA s es, .p (.int .i64 p)] (serE (cutR s l p)) := by
  obtain ⟨i1, i2, i3⟩ := hr
  have hva := Zdt i1 i2 i3
  rw [Zbm]
  unfold cutR
  rw [← hle]
  cases h1 : Zap s es.length with
  | false =>
    rw [h1] at hva
    refine pb2 Tryz.func62 (Zac.agg Zaj) Zac.tmp ?_
    refine goA ?_
    refine clG hva ?_
    exact rfl
  | true =>
    rw [h1] at hva
    obtain ⟨a0, a1, a2⟩ := Za2.1 h1
    have ht := scut_p (h h1) hK a0 a1 a2 p0 p1
    by_cases h2 : -100 ≤ p
    · have hb : decide (p < -100) = false := by simp; omega
      rw [show decide (-100 ≤ p) = true by simp [h2]]
      refine pb2 Tryz.func62 (Zac.agg Zaj) Zac.tmp ?_
      refine goA ?_
      refine clG hva ?_
      refine clG ht ?_
      exact rfl
    · have hb : decide (p < -100) = true := by simp; omega
      rw [show decide (-100 ≤ p) = false by simp; omega]
      refine pb2 Tryz.func62 (Zac.agg Zaj) Zac.tmp ?_
      refine goA ?_
      refine clG hva ?_
      exact rfl
theorem sht_comb {s t : Int} {l m : List Rat} {c : Int} {K : Nat} (hK : 1 ≤ K) (hl : ∀ q, q ∈ l → Ht q K) (hm : ∀ q, q ∈ m → Ht q K) (hc : c.natAbs < 4294967296) (i : Nat) : Ht (comb s l t m c i) (2 * K + 2) :=
 (Zgy (ht_cf hK hl _) (Zbq (Zcq hc) (ht_cf hK hm _) (Nat.le_refl _))).mono oM
set_option maxHeartbeats 2000000 in
theorem scombine_p {s t c : Int} {es fs : List AV} {l m : List Rat} {K : Nat} (hl : Zap s es.length = true → Zap t fs.length = true → IsL es K l) (hm : Zap s es.length = true → Zap t fs.length = true → IsL fs K m) (hle : es.length = l.length) (hlf : fs.length = m.length) (hK : 1 ≤ K ∧ K ≤ 268435456)
    (hs : -9223372036854775808 ≤ s ∧ s ≤ 9223372036854775807 ∧ es.length ≤ 9223372036854775807) (ht : -9223372036854775808 ≤ t ∧ t ≤ 9223372036854775807 ∧ fs.length ≤ 9223372036854775807) (hc : c.natAbs < 4294967296) : PC Tryz.prog 93 [serA s es, serA t fs, .p (.int .i64 c)] (serE (Zgf s l t m c)) := by
  have hva := Zdt hs.1 hs.2.1 hs.2.2
  have hvb := Zdt ht.1 ht.2.1 ht.2.2
  rw [Zbm]
  unfold Zgf
  rw [← hle, ← hlf]
  cases h1 : Zap s es.length with
  | false =>
    rw [h1] at hva
    refine pb2 Tryz.func93 (Zac.agg Zaj) Zac.tmp ?_
    refine goA ?_
    refine clG hva ?_
    exact rfl
  | true =>
  rw [h1] at hva
  cases h2 : Zap t fs.length with
  | false =>
    rw [h2] at hvb
    refine pb2 Tryz.func93 (Zac.agg Zaj) Zac.tmp ?_
    refine goA ?_
    refine clG hva ?_
    refine clG hvb ?_
    exact rfl
  | true =>
  rw [h2] at hvb
  have hL := hl h1 h2
  have hM := hm h1 h2
  obtain ⟨a0, a1, a2⟩ := Za2.1 h1
  obtain ⟨b0, b1, b2⟩ := Za2.1 h2
  have hpa := prec_p a0 a1 a2
  have hpb := prec_p b0 b1 b2
  simp only [Bool.and_true, if_true]
  have hhc : ∀ i, Ht (comb s l t m c i) (2 * K + 2) := sht_comb hK.1 (Zdz hL hK.1) (Zdz hM hK.1) hc
  have hcomb : comb s l t m c = fun (i : Nat) => cf s l (min (min s t) (min (s + es.length) (t + fs.length)) + i) + c * cf t m (min (min s t) (min (s + es.length) (t + fs.length)) + i) := by funext i; unfold comb cfr cp; rw [← hle, ← hlf]
  have hof := Zdh c oM oM
  unfold cfr cp
  generalize comb s l t m c = F at *
  refine pb2 Tryz.func93 (Zac.agg Zaj) Zac.tmp ?_
  refine goA ?_
  refine clG hva ?_
  refine clG hvb ?_
  refine clG hpa ?_
  refine clG hpb ?_
  generalize hp : min (s + (es.length : Int)) (t + (fs.length : Int)) = p at *
  generalize hf : min (min s t) p = f at *
  obtain ⟨N, hN⟩ : ∃ N, N = (p - f).toNat := ⟨_, rfl⟩
  rw [← hN]
  refine evG ggA (Zdv 35 (e0 := rz) (Zaa rfl) (Zaf rfl) rfl rfl rfl oM oM oM oM rfl rfl rfl) ?_
  refine runA ?_
  refine Zao ?_
  refine Za1 ?_
  refine T.seqE (mkS [(9, .v (iV f)), (10, .own 35 N), (6, .ptr 6 0)] [(6, var0), (35, .lst 4 39 ((tk F N).map encQ))] 60 true) ?_ ?_
  · refine r1A ?_
    refine T.block ?_
    refine T.loop (fun n s1 => ∃ j : Nat, n = N - j ∧ j ≤ N ∧ s1 = mkS [(2, .v (iV c)), (3, .ptr 3 0), (4, .ptr 4 0), (8, .v (iV p)), (9, .v (iV f)), (11, .v (iV (f + j))), (10, .own 35 j), (6, .ptr 6 0)] [(3, .var [.v (iV s), .v (.sl es)]), (4, .var [.v (iV t), .v (.sl fs)]), (6, var0), (35, .lst 4 39 ((tk F j).map encQ))] 60 true) N
      (s' := mkS [(2, .v (iV c)), (3, .ptr 3 0), (4, .ptr 4 0), (8, .v (iV p)), (9, .v (iV f)), (11, .v (iV f)), (10, .own 35 0), (6, .ptr 6 0)] [(3, .var [.v (iV s), .v (.sl es)]), (4, .var [.v (iV t), .v (.sl fs)]), (6, var0), (35, .lst 4 39 ((tk F 0).map encQ))] 60 true) entA ⟨0, rfl, Nat.zero_le _, by simp⟩ ?_
    rintro n _ ⟨j, rfl, hj, rfl⟩
    by_cases hlt : j < N
    · have hb : decide (f + (j : Int) < p) = true := by simp; omega
      have c1 := at_p hL a0 a1 a2 (m := f + j) oM oM
      have c2 := at_p hM b0 b1 b2 (m := f + j) oM oM
      obtain ⟨l1, e1, e2, e3⟩ := isV_lit (isV_at (s := s) hL hK.1 (f + j))
      have v1 := isV_at (s := s) hL hK.1 (f + j)
      have v2 := isV_at (s := t) hM hK.1 (f + j)
      rw [e1] at c1 v1
      obtain ⟨l2, e4, e5, e6⟩ := isV_lit v2
      rw [e4] at c2 v2
      have c3 := Zdw (Zad (Zcq hc)) oM v2 oM
      have c4 := radd_p v1 oM (Zad (Zbq (Zcq hc) (Zfc v2 hK.1) (Nat.le_refl _))) oM
      have hF : F j = cf s l (f + j) + c * cf t m (f + j) := by rw [hcomb]
      rw [← hF] at c4
      refine goA ?_
      refine clG c1 ?_
      refine clG hof ?_
      refine clA c2 ?_
      refine clA c3 ?_
      refine clA c4 ?_
      refine appA ?_
      refine goA ?_
      exact Zab (k := N - (j + 1)) (s' := mkS [(2, .v (iV c)), (3, .ptr 3 0), (4, .ptr 4 0), (8, .v (iV p)), (9, .v (iV f)), (11, .v (iV (f + (j : Int) + 1))), (10, .own 35 (j + 1)), (6, .ptr 6 0)] [(3, .var [.v (iV s), .v (.sl es)]), (4, .var [.v (iV t), .v (.sl fs)]), (6, var0), (35, .lst 4 39 ((tk F j ++ [F j]).map encQ))] 60 true) oM entA ⟨j + 1, rfl, hlt, by rw [Zdu, Int.natCast_succ, ← Int.add_assoc]⟩
    · obtain rfl : j = N := oM
      have hb : decide (f + (j : Int) < p) = false := by simp; omega
      refine goA ?_
      exact Zae (s' := mkS [(9, .v (iV f)), (10, .own 35 j), (6, .ptr 6 0)] [(6, var0), (35, .lst 4 39 ((tk F j).map encQ))] 60 true) entA rfl
  have hbuild := Ze7 (s := f) (Zbb (l := tk F N) (k := 2 * K + 2) (fun q hq => by obtain ⟨i, -, rfl⟩ := Zfb hq; exact hhc i)) oM oM oM (by rw [tk_len]; omega)
  rw [Zbm] at hbuild
  refine T.weak (s' := mkS [(9, .v (iV f)), (10, .v (.sl ((tk F N).map encQ))), (6, .ptr 6 0)] [(6, var0)] 60 true) entA ?_
  refine goA ?_
  refine clG hbuild ?_
  exact rfl
theorem ssub_p {s t : Int} {es fs : List AV} {l m : List Rat} {K : Nat} (h : Both s es t fs K l m) (hK : 1 ≤ K ∧ K ≤ 268435456) : PC Tryz.prog 70 [serA s es, serA t fs] (serE (Zgf s l t m (-1))) := by
 obtain ⟨h1, h2, h3, ⟨a, b, c⟩, ⟨d, e, f⟩⟩ := h
 have hc := scombine_p (c := -1) (fun x y => (h1 x y).1) (fun x y => (h1 x y).2) h2 h3 hK ⟨a, b, c⟩ ⟨d, e, f⟩ dC
 rw [Zbm] at hc ⊢
 refine pb2 Tryz.func70 (Zac.agg Zaj) Zac.tmp ?_
 refine goA ?_
 refine clG hc ?_
 exact rfl
theorem tk_cons (f : Nat → Rat) (k : Nat) : tk f (k + 1) = f 0 :: tk (fun i => f (i + 1)) k := by
 unfold tk
 rw [List.range_succ_eq_map, List.map_cons, List.map_map]
 rfl
theorem neg1Q : (((-1 : Int)) : Rat) = -1 := by decide +kernel
theorem tkE (f : Nat → Rat) (n : Nat) : ((tk f n).map encQ).length = n := by simp
theorem both_tk {s t : Int} {f g : Nat → Rat} {n m K : Nat} (hf : ∀ i, i < n → Ht (f i) K) (hg : ∀ i, i < m → Ht (g i) K) (s0 : -1000 ≤ s) (s1 : s ≤ 1000) (t0 : -1000 ≤ t) (t1 : t ≤ 1000) (hn : n ≤ 1000) (hm : m ≤ 1000) :
  Both s ((tk f n).map encQ) t ((tk g m).map encQ) K (tk f n) (tk g m) := ⟨fun _ _ => ⟨Zbb (Ze1 hf), Zbb (Ze1 hg)⟩, by simp, by simp, Zgx s0 s1 hn, Zgx t0 t1 hm⟩
end Ab
