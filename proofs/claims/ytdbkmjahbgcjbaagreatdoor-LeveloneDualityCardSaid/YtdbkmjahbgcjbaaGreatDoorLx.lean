/- Monomial, Cut, Sub of listed series, of the program; condition: what each theorem names. -/
import Derived.Test.YtdbkmjahbgcjbaaGreatDoorZJ
import Derived.Test.YtdbkmjahbgcjbaaGreatDoorLe
import Derived.Test.YtdbkmjahbgcjbaaGreatDoorHjA
set_option linter.all false
namespace Ab
open Go Go.RowKit Go.Proofs Hp
set_option maxRecDepth 100000
def MV (n p : Int) : Bool := decide (-100 ≤ n) && decide (n ≤ 1000) && decide (-100 ≤ p) && decide (p ≤ 1000)
def monR (c : Rat) (n p : Int) : Option (Int × List Rat) := if MV n p then (if n ≥ p then some (p, []) else nrm n (c :: List.replicate ((p - n).toNat - 1) 0)) else none
theorem isL_rep {e : AV} {k : Nat} (h : IsV e k 0) : ∀ n, IsL (List.replicate n e) k (List.replicate n 0)
 | 0 => trivial
 | n + 1 => ⟨h, isL_rep h n⟩
theorem mv_cases {n p : Int} {Q : Prop} (h0 : MV n p = false → decide (n < -100) = true → Q) (h1 : MV n p = false → decide (n < -100) = false → decide (n > 1000) = true → Q)
  (h2 : MV n p = false → decide (n < -100) = false → decide (n > 1000) = false → decide (p < -100) = true → Q) (h3 : MV n p = false → decide (n < -100) = false → decide (n > 1000) = false → decide (p < -100) = false → decide (p > 1000) = true → Q)
  (h4 : MV n p = true → decide (n < -100) = false → decide (n > 1000) = false → decide (p < -100) = false → decide (p > 1000) = false → Q) : Q := by
 unfold MV at *
 by_cases a0 : n < -100
 ·exact h0 (by simp; omega) (by simp [a0])
 by_cases a1 : n > 1000
 ·exact h1 (by simp; omega) (by simp; omega) (by simp; omega)
 by_cases a2 : p < -100
 ·exact h2 (by simp; omega) (by simp; omega) (by simp; omega) (by simp; omega)
 by_cases a3 : p > 1000
 ·exact h3 (by simp; omega) (by simp; omega) (by simp; omega) (by simp; omega) (by simp; omega)
 ·exact h4 (by simp; omega) (by simp; omega) (by simp; omega) (by simp; omega) (by simp; omega)
set_option maxHeartbeats 2000000 in
theorem monomial_p {a : AV} {c : Rat} {K : Nat} {n p : Int} (ha : IsV a K c) (hK : 1 ≤ K ∧ K ≤ 100000000) : PC Tryz.prog 113 [a, .p (.int .i64 n), .p (.int .i64 p)] (serE (monR c n p)) := by
 obtain ⟨g, xs, g', xs', rfl⟩ := isV_cells ha
 rw [serE_eq]
 unfold monR
 refine mv_cases (n := n) (p := p) (fun e b0 => ?_) (fun e b0 b1 => ?_) (fun e b0 b1 b2 => ?_) (fun e b0 b1 b2 b3 => ?_) (fun e b0 b1 b2 b3 => ?_)
 ·rw [e]
  refine pc_body2 true Tryz.func113 rfl rfl rfl (Nat.le_of_ble_eq_true rfl) (CellT.agg agg_ser) CellT.tmp ?_
  refine goA ?_
  exact rfl
 ·rw [e]
  refine pc_body2 true Tryz.func113 rfl rfl rfl (Nat.le_of_ble_eq_true rfl) (CellT.agg agg_ser) CellT.tmp ?_
  refine goA ?_
  exact rfl
 ·rw [e]
  refine pc_body2 true Tryz.func113 rfl rfl rfl (Nat.le_of_ble_eq_true rfl) (CellT.agg agg_ser) CellT.tmp ?_
  refine goA ?_
  exact rfl
 ·rw [e]
  refine pc_body2 true Tryz.func113 rfl rfl rfl (Nat.le_of_ble_eq_true rfl) (CellT.agg agg_ser) CellT.tmp ?_
  refine goA ?_
  exact rfl
 rw [e]
 simp only [if_true]
 unfold MV at e
 simp only [Bool.and_eq_true, decide_eq_true_eq] at e
 obtain ⟨⟨⟨a0, a1⟩, a2⟩, a3⟩ := e
 by_cases h1 : n ≥ p
 ·have hb : decide (n ≥ p) = true := by simp [h1]
  rw [if_pos h1]
  refine pc_body2 true Tryz.func113 rfl rfl rfl (Nat.le_of_ble_eq_true rfl) (CellT.agg agg_ser) CellT.tmp ?_
  refine goA ?_
  exact rfl
 have hb : decide (n ≥ p) = false := by simp; omega
 rw [if_neg h1]
 obtain ⟨k, hk⟩ : ∃ k : Nat, (p - n).toNat = k + 1 := ⟨(p - n).toNat - 1, by omega⟩
 have hbuild := build_p (s := n) (es := .agg [.p (.bool g), .sl xs, .p (.bool g'), .sl xs'] :: List.replicate k rz) (l := c :: List.replicate k 0) (K := K) ⟨ha, isL_rep (isV_rz K) k⟩ (by omega) (by omega) (by omega) (by simp; omega)
 rw [serE_eq] at hbuild
 rw [show (p - n).toNat - 1 = k by omega]
 refine pc_body2 true Tryz.func113 rfl rfl rfl (Nat.le_of_ble_eq_true rfl) (CellT.agg agg_ser) CellT.tmp ?_
 refine r1A ?_
 refine T.seqI (fun s1 => s1 = mkS [(1, .v (.p (.int .i64 n))), (2, .v (.p (.int .i64 p))), (3, .ptr 3 0), (6, .ptr 6 0)] [(3, .var [.v (.p (.bool g)), .v (.sl xs), .v (.p (.bool g')), .v (.sl xs')]), (6, var0)] 41 true) ?_ ?_
 ·refine goA ?_
  exact midQ_intro (by exact entA) rfl
 rintro _ rfl
 refine T.seqI (fun s1 => s1 = mkS [(1, .v (.p (.int .i64 n))), (2, .v (.p (.int .i64 p))), (3, .ptr 3 0), (6, .ptr 6 0)] [(3, .var [.v (.p (.bool g)), .v (.sl xs), .v (.p (.bool g')), .v (.sl xs')]), (6, var0)] 41 true) ?_ ?_
 ·refine goA ?_
  exact midQ_intro (by exact entA) rfl
 rintro _ rfl
 refine T.seqI (fun s1 => s1 = mkS [(1, .v (.p (.int .i64 n))), (3, .ptr 3 0), (6, .ptr 6 0), (8, .own 30 (k + 1))] [(3, .var [.v (.p (.bool g)), .v (.sl xs), .v (.p (.bool g')), .v (.sl xs')]), (6, var0), (30, .lst 4 56 (List.replicate (k + 1) rz))] 41 true) ?_ ?_
 ·refine goA ?_
  refine evG ggA (ss_make 30 (e0 := rz) (InB_of rfl) (make_tab rfl) rfl rfl rfl (by omega) (by omega) (by omega) (by omega) rfl rfl rfl) ?_
  refine goA ?_
  exact midQ_intro (s' := mkS [(1, .v (.p (.int .i64 n))), (3, .ptr 3 0), (6, .ptr 6 0), (8, .own 30 (p - n).toNat)] [(3, .var [.v (.p (.bool g)), .v (.sl xs), .v (.p (.bool g')), .v (.sl xs')]), (6, var0), (30, .lst 4 56 (List.replicate (p - n).toNat rz))] 41 true) (by exact entA) (by rw [hk])
 rintro _ rfl
 have hel : (List.replicate (k + 1) rz).length = k + 1 := by simp
 refine T.seqI (fun s1 => s1 = mkS [(1, .v (.p (.int .i64 n))), (6, .ptr 6 0), (8, .own 30 (k + 1))] [(6, var0), (30, .lst 4 56 (.agg [.p (.bool g), .sl xs, .p (.bool g'), .sl xs'] :: List.replicate k rz))] 41 true) ?_ ?_
 ·refine goA ?_
  refine evG ggA (ss_index_own (InB_of rfl) (elem_tab rfl) rfl rfl hel rfl (by omega) (by omega)) ?_
  refine evG ggA (ss_store_own rfl (size_tab rfl) rfl rfl hel (Nat.succ_pos k) rfl rfl (fun l e => by cases e) rfl) ?_
  refine goA ?_
  exact midQ_intro (by exact entA) rfl
 rintro _ rfl
 have hx0 : (AV.agg [.p (.bool g), .sl xs, .p (.bool g'), .sl xs'] :: List.replicate k rz).length = k + 1 := by simp
 refine T.weak (s' := mkS [(1, .v (.p (.int .i64 n))), (6, .ptr 6 0), (8, .v (.sl (.agg [.p (.bool g), .sl xs, .p (.bool g'), .sl xs'] :: List.replicate k rz)))] [(6, var0)] 41 true) (by exact entA) ?_
 refine goA ?_
 refine evG ggA (ss_call (InB_of rfl) rfl rfl hbuild) ?_
 refine goA ?_
 exact rfl
theorem scut_p {s p : Int} {es : List AV} {l : List Rat} {K : Nat} (h : IsL es K l) (hK : 1 ≤ K ∧ K ≤ 268435456) (a0 : -100 ≤ s) (a1 : s ≤ 1000) (a2 : (es.length : Int) ≤ 1000 - s) (p0 : -9223372036854775808 ≤ p) (p1 : p ≤ 9223372036854775807) : PC Tryz.prog 131 [serA s es, .p (.int .i64 p)] (serA (cutS s l p).1 ((cutS s l p).2.map encQ)) := by
 have hlen := h.get.1
 have hpr := prec_p a0 a1 a2
 unfold cutS
 by_cases h1 : s + l.length ≤ p
 ·have hb : decide (p ≥ s + (es.length : Int)) = true := by simp; omega
  have ht := tidy_p h (by omega) a0 a1 a2
  rw [if_pos h1]
  refine pc_body1 true Tryz.func131 rfl rfl rfl (Nat.le_of_ble_eq_true rfl) (CellT.agg agg_ser) ?_
  refine goA ?_
  refine evG ggA (ss_call (InB_of rfl) rfl rfl hpr) ?_
  refine goA ?_
  refine evG ggA (ss_call (InB_of rfl) rfl rfl ht) ?_
  refine goA ?_
  exact rfl
 ·have hb : decide (p ≥ s + (es.length : Int)) = false := by simp; omega
  rw [if_neg h1]
  by_cases h2 : p ≤ s
  ·have hb2 : decide (p ≤ s) = true := by simp [h2]
   rw [if_pos h2]
   refine pc_body1 true Tryz.func131 rfl rfl rfl (Nat.le_of_ble_eq_true rfl) (CellT.agg agg_ser) ?_
   refine goA ?_
   refine evG ggA (ss_call (InB_of rfl) rfl rfl hpr) ?_
   refine goA ?_
   exact rfl
  ·have hb2 : decide (p ≤ s) = false := by simp; omega
   rw [if_neg h2]
   have ht := tidy_p (s := s) (h.take (p - s).toNat) (by omega) a0 a1 (by simp; omega)
   refine pc_body1 true Tryz.func131 rfl rfl rfl (Nat.le_of_ble_eq_true rfl) (CellT.agg agg_ser) ?_
   refine goA ?_
   refine evG ggA (ss_call (InB_of rfl) rfl rfl hpr) ?_
   refine goA ?_
   refine evG ggA (ss_slice_h (InB_of rfl) (elem_tab rfl) rfl (isL_cells h) rfl (by omega) (by omega)) ?_
   refine goA ?_
   refine evG ggA (ss_call (InB_of rfl) rfl rfl ht) ?_
   refine goA ?_
   exact rfl
theorem scutx_p {s p : Int} {es : List AV} {l : List Rat} {K : Nat} (h : ValidP s es.length = true → IsL es K l) (hle : es.length = l.length) (hr : InR s es.length) (hK : 1 ≤ K ∧ K ≤ 268435456) (p0 : -9223372036854775808 ≤ p) (p1 : p ≤ 9223372036854775807) : PC Tryz.prog 50 [serA s es, .p (.int .i64 p)] (serE (cutR s l p)) := by
  obtain ⟨i1, i2, i3⟩ := hr
  have hva := valid_p i1 i2 i3
  rw [serE_eq]
  unfold cutR
  rw [← hle]
  cases h1 : ValidP s es.length with
  | false =>
    rw [h1] at hva
    refine pc_body2 true Tryz.func50 rfl rfl rfl (Nat.le_of_ble_eq_true rfl) (CellT.agg agg_ser) CellT.tmp ?_
    refine goA ?_
    refine evG ggA (ss_call (InB_of rfl) rfl rfl hva) ?_
    refine goA ?_
    exact rfl
  | true =>
    rw [h1] at hva
    obtain ⟨a0, a1, a2⟩ := valid_iff.1 h1
    have ht := scut_p (h h1) hK a0 a1 a2 p0 p1
    by_cases h2 : -100 ≤ p
    · have hb : decide (p < -100) = false := by simp; omega
      rw [show decide (-100 ≤ p) = true by simp [h2]]
      refine pc_body2 true Tryz.func50 rfl rfl rfl (Nat.le_of_ble_eq_true rfl) (CellT.agg agg_ser) CellT.tmp ?_
      refine goA ?_
      refine evG ggA (ss_call (InB_of rfl) rfl rfl hva) ?_
      refine goA ?_
      refine evG ggA (ss_call (InB_of rfl) rfl rfl ht) ?_
      refine goA ?_
      exact rfl
    · have hb : decide (p < -100) = true := by simp; omega
      rw [show decide (-100 ≤ p) = false by simp; omega]
      refine pc_body2 true Tryz.func50 rfl rfl rfl (Nat.le_of_ble_eq_true rfl) (CellT.agg agg_ser) CellT.tmp ?_
      refine goA ?_
      refine evG ggA (ss_call (InB_of rfl) rfl rfl hva) ?_
      refine goA ?_
      exact rfl
end Ab
namespace Ab
open Go Go.RowKit Go.Proofs Hp
set_option maxRecDepth 100000
theorem sht_comb {s t : Int} {l m : List Rat} {c : Int} {K : Nat} (hK : 1 ≤ K) (hl : ∀ q, q ∈ l → Ht q K) (hm : ∀ q, q ∈ m → Ht q K) (hc : c.natAbs < 4294967296) (i : Nat) : Ht (comb s l t m c i) (2 * K + 2) :=
 (ht_add (ht_cf hK hl _) (ht_mul (ht_int hc) (ht_cf hK hm _) (Nat.le_refl _))).mono (by omega)
set_option maxHeartbeats 2000000 in
theorem scombine_p {s t c : Int} {es fs : List AV} {l m : List Rat} {K : Nat} (hl : ValidP s es.length = true → ValidP t fs.length = true → IsL es K l) (hm : ValidP s es.length = true → ValidP t fs.length = true → IsL fs K m) (hle : es.length = l.length) (hlf : fs.length = m.length) (hK : 1 ≤ K ∧ K ≤ 268435456)
    (hs : -9223372036854775808 ≤ s ∧ s ≤ 9223372036854775807 ∧ es.length ≤ 9223372036854775807) (ht : -9223372036854775808 ≤ t ∧ t ≤ 9223372036854775807 ∧ fs.length ≤ 9223372036854775807) (hc : c.natAbs < 4294967296) : PC Tryz.prog 130 [serA s es, serA t fs, .p (.int .i64 c)] (serE (combR s l t m c)) := by
  have hva := valid_p hs.1 hs.2.1 hs.2.2
  have hvb := valid_p ht.1 ht.2.1 ht.2.2
  rw [serE_eq]
  unfold combR
  rw [← hle, ← hlf]
  cases h1 : ValidP s es.length with
  | false =>
    rw [h1] at hva
    refine pc_body2 true Tryz.func130 rfl rfl rfl (Nat.le_of_ble_eq_true rfl) (CellT.agg agg_ser) CellT.tmp ?_
    refine goA ?_
    refine evG ggA (ss_call (InB_of rfl) rfl rfl hva) ?_
    refine goA ?_
    exact rfl
  | true =>
  rw [h1] at hva
  cases h2 : ValidP t fs.length with
  | false =>
    rw [h2] at hvb
    refine pc_body2 true Tryz.func130 rfl rfl rfl (Nat.le_of_ble_eq_true rfl) (CellT.agg agg_ser) CellT.tmp ?_
    refine goA ?_
    refine evG ggA (ss_call (InB_of rfl) rfl rfl hva) ?_
    refine goA ?_
    refine evG ggA (ss_call (InB_of rfl) rfl rfl hvb) ?_
    refine goA ?_
    exact rfl
  | true =>
  rw [h2] at hvb
  have hL := hl h1 h2
  have hM := hm h1 h2
  obtain ⟨a0, a1, a2⟩ := valid_iff.1 h1
  obtain ⟨b0, b1, b2⟩ := valid_iff.1 h2
  have hpa := prec_p a0 a1 a2
  have hpb := prec_p b0 b1 b2
  simp only [Bool.and_true, if_true]
  have hhc : ∀ i, Ht (comb s l t m c i) (2 * K + 2) := sht_comb hK.1 (isL_ht hL hK.1) (isL_ht hM hK.1) hc
  have hcomb : comb s l t m c = fun (i : Nat) => cf s l (min (min s t) (min (s + es.length) (t + fs.length)) + i) + c * cf t m (min (min s t) (min (s + es.length) (t + fs.length)) + i) := by funext i; unfold comb cfr cp; rw [← hle, ← hlf]
  have hof := rof_p c (by omega) (by omega)
  unfold cfr cp
  generalize comb s l t m c = F at *
  refine pc_body2 true Tryz.func130 rfl rfl rfl (Nat.le_of_ble_eq_true rfl) (CellT.agg agg_ser) CellT.tmp ?_
  refine goA ?_
  refine evG ggA (ss_call (InB_of rfl) rfl rfl hva) ?_
  refine goA ?_
  refine evG ggA (ss_call (InB_of rfl) rfl rfl hvb) ?_
  refine goA ?_
  refine evG ggA (ss_call (InB_of rfl) rfl rfl hpa) ?_
  refine goA ?_
  refine evG ggA (ss_call (InB_of rfl) rfl rfl hpb) ?_
  refine goA ?_
  generalize hp : min (s + (es.length : Int)) (t + (fs.length : Int)) = p at *
  generalize hf : min (min s t) p = f at *
  obtain ⟨N, hN⟩ : ∃ N, N = (p - f).toNat := ⟨_, rfl⟩
  rw [← hN]
  refine evG ggA (ss_make 35 (e0 := rz) (InB_of rfl) (make_tab rfl) rfl rfl rfl (by omega) (by omega) (by omega) (by omega) rfl rfl rfl) ?_
  refine runA ?_
  refine ev_nil ?_
  refine seqQ_n ?_
  refine T.seqI (fun s1 => s1 = mkS [(9, .v (.p (.int .i64 f))), (10, .own 35 N), (6, .ptr 6 0)] [(6, var0), (35, .lst 4 56 ((tk F N).map encQ))] 60 true) ?_ ?_
  · refine r1A ?_
    refine T.block ?_
    refine T.loop (fun n s1 => ∃ j : Nat, n = N - j ∧ j ≤ N ∧ s1 = mkS [(2, .v (.p (.int .i64 c))), (3, .ptr 3 0), (4, .ptr 4 0), (8, .v (.p (.int .i64 p))), (9, .v (.p (.int .i64 f))), (11, .v (.p (.int .i64 (f + j)))), (10, .own 35 j), (6, .ptr 6 0)] [(3, .var [.v (.p (.int .i64 s)), .v (.sl es)]), (4, .var [.v (.p (.int .i64 t)), .v (.sl fs)]), (6, var0), (35, .lst 4 56 ((tk F j).map encQ))] 60 true) N
      (s' := mkS [(2, .v (.p (.int .i64 c))), (3, .ptr 3 0), (4, .ptr 4 0), (8, .v (.p (.int .i64 p))), (9, .v (.p (.int .i64 f))), (11, .v (.p (.int .i64 f))), (10, .own 35 0), (6, .ptr 6 0)] [(3, .var [.v (.p (.int .i64 s)), .v (.sl es)]), (4, .var [.v (.p (.int .i64 t)), .v (.sl fs)]), (6, var0), (35, .lst 4 56 ((tk F 0).map encQ))] 60 true) (by exact entA) ⟨0, rfl, Nat.zero_le _, by simp⟩ ?_
    rintro n _ ⟨j, rfl, hj, rfl⟩
    by_cases hlt : j < N
    · have hb : decide (f + (j : Int) < p) = true := by simp; omega
      have c1 := at_p hL a0 a1 a2 (m := f + j) (by omega) (by omega)
      have c2 := at_p hM b0 b1 b2 (m := f + j) (by omega) (by omega)
      obtain ⟨l1, e1, e2, e3⟩ := isV_lit (isV_at (s := s) hL hK.1 (f + j))
      have v1 := isV_at (s := s) hL hK.1 (f + j)
      have v2 := isV_at (s := t) hM hK.1 (f + j)
      rw [e1] at c1 v1
      obtain ⟨l2, e4, e5, e6⟩ := isV_lit v2
      rw [e4] at c2 v2
      have c3 := rmul_p (isV_encQ (ht_int hc)) (by omega) v2 (by omega)
      have c4 := radd_p v1 (by omega) (isV_encQ (ht_mul (ht_int hc) (isV_ht v2 hK.1) (Nat.le_refl _))) (by omega)
      have hF : F j = cf s l (f + j) + c * cf t m (f + j) := by rw [hcomb]
      rw [← hF] at c4
      refine goA ?_
      refine evG ggA (ss_call (InB_of rfl) rfl rfl c1) ?_
      refine goA ?_
      refine evG ggA (ss_call (InB_of rfl) rfl rfl hof) ?_
      refine goA ?_
      refine evG ggA (ss_call (InB_of rfl) rfl rfl c2) ?_
      refine evG ggA (ss_call (InB_of rfl) rfl rfl c3) ?_
      refine evG ggA (ss_call (InB_of rfl) rfl rfl c4) ?_
      (refine evG ggA (ss_bslice (InB_of rfl) (make_tab rfl) rfl rfl rfl rfl (one_ok rfl rfl) (Nat.le_of_ble_eq_true rfl)) ?_; refine evG ggA (ss_snoc (InB_of rfl) (make_tab rfl) rfl rfl (by first | rfl | assumption | (simp; done) | (simp; omega)) rfl (by omega) (Nat.le_of_ble_eq_true rfl) rfl) ?_)
      refine goA ?_
      exact loopQ_intro (k := N - (j + 1)) (s' := mkS [(2, .v (.p (.int .i64 c))), (3, .ptr 3 0), (4, .ptr 4 0), (8, .v (.p (.int .i64 p))), (9, .v (.p (.int .i64 f))), (11, .v (.p (.int .i64 (f + (j : Int) + 1)))), (10, .own 35 (j + 1)), (6, .ptr 6 0)] [(3, .var [.v (.p (.int .i64 s)), .v (.sl es)]), (4, .var [.v (.p (.int .i64 t)), .v (.sl fs)]), (6, var0), (35, .lst 4 56 ((tk F j ++ [F j]).map encQ))] 60 true) (by omega) (by exact entA) ⟨j + 1, rfl, hlt, by rw [tk_succ, Int.natCast_succ, ← Int.add_assoc]⟩
    · obtain rfl : j = N := by omega
      have hb : decide (f + (j : Int) < p) = false := by simp; omega
      refine goA ?_
      exact midQ_intro (s' := mkS [(9, .v (.p (.int .i64 f))), (10, .own 35 j), (6, .ptr 6 0)] [(6, var0), (35, .lst 4 56 ((tk F j).map encQ))] 60 true) (by exact entA) rfl
  rintro _ rfl
  have hbuild := build_p (s := f) (isL_enc (l := tk F N) (k := 2 * K + 2) (fun q hq => by obtain ⟨i, -, rfl⟩ := tk_mem hq; exact hhc i)) (by omega) (by omega) (by omega) (by rw [tk_len]; omega)
  rw [serE_eq] at hbuild
  refine T.weak (s' := mkS [(9, .v (.p (.int .i64 f))), (10, .v (.sl ((tk F N).map encQ))), (6, .ptr 6 0)] [(6, var0)] 60 true) (by exact entA) ?_
  refine goA ?_
  refine evG ggA (ss_call (InB_of rfl) rfl rfl hbuild) ?_
  refine goA ?_
  exact rfl
theorem ssub_p {s t : Int} {es fs : List AV} {l m : List Rat} {K : Nat} (h : Both s es t fs K l m) (hK : 1 ≤ K ∧ K ≤ 268435456) : PC Tryz.prog 47 [serA s es, serA t fs] (serE (combR s l t m (-1))) := by
 obtain ⟨h1, h2, h3, ⟨a, b, c⟩, ⟨d, e, f⟩⟩ := h
 have hc := scombine_p (c := -1) (fun x y => (h1 x y).1) (fun x y => (h1 x y).2) h2 h3 hK ⟨a, b, c⟩ ⟨d, e, f⟩ (by decide)
 rw [serE_eq] at hc ⊢
 refine pc_body2 true Tryz.func47 rfl rfl rfl (Nat.le_of_ble_eq_true rfl) (CellT.agg agg_ser) CellT.tmp ?_
 refine goA ?_
 refine evG ggA (ss_call (InB_of rfl) rfl rfl hc) ?_
 refine goA ?_
 exact rfl
theorem sscl_tk {c : Rat} {s : Int} {f : Nat → Rat} {n K : Nat} (hc : Ht c K) (c0 : c ≠ 0) (hK : 1 ≤ K) (hK2 : K ≤ 1000) (f0 : f 0 ≠ 0) (hf : ∀ i, i < n → Ht (f i) K) (s0 : -50 ≤ s) (s1 : s ≤ 50) (hn : n ≤ 100) :
  PC Tryz.prog 48 [encQ c, serA s ((tk f n).map encQ)] (.tup [serA s ((tk (fun i => c * f i) n).map encQ), iV 0]) := by
 have h := scale_p (a := encQ c) (c := c) (k := K) (s := s) (es := (tk f n).map encQ) (l := tk f n) (K := K) (isV_encQ hc) (fun _ => isL_enc (ht_tk hf)) (by simp) (inR_tk (by omega) (by omega) (by omega)) hK hK (by omega)
 rw [sclR_tk c0 f0 (by omega) (by omega)] at h
 exact h
theorem w4_at {n : Nat} (h : n < 40) : pq (eiV 4) 3 n = w4.getD n 0 := by rw [← w4_eq, tk_get h]
theorem jL_at {n : Nat} (h : n < 40) : jV n = jL.getD n 0 := by rw [← jV_eq, tk_get h]
end Ab
namespace Ab
open Go Go.RowKit Go.Proofs Hp
set_option maxRecDepth 100000
end Ab
