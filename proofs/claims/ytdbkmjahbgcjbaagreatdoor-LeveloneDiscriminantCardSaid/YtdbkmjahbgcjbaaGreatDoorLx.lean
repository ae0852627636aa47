/- Monomial, of the program and of the document, Zeros of the base; in abstract values (as in XMakB). What Levelone's statement on the discriminant needs: the power of E6, products, differences and cuts of listed series; the identities to q^30 by the kernel. Miller's basis of weight 12, of the program: walked. Condition: the contracts of what it calls. -/
import Derived.Test.YtdbkmjahbgcjbaaGreatDoorZJ
import Derived.Test.YtdbkmjahbgcjbaaGreatDoorLe
import Derived.Test.YtdbkmjahbgcjbaaGreatDoorHjA
set_option linter.all false
namespace Ab
open Go Go.RowKit Go.Proofs Hp
set_option maxRecDepth 100000
def MV (n p : Int) : Bool := decide (-100 ≤ n) && decide (n ≤ 1000) && decide (-100 ≤ p) && decide (p ≤ 1000)
def monR (c : Rat) (n p : Int) : Option (Int × List Rat) := if MV n p then (if n ≥ p then some (p, []) else nrm n (c :: List.replicate ((p - n).toNat - 1) 0)) else none
theorem isL_rep {e : AV} {k : Nat} (h : IsV e k 0) : ∀ n, IsL (List.replicate n e) k (List.replicate n 0)
 | 0 => trivial
 | n + 1 => ⟨h, isL_rep h n⟩
theorem mv_cases {n p : Int} {Q : Prop} (h0 : MV n p = false → decide (n < -100) = true → Q) (h1 : MV n p = false → decide (n < -100) = false → decide (n > 1000) = true → Q)
  (h2 : MV n p = false → decide (n < -100) = false → decide (n > 1000) = false → decide (p < -100) = true → Q) (h3 : MV n p = false → decide (n < -100) = false → decide (n > 1000) = false → decide (p < -100) = false → decide (p > 1000) = true → Q)
  (h4 : MV n p = true → decide (n < -100) = false → decide (n > 1000) = false → decide (p < -100) = false → decide (p > 1000) = false → Q) : Q := by
 unfold MV at *
 by_cases a0 : n < -100
 ·exact h0 (by simp; omega) (by simp [a0])
 by_cases a1 : n > 1000
 ·exact h1 (by simp; omega) (by simp; omega) (by simp; omega)
 by_cases a2 : p < -100
 ·exact h2 (by simp; omega) (by simp; omega) (by simp; omega) (by simp; omega)
 by_cases a3 : p > 1000
 ·exact h3 (by simp; omega) (by simp; omega) (by simp; omega) (by simp; omega) (by simp; omega)
 ·exact h4 (by simp; omega) (by simp; omega) (by simp; omega) (by simp; omega) (by simp; omega)
set_option maxHeartbeats 2000000 in
theorem monomial_p {a : AV} {c : Rat} {K : Nat} {n p : Int} (ha : IsV a K c) (hK : 1 ≤ K ∧ K ≤ 100000000) : PC Tryz.prog 113 [a, .p (.int .i64 n), .p (.int .i64 p)] (serE (monR c n p)) := by
 obtain ⟨g, xs, g', xs', rfl⟩ := isV_cells ha
 rw [serE_eq]
 unfold monR
 refine mv_cases (n := n) (p := p) (fun e b0 => ?_) (fun e b0 b1 => ?_) (fun e b0 b1 b2 => ?_) (fun e b0 b1 b2 b3 => ?_) (fun e b0 b1 b2 b3 => ?_)
 ·rw [e]
  refine pc_body2 true Tryz.func113 rfl rfl rfl (Nat.le_of_ble_eq_true rfl) (CellT.agg agg_ser) CellT.tmp ?_
  refine goA ?_
  exact rfl
 ·rw [e]
  refine pc_body2 true Tryz.func113 rfl rfl rfl (Nat.le_of_ble_eq_true rfl) (CellT.agg agg_ser) CellT.tmp ?_
  refine goA ?_
  exact rfl
 ·rw [e]
  refine pc_body2 true Tryz.func113 rfl rfl rfl (Nat.le_of_ble_eq_true rfl) (CellT.agg agg_ser) CellT.tmp ?_
  refine goA ?_
  exact rfl
 ·rw [e]
  refine pc_body2 true Tryz.func113 rfl rfl rfl (Nat.le_of_ble_eq_true rfl) (CellT.agg agg_ser) CellT.tmp ?_
  refine goA ?_
  exact rfl
 rw [e]
 simp only [if_true]
 unfold MV at e
 simp only [Bool.and_eq_true, decide_eq_true_eq] at e
 obtain ⟨⟨⟨a0, a1⟩, a2⟩, a3⟩ := e
 by_cases h1 : n ≥ p
 ·have hb : decide (n ≥ p) = true := by simp [h1]
  rw [if_pos h1]
  refine pc_body2 true Tryz.func113 rfl rfl rfl (Nat.le_of_ble_eq_true rfl) (CellT.agg agg_ser) CellT.tmp ?_
  refine goA ?_
  exact rfl
 have hb : decide (n ≥ p) = false := by simp; omega
 rw [if_neg h1]
 obtain ⟨k, hk⟩ : ∃ k : Nat, (p - n).toNat = k + 1 := ⟨(p - n).toNat - 1, by omega⟩
 have hbuild := build_p (s := n) (es := .agg [.p (.bool g), .sl xs, .p (.bool g'), .sl xs'] :: List.replicate k rz) (l := c :: List.replicate k 0) (K := K) ⟨ha, isL_rep (isV_rz K) k⟩ (by omega) (by omega) (by omega) (by simp; omega)
 rw [serE_eq] at hbuild
 rw [show (p - n).toNat - 1 = k by omega]
 refine pc_body2 true Tryz.func113 rfl rfl rfl (Nat.le_of_ble_eq_true rfl) (CellT.agg agg_ser) CellT.tmp ?_
 refine r1A ?_
 refine T.seqI (fun s1 => s1 = mkS [(1, .v (.p (.int .i64 n))), (2, .v (.p (.int .i64 p))), (3, .ptr 3 0), (6, .ptr 6 0)] [(3, .var [.v (.p (.bool g)), .v (.sl xs), .v (.p (.bool g')), .v (.sl xs')]), (6, var0)] 41 true) ?_ ?_
 ·refine goA ?_
  exact midQ_intro (by exact entA) rfl
 rintro _ rfl
 refine T.seqI (fun s1 => s1 = mkS [(1, .v (.p (.int .i64 n))), (2, .v (.p (.int .i64 p))), (3, .ptr 3 0), (6, .ptr 6 0)] [(3, .var [.v (.p (.bool g)), .v (.sl xs), .v (.p (.bool g')), .v (.sl xs')]), (6, var0)] 41 true) ?_ ?_
 ·refine goA ?_
  exact midQ_intro (by exact entA) rfl
 rintro _ rfl
 refine T.seqI (fun s1 => s1 = mkS [(1, .v (.p (.int .i64 n))), (3, .ptr 3 0), (6, .ptr 6 0), (8, .own 30 (k + 1))] [(3, .var [.v (.p (.bool g)), .v (.sl xs), .v (.p (.bool g')), .v (.sl xs')]), (6, var0), (30, .lst 4 56 (List.replicate (k + 1) rz))] 41 true) ?_ ?_
 ·refine goA ?_
  refine evG ggA (ss_make 30 (e0 := rz) (InB_of rfl) (make_tab rfl) rfl rfl rfl (by omega) (by omega) (by omega) (by omega) rfl rfl rfl) ?_
  refine goA ?_
  exact midQ_intro (s' := mkS [(1, .v (.p (.int .i64 n))), (3, .ptr 3 0), (6, .ptr 6 0), (8, .own 30 (p - n).toNat)] [(3, .var [.v (.p (.bool g)), .v (.sl xs), .v (.p (.bool g')), .v (.sl xs')]), (6, var0), (30, .lst 4 56 (List.replicate (p - n).toNat rz))] 41 true) (by exact entA) (by rw [hk])
 rintro _ rfl
 have hel : (List.replicate (k + 1) rz).length = k + 1 := by simp
 refine T.seqI (fun s1 => s1 = mkS [(1, .v (.p (.int .i64 n))), (6, .ptr 6 0), (8, .own 30 (k + 1))] [(6, var0), (30, .lst 4 56 (.agg [.p (.bool g), .sl xs, .p (.bool g'), .sl xs'] :: List.replicate k rz))] 41 true) ?_ ?_
 ·refine goA ?_
  refine evG ggA (ss_index_own (InB_of rfl) (elem_tab rfl) rfl rfl hel rfl (by omega) (by omega)) ?_
  refine evG ggA (ss_store_own rfl (size_tab rfl) rfl rfl hel (Nat.succ_pos k) rfl rfl (fun l e => by cases e) rfl) ?_
  refine goA ?_
  exact midQ_intro (by exact entA) rfl
 rintro _ rfl
 have hx0 : (AV.agg [.p (.bool g), .sl xs, .p (.bool g'), .sl xs'] :: List.replicate k rz).length = k + 1 := by simp
 refine T.weak (s' := mkS [(1, .v (.p (.int .i64 n))), (6, .ptr 6 0), (8, .v (.sl (.agg [.p (.bool g), .sl xs, .p (.bool g'), .sl xs'] :: List.replicate k rz)))] [(6, var0)] 41 true) (by exact entA) ?_
 refine goA ?_
 refine evG ggA (ss_call (InB_of rfl) rfl rfl hbuild) ?_
 refine goA ?_
 exact rfl
theorem scut_p {s p : Int} {es : List AV} {l : List Rat} {K : Nat} (h : IsL es K l) (hK : 1 ≤ K ∧ K ≤ 268435456) (a0 : -100 ≤ s) (a1 : s ≤ 1000) (a2 : (es.length : Int) ≤ 1000 - s) (p0 : -9223372036854775808 ≤ p) (p1 : p ≤ 9223372036854775807) : PC Tryz.prog 131 [serA s es, .p (.int .i64 p)] (serA (cutS s l p).1 ((cutS s l p).2.map encQ)) := by
 have hlen := h.get.1
 have hpr := prec_p a0 a1 a2
 unfold cutS
 by_cases h1 : s + l.length ≤ p
 ·have hb : decide (p ≥ s + (es.length : Int)) = true := by simp; omega
  have ht := tidy_p h (by omega) a0 a1 a2
  rw [if_pos h1]
  refine pc_body1 true Tryz.func131 rfl rfl rfl (Nat.le_of_ble_eq_true rfl) (CellT.agg agg_ser) ?_
  refine goA ?_
  refine evG ggA (ss_call (InB_of rfl) rfl rfl hpr) ?_
  refine goA ?_
  refine evG ggA (ss_call (InB_of rfl) rfl rfl ht) ?_
  refine goA ?_
  exact rfl
 ·have hb : decide (p ≥ s + (es.length : Int)) = false := by simp; omega
  rw [if_neg h1]
  by_cases h2 : p ≤ s
  ·have hb2 : decide (p ≤ s) = true := by simp [h2]
   rw [if_pos h2]
   refine pc_body1 true Tryz.func131 rfl rfl rfl (Nat.le_of_ble_eq_true rfl) (CellT.agg agg_ser) ?_
   refine goA ?_
   refine evG ggA (ss_call (InB_of rfl) rfl rfl hpr) ?_
   refine goA ?_
   exact rfl
  ·have hb2 : decide (p ≤ s) = false := by simp; omega
   rw [if_neg h2]
   have ht := tidy_p (s := s) (h.take (p - s).toNat) (by omega) a0 a1 (by simp; omega)
   refine pc_body1 true Tryz.func131 rfl rfl rfl (Nat.le_of_ble_eq_true rfl) (CellT.agg agg_ser) ?_
   refine goA ?_
   refine evG ggA (ss_call (InB_of rfl) rfl rfl hpr) ?_
   refine goA ?_
   refine evG ggA (ss_slice_h (InB_of rfl) (elem_tab rfl) rfl (isL_cells h) rfl (by omega) (by omega)) ?_
   refine goA ?_
   refine evG ggA (ss_call (InB_of rfl) rfl rfl ht) ?_
   refine goA ?_
   exact rfl
theorem scutx_p {s p : Int} {es : List AV} {l : List Rat} {K : Nat} (h : ValidP s es.length = true → IsL es K l) (hle : es.length = l.length) (hr : InR s es.length) (hK : 1 ≤ K ∧ K ≤ 268435456) (p0 : -9223372036854775808 ≤ p) (p1 : p ≤ 9223372036854775807) : PC Tryz.prog 50 [serA s es, .p (.int .i64 p)] (serE (cutR s l p)) := by
  obtain ⟨i1, i2, i3⟩ := hr
  have hva := valid_p i1 i2 i3
  rw [serE_eq]
  unfold cutR
  rw [← hle]
  cases h1 : ValidP s es.length with
  | false =>
    rw [h1] at hva
    refine pc_body2 true Tryz.func50 rfl rfl rfl (Nat.le_of_ble_eq_true rfl) (CellT.agg agg_ser) CellT.tmp ?_
    refine goA ?_
    refine evG ggA (ss_call (InB_of rfl) rfl rfl hva) ?_
    refine goA ?_
    exact rfl
  | true =>
    rw [h1] at hva
    obtain ⟨a0, a1, a2⟩ := valid_iff.1 h1
    have ht := scut_p (h h1) hK a0 a1 a2 p0 p1
    by_cases h2 : -100 ≤ p
    · have hb : decide (p < -100) = false := by simp; omega
      rw [show decide (-100 ≤ p) = true by simp [h2]]
      refine pc_body2 true Tryz.func50 rfl rfl rfl (Nat.le_of_ble_eq_true rfl) (CellT.agg agg_ser) CellT.tmp ?_
      refine goA ?_
      refine evG ggA (ss_call (InB_of rfl) rfl rfl hva) ?_
      refine goA ?_
      refine evG ggA (ss_call (InB_of rfl) rfl rfl ht) ?_
      refine goA ?_
      exact rfl
    · have hb : decide (p < -100) = true := by simp; omega
      rw [show decide (-100 ≤ p) = false by simp; omega]
      refine pc_body2 true Tryz.func50 rfl rfl rfl (Nat.le_of_ble_eq_true rfl) (CellT.agg agg_ser) CellT.tmp ?_
      refine goA ?_
      refine evG ggA (ss_call (InB_of rfl) rfl rfl hva) ?_
      refine goA ?_
      exact rfl
end Ab
namespace Ab
open Go Go.RowKit Go.Proofs Hp
set_option maxRecDepth 100000
theorem sht_comb {s t : Int} {l m : List Rat} {c : Int} {K : Nat} (hK : 1 ≤ K) (hl : ∀ q, q ∈ l → Ht q K) (hm : ∀ q, q ∈ m → Ht q K) (hc : c.natAbs < 4294967296) (i : Nat) : Ht (comb s l t m c i) (2 * K + 2) :=
 (ht_add (ht_cf hK hl _) (ht_mul (ht_int hc) (ht_cf hK hm _) (Nat.le_refl _))).mono (by omega)
set_option maxHeartbeats 2000000 in
theorem scombine_p {s t c : Int} {es fs : List AV} {l m : List Rat} {K : Nat} (hl : ValidP s es.length = true → ValidP t fs.length = true → IsL es K l) (hm : ValidP s es.length = true → ValidP t fs.length = true → IsL fs K m) (hle : es.length = l.length) (hlf : fs.length = m.length) (hK : 1 ≤ K ∧ K ≤ 268435456)
    (hs : -9223372036854775808 ≤ s ∧ s ≤ 9223372036854775807 ∧ es.length ≤ 9223372036854775807) (ht : -9223372036854775808 ≤ t ∧ t ≤ 9223372036854775807 ∧ fs.length ≤ 9223372036854775807) (hc : c.natAbs < 4294967296) : PC Tryz.prog 130 [serA s es, serA t fs, .p (.int .i64 c)] (serE (combR s l t m c)) := by
  have hva := valid_p hs.1 hs.2.1 hs.2.2
  have hvb := valid_p ht.1 ht.2.1 ht.2.2
  rw [serE_eq]
  unfold combR
  rw [← hle, ← hlf]
  cases h1 : ValidP s es.length with
  | false =>
    rw [h1] at hva
    refine pc_body2 true Tryz.func130 rfl rfl rfl (Nat.le_of_ble_eq_true rfl) (CellT.agg agg_ser) CellT.tmp ?_
    refine goA ?_
    refine evG ggA (ss_call (InB_of rfl) rfl rfl hva) ?_
    refine goA ?_
    exact rfl
  | true =>
  rw [h1] at hva
  cases h2 : ValidP t fs.length with
  | false =>
    rw [h2] at hvb
    refine pc_body2 true Tryz.func130 rfl rfl rfl (Nat.le_of_ble_eq_true rfl) (CellT.agg agg_ser) CellT.tmp ?_
    refine goA ?_
    refine evG ggA (ss_call (InB_of rfl) rfl rfl hva) ?_
    refine goA ?_
    refine evG ggA (ss_call (InB_of rfl) rfl rfl hvb) ?_
    refine goA ?_
    exact rfl
  | true =>
  rw [h2] at hvb
  have hL := hl h1 h2
  have hM := hm h1 h2
  obtain ⟨a0, a1, a2⟩ := valid_iff.1 h1
  obtain ⟨b0, b1, b2⟩ := valid_iff.1 h2
  have hpa := prec_p a0 a1 a2
  have hpb := prec_p b0 b1 b2
  simp only [Bool.and_true, if_true]
  have hhc : ∀ i, Ht (comb s l t m c i) (2 * K + 2) := sht_comb hK.1 (isL_ht hL hK.1) (isL_ht hM hK.1) hc
  have hcomb : comb s l t m c = fun (i : Nat) => cf s l (min (min s t) (min (s + es.length) (t + fs.length)) + i) + c * cf t m (min (min s t) (min (s + es.length) (t + fs.length)) + i) := by funext i; unfold comb cfr cp; rw [← hle, ← hlf]
  have hof := rof_p c (by omega) (by omega)
  unfold cfr cp
  generalize comb s l t m c = F at *
  refine pc_body2 true Tryz.func130 rfl rfl rfl (Nat.le_of_ble_eq_true rfl) (CellT.agg agg_ser) CellT.tmp ?_
  refine goA ?_
  refine evG ggA (ss_call (InB_of rfl) rfl rfl hva) ?_
  refine goA ?_
  refine evG ggA (ss_call (InB_of rfl) rfl rfl hvb) ?_
  refine goA ?_
  refine evG ggA (ss_call (InB_of rfl) rfl rfl hpa) ?_
  refine goA ?_
  refine evG ggA (ss_call (InB_of rfl) rfl rfl hpb) ?_
  refine goA ?_
  generalize hp : min (s + (es.length : Int)) (t + (fs.length : Int)) = p at *
  generalize hf : min (min s t) p = f at *
  obtain ⟨N, hN⟩ : ∃ N, N = (p - f).toNat := ⟨_, rfl⟩
  rw [← hN]
  refine evG ggA (ss_make 35 (e0 := rz) (InB_of rfl) (make_tab rfl) rfl rfl rfl (by omega) (by omega) (by omega) (by omega) rfl rfl rfl) ?_
  refine runA ?_
  refine ev_nil ?_
  refine seqQ_n ?_
  refine T.seqI (fun s1 => s1 = mkS [(9, .v (.p (.int .i64 f))), (10, .own 35 N), (6, .ptr 6 0)] [(6, var0), (35, .lst 4 56 ((tk F N).map encQ))] 60 true) ?_ ?_
  · refine r1A ?_
    refine T.block ?_
    refine T.loop (fun n s1 => ∃ j : Nat, n = N - j ∧ j ≤ N ∧ s1 = mkS [(2, .v (.p (.int .i64 c))), (3, .ptr 3 0), (4, .ptr 4 0), (8, .v (.p (.int .i64 p))), (9, .v (.p (.int .i64 f))), (11, .v (.p (.int .i64 (f + j)))), (10, .own 35 j), (6, .ptr 6 0)] [(3, .var [.v (.p (.int .i64 s)), .v (.sl es)]), (4, .var [.v (.p (.int .i64 t)), .v (.sl fs)]), (6, var0), (35, .lst 4 56 ((tk F j).map encQ))] 60 true) N
      (s' := mkS [(2, .v (.p (.int .i64 c))), (3, .ptr 3 0), (4, .ptr 4 0), (8, .v (.p (.int .i64 p))), (9, .v (.p (.int .i64 f))), (11, .v (.p (.int .i64 f))), (10, .own 35 0), (6, .ptr 6 0)] [(3, .var [.v (.p (.int .i64 s)), .v (.sl es)]), (4, .var [.v (.p (.int .i64 t)), .v (.sl fs)]), (6, var0), (35, .lst 4 56 ((tk F 0).map encQ))] 60 true) (by exact entA) ⟨0, rfl, Nat.zero_le _, by simp⟩ ?_
    rintro n _ ⟨j, rfl, hj, rfl⟩
    by_cases hlt : j < N
    · have hb : decide (f + (j : Int) < p) = true := by simp; omega
      have c1 := at_p hL a0 a1 a2 (m := f + j) (by omega) (by omega)
      have c2 := at_p hM b0 b1 b2 (m := f + j) (by omega) (by omega)
      obtain ⟨l1, e1, e2, e3⟩ := isV_lit (isV_at (s := s) hL hK.1 (f + j))
      have v1 := isV_at (s := s) hL hK.1 (f + j)
      have v2 := isV_at (s := t) hM hK.1 (f + j)
      rw [e1] at c1 v1
      obtain ⟨l2, e4, e5, e6⟩ := isV_lit v2
      rw [e4] at c2 v2
      have c3 := rmul_p (isV_encQ (ht_int hc)) (by omega) v2 (by omega)
      have c4 := radd_p v1 (by omega) (isV_encQ (ht_mul (ht_int hc) (isV_ht v2 hK.1) (Nat.le_refl _))) (by omega)
      have hF : F j = cf s l (f + j) + c * cf t m (f + j) := by rw [hcomb]
      rw [← hF] at c4
      refine goA ?_
      refine evG ggA (ss_call (InB_of rfl) rfl rfl c1) ?_
      refine goA ?_
      refine evG ggA (ss_call (InB_of rfl) rfl rfl hof) ?_
      refine goA ?_
      refine evG ggA (ss_call (InB_of rfl) rfl rfl c2) ?_
      refine evG ggA (ss_call (InB_of rfl) rfl rfl c3) ?_
      refine evG ggA (ss_call (InB_of rfl) rfl rfl c4) ?_
      (refine evG ggA (ss_bslice (InB_of rfl) (make_tab rfl) rfl rfl rfl rfl (one_ok rfl rfl) (Nat.le_of_ble_eq_true rfl)) ?_; refine evG ggA (ss_snoc (InB_of rfl) (make_tab rfl) rfl rfl (by first | rfl | assumption | (simp; done) | (simp; omega)) rfl (by omega) (Nat.le_of_ble_eq_true rfl) rfl) ?_)
      refine goA ?_
      exact loopQ_intro (k := N - (j + 1)) (s' := mkS [(2, .v (.p (.int .i64 c))), (3, .ptr 3 0), (4, .ptr 4 0), (8, .v (.p (.int .i64 p))), (9, .v (.p (.int .i64 f))), (11, .v (.p (.int .i64 (f + (j : Int) + 1)))), (10, .own 35 (j + 1)), (6, .ptr 6 0)] [(3, .var [.v (.p (.int .i64 s)), .v (.sl es)]), (4, .var [.v (.p (.int .i64 t)), .v (.sl fs)]), (6, var0), (35, .lst 4 56 ((tk F j ++ [F j]).map encQ))] 60 true) (by omega) (by exact entA) ⟨j + 1, rfl, hlt, by rw [tk_succ, Int.natCast_succ, ← Int.add_assoc]⟩
    · obtain rfl : j = N := by omega
      have hb : decide (f + (j : Int) < p) = false := by simp; omega
      refine goA ?_
      exact midQ_intro (s' := mkS [(9, .v (.p (.int .i64 f))), (10, .own 35 j), (6, .ptr 6 0)] [(6, var0), (35, .lst 4 56 ((tk F j).map encQ))] 60 true) (by exact entA) rfl
  rintro _ rfl
  have hbuild := build_p (s := f) (isL_enc (l := tk F N) (k := 2 * K + 2) (fun q hq => by obtain ⟨i, -, rfl⟩ := tk_mem hq; exact hhc i)) (by omega) (by omega) (by omega) (by rw [tk_len]; omega)
  rw [serE_eq] at hbuild
  refine T.weak (s' := mkS [(9, .v (.p (.int .i64 f))), (10, .v (.sl ((tk F N).map encQ))), (6, .ptr 6 0)] [(6, var0)] 60 true) (by exact entA) ?_
  refine goA ?_
  refine evG ggA (ss_call (InB_of rfl) rfl rfl hbuild) ?_
  refine goA ?_
  exact rfl
theorem ssub_p {s t : Int} {es fs : List AV} {l m : List Rat} {K : Nat} (h : Both s es t fs K l m) (hK : 1 ≤ K ∧ K ≤ 268435456) : PC Tryz.prog 47 [serA s es, serA t fs] (serE (combR s l t m (-1))) := by
 obtain ⟨h1, h2, h3, ⟨a, b, c⟩, ⟨d, e, f⟩⟩ := h
 have hc := scombine_p (c := -1) (fun x y => (h1 x y).1) (fun x y => (h1 x y).2) h2 h3 hK ⟨a, b, c⟩ ⟨d, e, f⟩ (by decide)
 rw [serE_eq] at hc ⊢
 refine pc_body2 true Tryz.func47 rfl rfl rfl (Nat.le_of_ble_eq_true rfl) (CellT.agg agg_ser) CellT.tmp ?_
 refine goA ?_
 refine evG ggA (ss_call (InB_of rfl) rfl rfl hc) ?_
 refine goA ?_
 exact rfl
theorem nc1 (f : Nat → Rat) : nc f one' = f := funext fun k => by
 show su (fun j => f j * one' (k - j)) (k + 1) = f k
 rw [su, su_zero]
 ·unfold one'
  rw [Nat.sub_self, if_pos rfl, Rat.mul_one, Rat.zero_add]
 ·intro j hj
  unfold one'
  rw [if_neg (by omega), Rat.mul_zero]
theorem nc1' (f : Nat → Rat) : nc one' f = f := by rw [nc_fun, nc1]
theorem one_0 : one' 0 = 1 := rfl
theorem one_ne : one' 0 ≠ 0 := by rw [one_0]; decide
theorem tk_cons (f : Nat → Rat) (k : Nat) : tk f (k + 1) = f 0 :: tk (fun i => f (i + 1)) k := by
 unfold tk
 rw [List.range_succ_eq_map, List.map_cons, List.map_map]
 rfl
theorem one_tk {p : Nat} (h : 1 ≤ p) : (1 : Rat) :: List.replicate (p - 1) 0 = tk one' p := by
 obtain ⟨k, rfl⟩ : ∃ k, p = k + 1 := ⟨p - 1, by omega⟩
 rw [tk_cons]
 congr 1
 exact (List.eq_replicate_iff.2 ⟨by simp, fun b hb => by obtain ⟨i, -, rfl⟩ := tk_mem hb; rfl⟩).symm
theorem nrm_tk1 {s : Int} {f : Nat → Rat} {n : Nat} (h0 : f 0 = 0) (h1 : f 1 ≠ 0) (hn : 2 ≤ n) (a0 : -100 ≤ s) (a1 : s + n ≤ 1000) : nrm s (tk f n) = some (s + 1, tk (fun i => f (i + 1)) (n - 1)) := by
 obtain ⟨k, rfl⟩ : ∃ k, n = k + 1 := ⟨n - 1, by omega⟩
 rw [nrm_valid a0 (by omega) (by rw [tk_len]; omega), tk_cons]
 have e : lead (f 0 :: tk (fun i => f (i + 1)) k) = 1 := by
  rw [lead, if_pos h0, lead_tk (f := fun i => f (i + 1)) h1]
 rw [e]
 rfl
theorem neg1Q : (((-1 : Int)) : Rat) = -1 := by decide +kernel
theorem cfr_00 {p : Nat} : cfr 0 p 0 p = 0 ∧ (cp 0 p 0 p - 0).toNat = p := by unfold cfr cp; omega
theorem comb_00 {f g : Nat → Rat} {p : Nat} (h0 : f 0 + -1 * g 0 = 0) (h1 : f 1 + -1 * g 1 ≠ 0) (hp : 2 ≤ p) (hq : p ≤ 1000) : combR 0 (tk f p) 0 (tk g p) (-1) = some (1, tk (fun i => f (i + 1) + -1 * g (i + 1)) (p - 1)) := by
 unfold combR
 rw [valid_tk (by decide) (by omega), valid_tk (by decide) (by omega), if_pos (show (true && true) = true from rfl)]
 have e : tk (comb 0 (tk f p) 0 (tk g p) (-1)) p = tk (fun i => f i + -1 * g i) p := tk_congr fun i hi => by
  unfold comb
  rw [tk_len, tk_len, cfr_00.1, cf_tk (by omega) (by omega), cf_tk (by omega) (by omega), show (0 + (i : Int) - 0).toNat = i by omega, neg1Q]
 rw [tk_len, tk_len, cfr_00.1, cfr_00.2, e, nrm_tk1 h0 h1 hp (by decide) (by omega)]
 rfl
theorem cfr_01 {p : Nat} (hp : 1 ≤ p) : cfr 0 p 1 (p - 1) = 0 ∧ (cp 0 p 1 (p - 1) - 0).toNat = p := by unfold cfr cp; omega
theorem comb_01 {f g : Nat → Rat} {p : Nat} (h0 : f 0 ≠ 0) (hp : 1 ≤ p) (hq : p ≤ 1000) : combR 0 (tk f p) 1 (tk g (p - 1)) (-1) = some (0, tk (fun i => f i + -1 * (if i = 0 then 0 else g (i - 1))) p) := by
 unfold combR
 rw [valid_tk (by decide) (by omega), valid_tk (by decide) (by omega), if_pos (show (true && true) = true from rfl)]
 have e : tk (comb 0 (tk f p) 1 (tk g (p - 1)) (-1)) p = tk (fun i => f i + -1 * (if i = 0 then 0 else g (i - 1))) p := tk_congr fun i hi => by
  unfold comb
  rw [tk_len, tk_len, (cfr_01 hp).1, cf_tk (by omega) (by omega), show (0 + (i : Int) - 0).toNat = i by omega]
  by_cases hi0 : i = 0
  ·subst hi0
   rfl
  ·rw [cf_tk (by omega) (by omega), if_neg hi0, show (0 + (i : Int) - 1).toNat = i - 1 by omega, neg1Q]
 rw [tk_len, tk_len, (cfr_01 hp).1, (cfr_01 hp).2, e, nrm_tk (by show f 0 + -1 * (if 0 = 0 then 0 else _) ≠ 0; rw [if_pos rfl, Rat.mul_zero, Rat.add_zero]; exact h0) (by decide) (by omega)]
theorem tkE (f : Nat → Rat) (n : Nat) : ((tk f n).map encQ).length = n := by simp
theorem both_tk {s t : Int} {f g : Nat → Rat} {n m K : Nat} (hf : ∀ i, i < n → Ht (f i) K) (hg : ∀ i, i < m → Ht (g i) K) (s0 : -1000 ≤ s) (s1 : s ≤ 1000) (t0 : -1000 ≤ t) (t1 : t ≤ 1000) (hn : n ≤ 1000) (hm : m ≤ 1000) :
  Both s ((tk f n).map encQ) t ((tk g m).map encQ) K (tk f n) (tk g m) := ⟨fun _ _ => ⟨isL_enc (ht_tk hf), isL_enc (ht_tk hg)⟩, by simp, by simp, inR_tk s0 s1 hn, inR_tk t0 t1 hm⟩
theorem smul_tk {s t : Int} {f g : Nat → Rat} {n m K : Nat} (hK : 1 ≤ K) (hK2 : K ≤ 1000) (f0 : f 0 ≠ 0) (g0 : g 0 ≠ 0) (hf : ∀ i, i < n → Ht (f i) K) (hg : ∀ i, i < m → Ht (g i) K) (s0 : -50 ≤ s) (s1 : s ≤ 50) (t0 : -50 ≤ t) (t1 : t ≤ 50) (hn : n ≤ 100) (hm : m ≤ 100) :
  PC Tryz.prog 49 [serA s ((tk f n).map encQ), serA t ((tk g m).map encQ)] (.tup [serA (s + t) ((tk (nc f g) (min n m)).map encQ), iV 0]) := by
 have c := mul_g (M := 100) (both_tk (s := s) (t := t) hf hg (by omega) (by omega) (by omega) (by omega) (by omega) (by omega)) hK (by decide) (by omega) (fun _ => by rw [tkE]; omega)
 rw [mulR_tk f0 g0 (by omega) (by omega) (by omega) (by omega) (by omega) (by omega)] at c
 exact c
theorem scut_tk {s p : Int} {f : Nat → Rat} {n K : Nat} (hK : 1 ≤ K) (hK2 : K ≤ 1000) (f0 : f 0 ≠ 0) (hf : ∀ i, i < n → Ht (f i) K) (s0 : -50 ≤ s) (s1 : s ≤ 50) (hn : n ≤ 100) (hp : s ≤ p) (hp2 : p ≤ 1000) :
  PC Tryz.prog 50 [serA s ((tk f n).map encQ), iV p] (.tup [serA s ((tk f (min n (p - s).toNat)).map encQ), iV 0]) := by
 have c := scutx_p (s := s) (p := p) (es := (tk f n).map encQ) (l := tk f n) (K := K) (fun _ => isL_enc (ht_tk hf)) (by simp) (inR_tk (by omega) (by omega) (by omega)) (by omega) (by omega) (by omega)
 rw [cutR_tk f0 (by omega) (by omega) hp] at c
 exact c
theorem sscl_tk {c : Rat} {s : Int} {f : Nat → Rat} {n K : Nat} (hc : Ht c K) (c0 : c ≠ 0) (hK : 1 ≤ K) (hK2 : K ≤ 1000) (f0 : f 0 ≠ 0) (hf : ∀ i, i < n → Ht (f i) K) (s0 : -50 ≤ s) (s1 : s ≤ 50) (hn : n ≤ 100) :
  PC Tryz.prog 48 [encQ c, serA s ((tk f n).map encQ)] (.tup [serA s ((tk (fun i => c * f i) n).map encQ), iV 0]) := by
 have h := scale_p (a := encQ c) (c := c) (k := K) (s := s) (es := (tk f n).map encQ) (l := tk f n) (K := K) (isV_encQ hc) (fun _ => isL_enc (ht_tk hf)) (by simp) (inR_tk (by omega) (by omega) (by omega)) hK hK (by omega)
 rw [sclR_tk c0 f0 (by omega) (by omega)] at h
 exact h
def w6 : List Rat := powL (eiL 6 40) 2 39
theorem pw6_hb : ((List.range 3).all fun e => (powL (eiL 6 40) (e : Int) 39).all (htB 9)) = true := by decide +kernel
theorem p6_h {e n : Nat} (he : e < 3) (hn : n < 40) : Ht (pq (eiV 6) e n) 9 := by
 have h := List.all_eq_true.1 pw6_hb e (List.mem_range.2 he)
 have e1 : powL (eiL 6 40) (e : Int) 39 = tk (pq (eiV 6) e) 40 := powL_tk (f := eiV 6) (n := 40) (eiV_ne rfl) (by decide) e (m := 39) (by decide)
 rw [e1] at h
 exact htB_all h _ (List.mem_map.2 ⟨n, List.mem_range.2 hn, rfl⟩)
theorem w6_eq : tk (pq (eiV 6) 2) 40 = w6 := (powL_tk (f := eiV 6) (n := 40) (eiV_ne rfl) (by decide) 2 (m := 39) (by decide)).symm
theorem e6pow_p {p : Nat} (h1 : 1 ≤ p) (hp : p ≤ 40) : PC Tryz.prog 46 [serA 0 ((eiL 6 p).map encQ), iV 2] (.tup [serA 0 ((tk (pq (eiV 6) 2) p).map encQ), iV 0]) := by
 have c := spow_p (s := 0) (n := ((2 : Nat) : Int)) (es := (eiL 6 p).map encQ) (l := eiL 6 p) (K := 4) (Q := 9) (fun _ => ⟨isL_enc (eiL_ht rfl hp), by simp [eiL]; omega⟩) (by simp) (inR_tk (by decide) (by decide) (by omega)) (by decide) (by decide) (by omega) (by omega)
  (fun _ _ _ m hm => by
   rw [show eiL 6 p = tk (eiV 6) p from rfl, drop_tk (eiV_ne rfl)] at hm ⊢
   rw [powL_tk (eiV_ne rfl) h1 2 (by rw [tk_len] at hm; exact hm)]
   exact ht_tk fun i hi => p6_h (by decide) (by rw [tk_len] at hm; omega))
 rw [show eiL 6 p = tk (eiV 6) p from rfl, powT_tk (eiV_ne rfl) h1 (by omega) (by decide) (by omega) (by omega) (by omega)] at c
 exact c
theorem w4_at {n : Nat} (h : n < 40) : pq (eiV 4) 3 n = w4.getD n 0 := by rw [← w4_eq, tk_get h]
theorem w6_at {n : Nat} (h : n < 40) : pq (eiV 6) 2 n = w6.getD n 0 := by rw [← w6_eq, tk_get h]
theorem jL_at {n : Nat} (h : n < 40) : jV n = jL.getD n 0 := by rw [← jV_eq, tk_get h]
theorem id1_b : ((List.range 30).all fun i => decide (w4.getD (i + 1) 0 + -1 * w6.getD (i + 1) 0 = 1728 * dL.getD i 0)) = true := by decide +kernel
theorem id1 {i : Nat} (h : i < 30) : pq (eiV 4) 3 (i + 1) + -1 * pq (eiV 6) 2 (i + 1) = 1728 * dV i := by
 rw [w4_at (by omega), w6_at (by omega)]
 exact of_decide_eq_true (List.all_eq_true.1 id1_b i (List.mem_range.2 h))
theorem id2_b : ((List.range 30).all fun i => decide (conv jL dL i = w4.getD i 0)) = true := by decide +kernel
theorem id2 {i : Nat} (h : i < 30) : nc jV dV i = pq (eiV 4) 3 i := by
 have e := List.all_eq_true.1 id2_b i (List.mem_range.2 h)
 have e : conv jL dL i = w4.getD i 0 := of_decide_eq_true e
 rw [w4_at (by omega), ← e, ← jV_eq, ← List.take_of_length_le (l := dL) (i := 151) (by rw [dL_len]; decide), dV_tk (by decide), conv_tk (by omega) (by omega)]
theorem id0 : pq (eiV 4) 3 0 + -1 * pq (eiV 6) 2 0 = 0 := by rw [w4_at (by decide), w6_at (by decide)]; decide +kernel
theorem p41 : pq (eiV 4) 3 1 = 720 := by rw [w4_at (by decide)]; decide +kernel
def mV (i : Nat) : Rat := pq (eiV 4) 3 i + -1 * (if i = 0 then 0 else 720 * dV (i - 1))
theorem mV_ne : mV 0 ≠ 0 := by
 unfold mV
 rw [if_pos rfl, Rat.mul_zero, Rat.add_zero]
 exact pq_ne (eiV_ne rfl) 3
end Ab
namespace Ab
open Go Go.RowKit Go.Proofs Hp
set_option maxRecDepth 100000
set_option maxHeartbeats 8000000 in
theorem miller_core {p : Nat} (p0 : 2 ≤ p) (p1 : p ≤ 30) {O E C D P M : List AV} {g g' : Bool} {xs xs' : List AV} {h h' : Bool} {ys ys' : List AV}
  (cdim : PC Tryz.prog 23 [iV 12] (iV 2))
  (cof : PC Tryz.prog 90 [iV 1] (.agg [.p (.bool h), .sl ys, .p (.bool h'), .sl ys']))
  (cmon : PC Tryz.prog 113 [.agg [.p (.bool h), .sl ys, .p (.bool h'), .sl ys'], iV 0, iV p] (.tup [serA 0 O, iV 0]))
  (cei : PC Tryz.prog 45 [iV 4, iV p] (.tup [serA 0 E, iV 0]))
  (cdel : PC Tryz.prog 17 [iV p] (.tup [serA 1 D, iV 0]))
  (cp3 : PC Tryz.prog 46 [serA 0 E, iV 3] (.tup [serA 0 C, iV 0]))
  (cp0 : PC Tryz.prog 46 [serA 0 E, iV 0] (.tup [serA 0 O, iV 0]))
  (cm1 : PC Tryz.prog 49 [serA 0 C, serA 0 O] (.tup [serA 0 C, iV 0]))
  (cm2 : PC Tryz.prog 49 [serA 0 O, serA 0 O] (.tup [serA 0 O, iV 0]))
  (cm3 : PC Tryz.prog 49 [serA 0 O, serA 1 D] (.tup [serA 1 D, iV 0]))
  (cc1 : PC Tryz.prog 50 [serA 0 C, iV p] (.tup [serA 0 C, iV 0]))
  (cc2 : PC Tryz.prog 50 [serA 1 D, iV p] (.tup [serA 1 D, iV 0]))
  (cat : PC Tryz.prog 84 [serA 0 C, iV 1] (.tup [.agg [.p (.bool g), .sl xs, .p (.bool g'), .sl xs'], iV 0]))
  (csc : PC Tryz.prog 48 [.agg [.p (.bool g), .sl xs, .p (.bool g'), .sl xs'], serA 1 D] (.tup [serA 1 P, iV 0]))
  (csu : PC Tryz.prog 47 [serA 0 C, serA 1 P] (.tup [serA 0 M, iV 0]))
  (cc3 : PC Tryz.prog 50 [serA 0 M, iV p] (.tup [serA 0 M, iV 0])) :
  PC Tryz.prog 118 [iV 12, iV p] (.sl [serA 0 M, serA 1 D]) := by
 have hmax : max (p : Int) 2 = p := by omega
 refine pc_body1 true Tryz.func118 rfl rfl rfl (Nat.le_of_ble_eq_true rfl) CellT.tmp ?_
 refine goA ?_
 refine evG ggA (ss_call (InB_of rfl) rfl rfl cdim) ?_
 refine goA ?_
 rw [hmax]
 refine goA ?_
 refine evG ggA (ss_call (InB_of rfl) rfl rfl cof) ?_
 refine goA ?_
 refine evG ggA (ss_call (InB_of rfl) rfl rfl cmon) ?_
 refine goA ?_
 refine evG ggA (ss_call (InB_of rfl) rfl rfl cei) ?_
 refine goA ?_
 refine evG ggA (ss_call (InB_of rfl) rfl rfl cdel) ?_
 refine runA ?_
 refine ev_nil ?_
 (repeat (first | with_reducible refine seqQ_n ?_ | with_reducible refine seqQ_e ?_ | with_reducible refine seqQ_r ?_ | with_reducible refine blockQ_n ?_ | with_reducible refine blockQ_r ?_ | with_reducible refine blockQ_e rfl ?_ | with_reducible refine blockQ_o rfl ?_ | with_reducible refine loopQ_e ?_ | with_reducible refine loopQ_r ?_ | with_reducible refine midQ_e ?_ | with_reducible refine midQ_r ?_ | with_reducible refine roundQ_n ?_ | with_reducible refine roundQ_e ?_ | with_reducible refine roundQ_r ?_))
 refine r1A ?_
 refine T.seqI (fun s1 => s1 = mkS [(1, .v (iV p)), (5, .v (iV 2)), (6, .v (iV p)), (7, .ptr 7 0), (10, .ptr 10 0), (12, .ptr 12 0), (14, .own 200 2)] [(7, .var [.v (iV 0), .v (.sl O)]), (10, .var [.v (iV 0), .v (.sl E)]), (12, .var [.v (iV 1), .v (.sl D)]), (200, .lst 2 26 [serA 0 C, serA 1 D])] 164 true) ?_ ?_
 ·refine r1A ?_
  refine T.block ?_
  refine T.loop (fun N s1 => (N = 2 ∧ s1 = mkS [(1, .v (iV p)), (5, .v (iV 2)), (6, .v (iV p)), (7, .ptr 7 0), (10, .ptr 10 0), (12, .ptr 12 0), (14, .own 200 0), (61, .v (iV 2)), (62, .v (iV 0))] [(7, .var [.v (iV 0), .v (.sl O)]), (10, .var [.v (iV 0), .v (.sl E)]), (12, .var [.v (iV 1), .v (.sl D)]), (200, .lst 2 26 [])] 164 true) ∨ (N = 1 ∧ s1 = mkS [(1, .v (iV p)), (5, .v (iV 2)), (6, .v (iV p)), (7, .ptr 7 0), (10, .ptr 10 0), (12, .ptr 12 0), (14, .own 200 1), (61, .v (iV 2)), (62, .v (iV 1))] [(7, .var [.v (iV 0), .v (.sl O)]), (10, .var [.v (iV 0), .v (.sl E)]), (12, .var [.v (iV 1), .v (.sl D)]), (200, .lst 2 26 [serA 0 C])] 164 true) ∨ (N = 0 ∧ s1 = mkS [(1, .v (iV p)), (5, .v (iV 2)), (6, .v (iV p)), (7, .ptr 7 0), (10, .ptr 10 0), (12, .ptr 12 0), (14, .own 200 2), (61, .v (iV 2)), (62, .v (iV 2))] [(7, .var [.v (iV 0), .v (.sl O)]), (10, .var [.v (iV 0), .v (.sl E)]), (12, .var [.v (iV 1), .v (.sl D)]), (200, .lst 2 26 [serA 0 C, serA 1 D])] 164 true)) 2
   (s' := mkS [(1, .v (iV p)), (5, .v (iV 2)), (6, .v (iV p)), (7, .ptr 7 0), (10, .ptr 10 0), (12, .ptr 12 0), (14, .own 200 0), (61, .v (iV 2)), (62, .v (iV 0))] [(7, .var [.v (iV 0), .v (.sl O)]), (10, .var [.v (iV 0), .v (.sl E)]), (12, .var [.v (iV 1), .v (.sl D)]), (200, .lst 2 26 [])] 164 true) (by exact entA) (.inl ⟨rfl, rfl⟩) ?_
  rintro _ _ (⟨rfl, rfl⟩ | ⟨rfl, rfl⟩ | ⟨rfl, rfl⟩)
  ·refine goA ?_
   refine evG ggA (ss_call (InB_of rfl) rfl rfl cp3) ?_
   refine goA ?_
   refine evG ggA (ss_call (InB_of rfl) rfl rfl cm1) ?_
   refine goA ?_
   refine T.loop (fun N s1 => N = 0 ∧ s1 = mkS [(1, .v (iV p)), (5, .v (iV 2)), (6, .v (iV p)), (7, .ptr 7 0), (10, .ptr 10 0), (12, .ptr 12 0), (14, .own 200 0), (61, .v (iV 2)), (62, .v (iV 0)), (15, .v (iV 0)), (16, .ptr 16 0), (81, .v (iV 0)), (82, .v (iV 0))] [(7, .var [.v (iV 0), .v (.sl O)]), (10, .var [.v (iV 0), .v (.sl E)]), (12, .var [.v (iV 1), .v (.sl D)]), (200, .lst 2 26 []), (16, .var [.v (iV 0), .v (.sl C)])] 164 true) 0
    (s' := mkS [(1, .v (iV p)), (5, .v (iV 2)), (6, .v (iV p)), (7, .ptr 7 0), (10, .ptr 10 0), (12, .ptr 12 0), (14, .own 200 0), (61, .v (iV 2)), (62, .v (iV 0)), (15, .v (iV 0)), (16, .ptr 16 0), (81, .v (iV 0)), (82, .v (iV 0))] [(7, .var [.v (iV 0), .v (.sl O)]), (10, .var [.v (iV 0), .v (.sl E)]), (12, .var [.v (iV 1), .v (.sl D)]), (200, .lst 2 26 []), (16, .var [.v (iV 0), .v (.sl C)])] 164 true) (by exact entA) ⟨rfl, rfl⟩ ?_
   rintro _ _ ⟨rfl, rfl⟩
   refine goA ?_
   refine evG ggA (ss_call (InB_of rfl) rfl rfl cc1) ?_
   refine goA ?_
   refine evG ggA (ss_bslice (InB_of rfl) (make_tab rfl) rfl rfl rfl rfl (one_ok rfl rfl) (Nat.le_of_ble_eq_true rfl)) ?_
   refine evG ggA (ss_snocA (a := serA 0 C) (InB_of rfl) (make_tab rfl) rfl rfl rfl rfl rfl (by decide) rfl (by decide) (Nat.le_of_ble_eq_true rfl) rfl) ?_
   refine goA ?_
   exact loopQ_intro (k := 1) (s' := mkS [(1, .v (iV p)), (5, .v (iV 2)), (6, .v (iV p)), (7, .ptr 7 0), (10, .ptr 10 0), (12, .ptr 12 0), (14, .own 200 1), (61, .v (iV 2)), (62, .v (iV 1))] [(7, .var [.v (iV 0), .v (.sl O)]), (10, .var [.v (iV 0), .v (.sl E)]), (12, .var [.v (iV 1), .v (.sl D)]), (200, .lst 2 26 [serA 0 C])] 164 true) (by decide) (by exact entA) (.inr (.inl ⟨rfl, rfl⟩))
  ·refine goA ?_
   refine evG ggA (ss_call (InB_of rfl) rfl rfl cp0) ?_
   refine goA ?_
   refine evG ggA (ss_call (InB_of rfl) rfl rfl cm2) ?_
   refine goA ?_
   refine T.loop (fun N s1 => (N = 1 ∧ s1 = mkS [(1, .v (iV p)), (5, .v (iV 2)), (6, .v (iV p)), (7, .ptr 7 0), (10, .ptr 10 0), (12, .ptr 12 0), (14, .own 200 1), (61, .v (iV 2)), (62, .v (iV 1)), (15, .v (iV 1)), (16, .ptr 16 0), (81, .v (iV 1)), (82, .v (iV 0))] [(7, .var [.v (iV 0), .v (.sl O)]), (10, .var [.v (iV 0), .v (.sl E)]), (12, .var [.v (iV 1), .v (.sl D)]), (200, .lst 2 26 [serA 0 C]), (16, .var [.v (iV 0), .v (.sl O)])] 164 true) ∨ (N = 0 ∧ s1 = mkS [(1, .v (iV p)), (5, .v (iV 2)), (6, .v (iV p)), (7, .ptr 7 0), (10, .ptr 10 0), (12, .ptr 12 0), (14, .own 200 1), (61, .v (iV 2)), (62, .v (iV 1)), (15, .v (iV 1)), (16, .ptr 16 0), (81, .v (iV 1)), (82, .v (iV 1))] [(7, .var [.v (iV 0), .v (.sl O)]), (10, .var [.v (iV 0), .v (.sl E)]), (12, .var [.v (iV 1), .v (.sl D)]), (200, .lst 2 26 [serA 0 C]), (16, .var [.v (iV 1), .v (.sl D)])] 164 true)) 1
    (s' := mkS [(1, .v (iV p)), (5, .v (iV 2)), (6, .v (iV p)), (7, .ptr 7 0), (10, .ptr 10 0), (12, .ptr 12 0), (14, .own 200 1), (61, .v (iV 2)), (62, .v (iV 1)), (15, .v (iV 1)), (16, .ptr 16 0), (81, .v (iV 1)), (82, .v (iV 0))] [(7, .var [.v (iV 0), .v (.sl O)]), (10, .var [.v (iV 0), .v (.sl E)]), (12, .var [.v (iV 1), .v (.sl D)]), (200, .lst 2 26 [serA 0 C]), (16, .var [.v (iV 0), .v (.sl O)])] 164 true) (by exact entA) (.inl ⟨rfl, rfl⟩) ?_
   rintro _ _ (⟨rfl, rfl⟩ | ⟨rfl, rfl⟩)
   ·refine goA ?_
    refine evG ggA (ss_call (InB_of rfl) rfl rfl cm3) ?_
    refine goA ?_
    exact loopQ_intro (k := 0) (s' := mkS [(1, .v (iV p)), (5, .v (iV 2)), (6, .v (iV p)), (7, .ptr 7 0), (10, .ptr 10 0), (12, .ptr 12 0), (14, .own 200 1), (61, .v (iV 2)), (62, .v (iV 1)), (15, .v (iV 1)), (16, .ptr 16 0), (81, .v (iV 1)), (82, .v (iV 1))] [(7, .var [.v (iV 0), .v (.sl O)]), (10, .var [.v (iV 0), .v (.sl E)]), (12, .var [.v (iV 1), .v (.sl D)]), (200, .lst 2 26 [serA 0 C]), (16, .var [.v (iV 1), .v (.sl D)])] 164 true) (by decide) (by exact entA) (.inr ⟨rfl, rfl⟩)
   ·refine goA ?_
    refine evG ggA (ss_call (InB_of rfl) rfl rfl cc2) ?_
    refine goA ?_
    refine evG ggA (ss_bslice (InB_of rfl) (make_tab rfl) rfl rfl rfl rfl (one_ok rfl rfl) (Nat.le_of_ble_eq_true rfl)) ?_
    refine evG ggA (ss_snocA (a := serA 1 D) (InB_of rfl) (make_tab rfl) rfl rfl rfl rfl rfl (by decide) rfl (by decide) (Nat.le_of_ble_eq_true rfl) rfl) ?_
    refine goA ?_
    exact loopQ_intro (k := 0) (s' := mkS [(1, .v (iV p)), (5, .v (iV 2)), (6, .v (iV p)), (7, .ptr 7 0), (10, .ptr 10 0), (12, .ptr 12 0), (14, .own 200 2), (61, .v (iV 2)), (62, .v (iV 2))] [(7, .var [.v (iV 0), .v (.sl O)]), (10, .var [.v (iV 0), .v (.sl E)]), (12, .var [.v (iV 1), .v (.sl D)]), (200, .lst 2 26 [serA 0 C, serA 1 D])] 164 true) (by decide) (by exact entA) (.inr (.inr ⟨rfl, rfl⟩))
  ·refine goA ?_
   exact midQ_intro (by exact entA) rfl
 rintro _ rfl
 refine T.seqI (fun s1 => s1 = mkS [(1, .v (iV p)), (14, .own 200 2)] [(200, .lst 2 26 [serA 0 M, serA 1 D])] 164 true) ?_ ?_
 ·refine r1A ?_
  refine T.block ?_
  refine T.loop (fun N s1 => (N = 2 ∧ s1 = mkS [(1, .v (iV p)), (5, .v (iV 2)), (14, .own 200 2), (18, .v (iV (1)))] [(200, .lst 2 26 [serA 0 C, serA 1 D])] 164 true) ∨ (N = 1 ∧ s1 = mkS [(1, .v (iV p)), (5, .v (iV 2)), (14, .own 200 2), (18, .v (iV (0)))] [(200, .lst 2 26 [serA 0 C, serA 1 D])] 164 true) ∨ (N = 0 ∧ s1 = mkS [(1, .v (iV p)), (5, .v (iV 2)), (14, .own 200 2), (18, .v (iV (-1)))] [(200, .lst 2 26 [serA 0 M, serA 1 D])] 164 true)) 2
   (s' := mkS [(1, .v (iV p)), (5, .v (iV 2)), (14, .own 200 2), (18, .v (iV (1)))] [(200, .lst 2 26 [serA 0 C, serA 1 D])] 164 true) (by exact entA) (.inl ⟨rfl, rfl⟩) ?_
  rintro _ _ (⟨rfl, rfl⟩ | ⟨rfl, rfl⟩ | ⟨rfl, rfl⟩)
  ·refine goA ?_
   refine T.loop (fun N s1 => N = 0 ∧ s1 = mkS [(1, .v (iV p)), (5, .v (iV 2)), (14, .own 200 2), (18, .v (iV (1))), (19, .v (iV 2))] [(200, .lst 2 26 [serA 0 C, serA 1 D])] 164 true) 0
    (s' := mkS [(1, .v (iV p)), (5, .v (iV 2)), (14, .own 200 2), (18, .v (iV (1))), (19, .v (iV 2))] [(200, .lst 2 26 [serA 0 C, serA 1 D])] 164 true) (by exact entA) ⟨rfl, rfl⟩ ?_
   rintro _ _ ⟨rfl, rfl⟩
   refine goA ?_
   exact loopQ_intro (k := 1) (s' := mkS [(1, .v (iV p)), (5, .v (iV 2)), (14, .own 200 2), (18, .v (iV (0)))] [(200, .lst 2 26 [serA 0 C, serA 1 D])] 164 true) (by decide) (by exact entA) (.inr (.inl ⟨rfl, rfl⟩))
  ·refine goA ?_
   refine T.loop (fun N s1 => (N = 1 ∧ s1 = mkS [(1, .v (iV p)), (5, .v (iV 2)), (14, .own 200 2), (18, .v (iV (0))), (19, .v (iV 1))] [(200, .lst 2 26 [serA 0 C, serA 1 D])] 164 true) ∨ (N = 0 ∧ s1 = mkS [(1, .v (iV p)), (5, .v (iV 2)), (14, .own 200 2), (18, .v (iV (0))), (19, .v (iV 2))] [(200, .lst 2 26 [serA 0 M, serA 1 D])] 164 true)) 1
    (s' := mkS [(1, .v (iV p)), (5, .v (iV 2)), (14, .own 200 2), (18, .v (iV (0))), (19, .v (iV 1))] [(200, .lst 2 26 [serA 0 C, serA 1 D])] 164 true) (by exact entA) (.inl ⟨rfl, rfl⟩) ?_
   rintro _ _ (⟨rfl, rfl⟩ | ⟨rfl, rfl⟩)
   ·refine goA ?_
    refine evG ggA (ss_index_own (InB_of rfl) (elem_tab rfl) rfl rfl rfl rfl (by decide) (by decide)) ?_
    refine evG ggA (ss_load_opagg (InB_of rfl) (agg_tab rfl) rfl rfl rfl rfl) ?_
    refine goA ?_
    refine evG ggA (ss_call (InB_of rfl) rfl rfl cat) ?_
    refine goA ?_
    refine evG ggA (ss_index_own (InB_of rfl) (elem_tab rfl) rfl rfl rfl rfl (by decide) (by decide)) ?_
    refine evG ggA (ss_load_opagg (InB_of rfl) (agg_tab rfl) rfl rfl rfl rfl) ?_
    refine goA ?_
    refine evG ggA (ss_call (InB_of rfl) rfl rfl csc) ?_
    refine goA ?_
    refine evG ggA (ss_index_own (InB_of rfl) (elem_tab rfl) rfl rfl rfl rfl (by decide) (by decide)) ?_
    refine evG ggA (ss_load_opagg (InB_of rfl) (agg_tab rfl) rfl rfl rfl rfl) ?_
    refine goA ?_
    refine evG ggA (ss_call (InB_of rfl) rfl rfl csu) ?_
    refine goA ?_
    refine evG ggA (ss_index_own (InB_of rfl) (elem_tab rfl) rfl rfl rfl rfl (by decide) (by decide)) ?_
    refine evG ggA (ss_store_own rfl (size_tab rfl) rfl rfl rfl (by decide) rfl rfl (fun l e => by cases e) rfl) ?_
    refine goA ?_
    exact loopQ_intro (k := 0) (s' := mkS [(1, .v (iV p)), (5, .v (iV 2)), (14, .own 200 2), (18, .v (iV (0))), (19, .v (iV 2))] [(200, .lst 2 26 [serA 0 M, serA 1 D])] 164 true) (by decide) (by exact entA) (.inr ⟨rfl, rfl⟩)
   ·refine goA ?_
    exact loopQ_intro (k := 0) (s' := mkS [(1, .v (iV p)), (5, .v (iV 2)), (14, .own 200 2), (18, .v (iV (-1)))] [(200, .lst 2 26 [serA 0 M, serA 1 D])] 164 true) (by decide) (by exact entA) (.inr (.inr ⟨rfl, rfl⟩))
  ·refine goA ?_
   exact midQ_intro (by exact entA) rfl
 rintro _ rfl
 refine T.seqI (fun s1 => s1 = mkS [(14, .own 200 2)] [(200, .lst 2 26 [serA 0 M, serA 1 D])] 164 true) ?_ ?_
 ·refine r1A ?_
  refine T.block ?_
  refine T.loop (fun N s1 => (N = 2 ∧ s1 = mkS [(1, .v (iV p)), (14, .own 200 2), (146, .v (iV 2)), (147, .v (iV 0))] [(200, .lst 2 26 [serA 0 M, serA 1 D])] 164 true) ∨ (N = 1 ∧ s1 = mkS [(1, .v (iV p)), (14, .own 200 2), (146, .v (iV 2)), (147, .v (iV 1))] [(200, .lst 2 26 [serA 0 M, serA 1 D])] 164 true) ∨ (N = 0 ∧ s1 = mkS [(1, .v (iV p)), (14, .own 200 2), (146, .v (iV 2)), (147, .v (iV 2))] [(200, .lst 2 26 [serA 0 M, serA 1 D])] 164 true)) 2
   (s' := mkS [(1, .v (iV p)), (14, .own 200 2), (146, .v (iV 2)), (147, .v (iV 0))] [(200, .lst 2 26 [serA 0 M, serA 1 D])] 164 true) (by exact entA) (.inl ⟨rfl, rfl⟩) ?_
  rintro _ _ (⟨rfl, rfl⟩ | ⟨rfl, rfl⟩ | ⟨rfl, rfl⟩)
  ·refine goA ?_
   refine evG ggA (ss_index_own (InB_of rfl) (elem_tab rfl) rfl rfl rfl rfl (by decide) (by decide)) ?_
   refine evG ggA (ss_load_opagg (InB_of rfl) (agg_tab rfl) rfl rfl rfl rfl) ?_
   refine goA ?_
   refine evG ggA (ss_call (InB_of rfl) rfl rfl cc3) ?_
   refine goA ?_
   refine evG ggA (ss_index_own (InB_of rfl) (elem_tab rfl) rfl rfl rfl rfl (by decide) (by decide)) ?_
   refine evG ggA (ss_store_own rfl (size_tab rfl) rfl rfl rfl (by decide) rfl rfl (fun l e => by cases e) rfl) ?_
   refine goA ?_
   exact loopQ_intro (k := 1) (s' := mkS [(1, .v (iV p)), (14, .own 200 2), (146, .v (iV 2)), (147, .v (iV 1))] [(200, .lst 2 26 [serA 0 M, serA 1 D])] 164 true) (by decide) (by exact entA) (.inr (.inl ⟨rfl, rfl⟩))
  ·refine goA ?_
   refine evG ggA (ss_index_own (InB_of rfl) (elem_tab rfl) rfl rfl rfl rfl (by decide) (by decide)) ?_
   refine evG ggA (ss_load_opagg (InB_of rfl) (agg_tab rfl) rfl rfl rfl rfl) ?_
   refine goA ?_
   refine evG ggA (ss_call (InB_of rfl) rfl rfl cc2) ?_
   refine goA ?_
   refine evG ggA (ss_index_own (InB_of rfl) (elem_tab rfl) rfl rfl rfl rfl (by decide) (by decide)) ?_
   refine evG ggA (ss_store_own rfl (size_tab rfl) rfl rfl rfl (by decide) rfl rfl (fun l e => by cases e) rfl) ?_
   refine goA ?_
   exact loopQ_intro (k := 0) (s' := mkS [(1, .v (iV p)), (14, .own 200 2), (146, .v (iV 2)), (147, .v (iV 2))] [(200, .lst 2 26 [serA 0 M, serA 1 D])] 164 true) (by decide) (by exact entA) (.inr (.inr ⟨rfl, rfl⟩))
  ·refine goA ?_
   exact midQ_intro (by exact entA) rfl
 rintro _ rfl
 refine T.weak (s' := mkS [(14, .v (.sl [serA 0 M, serA 1 D]))] [] 164 true) (by exact entA) ?_
 refine goA ?_
 exact rfl
end Ab
