import Derived.Test.YtdbkmjahbgcjbaaGreatDoorRPJ
import Derived.Test.YtdbkmjahbgcjbaaGreatDoorBase
import Derived.Test.YtdbkmjahbgcjbaaGreatDoorRJ
set_option linter.all false
namespace Ab
open Go Go.RowKit Go.Proofs Hp
set_option maxRecDepth 100000
theorem lt_add {x y : Int} {k : Nat} (hx : x.natAbs < pw k) (hy : y.natAbs < pw k) : (x + y).natAbs < pw (k + 1) := by
 have h1 := pw_pos k
 have h2 : pw (k + 1) = pw k * 4294967296 := rfl
 omega
theorem rat_add_eq (p q : Rat) : p + q = Rat.divInt (p.num * q.den + q.num * p.den) (p.den * q.den) := by
 conv => lhs; rw [← Rat.num_divInt_den p, ← Rat.num_divInt_den q]
 rw [Rat.divInt_add_divInt _ _ (by have := p.den_nz; omega) (by have := q.den_nz; omega)]
set_option maxHeartbeats 2000000 in
theorem refadd2_p {a b : AV} {k l : Nat} {p q : Rat} (ha : IsV a k p) (hb : IsV b l q) (h1 : 1 ≤ k) (h2 : 1 ≤ l) (hk : k + l + 1 ≤ 274877906944) : PW Tryz.prog 171 [a, b] (encQ (p + q)) := by
 have hp := isV_ht ha h1
 have hq := isV_ht hb h2
 have n1 := refnormal_p ha (by omega)
 have n2 := refnormal_p hb (by omega)
 have dp : ((p.den : Nat) : Int).natAbs < pw k := by rw [Int.natAbs_natCast]; exact hp.2
 have dq : ((q.den : Nat) : Int).natAbs < pw l := by rw [Int.natAbs_natCast]; exact hq.2
 have i1 := isI_encI hp.1
 have i2 := isI_encI dp
 have i3 := isI_encI hq.1
 have i4 := isI_encI dq
 have c1 := refmul_p i1 i4 (by omega) (by omega)
 have c2 := refmul_p i3 i2 (by omega) (by omega)
 have b1 := lt_mul hp.1 dq
 have b2 := lt_mul hq.1 dp
 rw [Nat.add_comm l k] at b2
 have c3 := refadd_p (isI_encI b1) (isI_encI b2) (by omega)
 have c4 := refmul_p i2 i4 (by omega) (by omega)
 have c5 := over_p (isI_encI (lt_add b1 b2)) (isI_mono (isI_encI (lt_mul dp dq)) (Nat.le_succ _)) (by omega)
 rw [rat_add_eq]
 obtain ⟨g, x, g', x', rfl⟩ := isV_cells ha
 obtain ⟨j, y, j', y', rfl⟩ := isV_cells hb
 clear ha hb hp hq i1 i2 i3 i4 b1 b2 dp dq
 unfold encI at c1 c2 c3 c4 c5
 unfold encQ at n1 n2 c5 ⊢
 refine pc_body1 false Tryz.func171 rfl rfl rfl (Nat.le_of_ble_eq_true rfl) (CellT.agg agg_rat) ?_
 refine goA ?_
 refine evG ggA (ss_call (InB_of rfl) rfl rfl n1) ?_
 refine goA ?_
 refine evG ggA (ss_call (InB_of rfl) rfl rfl n2) ?_
 refine goA ?_
 refine evG ggA (ss_call (InB_of rfl) rfl rfl c1) ?_
 refine goA ?_
 refine evG ggA (ss_call (InB_of rfl) rfl rfl c2) ?_
 refine evG ggA (ss_call (InB_of rfl) rfl rfl c3) ?_
 refine goA ?_
 refine evG ggA (ss_call (InB_of rfl) rfl rfl c4) ?_
 refine evG ggA (ss_call (InB_of rfl) rfl rfl c5) ?_
 refine goA ?_
 exact rfl
theorem refneg2_p {a : AV} {k : Nat} {p : Rat} (h : IsV a k p) (hk : k ≤ 274877906944) : PW Tryz.prog 207 [a] (encQ (-p)) := by
 obtain ⟨cs, ds, n, d, rfl, h1, h2, rfl⟩ := h
 have c1 := refneg_p ⟨cs, rfl, h1⟩ (by omega)
 have c2 := over_p (isI_encI (z := -n) (k := k) (by rw [Int.natAbs_neg]; exact isC_lt h1)) ⟨ds, rfl, h2⟩ hk
 have e : -(Rat.divInt n d) = Rat.divInt (-n) d := (Rat.neg_divInt n d).symm ▸ rfl
 rw [e]
 obtain ⟨g, x, rfl, -⟩ := h1
 obtain ⟨g', x', rfl, -⟩ := h2
 unfold encI at c1 c2
 unfold encQ at c2 ⊢
 refine pc_body1 false Tryz.func207 rfl rfl rfl (Nat.le_of_ble_eq_true rfl) (CellT.agg agg_rat) ?_
 refine goA ?_
 refine evG ggA (ss_call (InB_of rfl) rfl rfl c1) ?_
 refine goA ?_
 refine evG ggA (ss_call (InB_of rfl) rfl rfl c2) ?_
 refine goA ?_
 exact rfl
theorem refsub2_p {a b : AV} {k l : Nat} {p q : Rat} (ha : IsV a k p) (hb : IsV b l q) (h1 : 1 ≤ k) (h2 : 1 ≤ l) (hk : k + l + 1 ≤ 274877906944) : PW Tryz.prog 214 [a, b] (encQ (p - q)) := by
 have c1 := refneg2_p hb (by omega)
 have c2 := refadd2_p ha (isV_encQ (ht_neg (isV_ht hb h2))) h1 h2 hk
 rw [← Rat.sub_eq_add_neg] at c2
 obtain ⟨g, x, g', x', rfl⟩ := isV_cells ha
 obtain ⟨j, y, j', y', rfl⟩ := isV_cells hb
 unfold encQ at c1 c2 ⊢
 refine pc_body1 false Tryz.func214 rfl rfl rfl (Nat.le_of_ble_eq_true rfl) (CellT.agg agg_rat) ?_
 refine goA ?_
 refine evG ggA (ss_call (InB_of rfl) rfl rfl c1) ?_
 refine evG ggA (ss_call (InB_of rfl) rfl rfl c2) ?_
 refine goA ?_
 exact rfl
end Ab
namespace Ab
open Go Go.RowKit Go.Proofs Hp
set_option maxRecDepth 100000
theorem two_p {s t : Int} {es fs : List AV} (h1 : InR s es.length) (h2 : InR t fs.length) : PC Tryz.prog 180 [serA s es, serA t fs] (.p (.int .i64 (if ValidP s es.length && ValidP t fs.length then 0 else 2))) := by
  have c1 := check_p (es := es) h1.1 h1.2 h1.3
  have c2 := check_p (es := fs) h2.1 h2.2 h2.3
  cases e1 : ValidP s es.length with
  | false =>
    rw [e1] at c1
    refine pc_body1 true Tryz.func180 rfl rfl rfl (Nat.le_of_ble_eq_true rfl) CellT.tmp ?_
    refine goA ?_
    refine evG ggA (ss_call (InB_of rfl) rfl rfl c1) ?_
    refine goA ?_
    exact rfl
  | true =>
    rw [e1] at c1
    cases e2 : ValidP t fs.length with
    | false =>
      rw [e2] at c2
      refine pc_body1 true Tryz.func180 rfl rfl rfl (Nat.le_of_ble_eq_true rfl) CellT.tmp ?_
      refine goA ?_
      refine evG ggA (ss_call (InB_of rfl) rfl rfl c1) ?_
      refine goA ?_
      refine evG ggA (ss_call (InB_of rfl) rfl rfl c2) ?_
      refine goA ?_
      exact rfl
    | true =>
      rw [e2] at c2
      refine pc_body1 true Tryz.func180 rfl rfl rfl (Nat.le_of_ble_eq_true rfl) CellT.tmp ?_
      refine goA ?_
      refine evG ggA (ss_call (InB_of rfl) rfl rfl c1) ?_
      refine goA ?_
      refine evG ggA (ss_call (InB_of rfl) rfl rfl c2) ?_
      refine goA ?_
      exact rfl
theorem coef_p {s n : Int} {es : List AV} {l : List Rat} {K : Nat} (h : IsL es K l) (hK : K ≤ 274877906944) (a0 : -100 ≤ s) (a1 : s ≤ 1000) (a2 : (es.length : Int) ≤ 1000 - s) (n0 : -100000 ≤ n) (n1 : n ≤ 100000) : PC Tryz.prog 41 [serA s es, .p (.int .i64 n)] (encQ (cf s l n)) := by
 have hle := h.get.1
 have cz := q_p 0 (by decide) (by decide)
 have e0 : ((0 : Int) : Rat) = 0 := rfl
 rw [e0] at cz
 by_cases h1 : n < s
 ·have hb1 : decide (n < s) = true := by simp [h1]
  rw [cf_lt h1]
  unfold encQ at cz ⊢
  refine pc_body1 true Tryz.func41 rfl rfl rfl (Nat.le_of_ble_eq_true rfl) (CellT.agg agg_rat) ?_
  refine goA ?_
  refine evG ggA (ss_call (InB_of rfl) rfl rfl cz) ?_
  refine goA ?_
  exact rfl
 have hb1 : decide (n < s) = false := by simp; omega
 by_cases h2 : s + es.length ≤ n
 ·have hb2 : decide (n ≥ s + (es.length : Int)) = true := by simp [h2]
  rw [cf_ge (by omega)]
  unfold encQ at cz ⊢
  refine pc_body1 true Tryz.func41 rfl rfl rfl (Nat.le_of_ble_eq_true rfl) (CellT.agg agg_rat) ?_
  refine goA ?_
  refine evG ggA (ss_call (InB_of rfl) rfl rfl cz) ?_
  refine goA ?_
  exact rfl
 have hb2 : decide (n ≥ s + (es.length : Int)) = false := by simp; omega
 obtain ⟨g, xs, g', xs', q, e1, e2, e3⟩ := h.at (i := (n - s).toNat) (by omega)
 have hc : cf s l n = q := by
  unfold cf
  rw [if_neg h1, List.getD_eq_getElem?_getD, e2]
  rfl
 rw [hc]
 have cn : PC Tryz.prog 85 _ (encQ q) := (refnormal_p e3 hK).up
 unfold encQ at cn ⊢
 refine pc_body1 true Tryz.func41 rfl rfl rfl (Nat.le_of_ble_eq_true rfl) (CellT.agg agg_rat) ?_
 refine goA ?_
 refine evG ggA (ss_index_sl (InB_of rfl) (elem_tab rfl) rfl rfl (by omega) e1 rfl) ?_
 refine goA ?_
 refine evG ggA (ss_call (InB_of rfl) rfl rfl cn) ?_
 refine goA ?_
 exact rfl
def sclR (c : Rat) (s : Int) (l : List Rat) : Option (Int × List Rat) := if ValidP s l.length then nrm s (tk (fun i => c * l.getD i 0) l.length) else none
set_option maxHeartbeats 2000000 in
theorem rscale_p {a : AV} {c : Rat} {k : Nat} {s : Int} {es : List AV} {l : List Rat} {K : Nat} (ha : IsV a k c) (h : ValidP s es.length = true → IsL es K l) (hle : es.length = l.length) (hr : InR s es.length) (hk : 1 ≤ k) (hK : 1 ≤ K) (hkK : k + K ≤ 100000000) : PC Tryz.prog 134 [a, serA s es] (serE (sclR c s l)) := by
  have cch := check_p (es := es) hr.1 hr.2 hr.3
  obtain ⟨g, xs, g', xs', rfl⟩ := isV_cells ha
  rw [serE_eq]
  unfold sclR
  rw [← hle]
  cases hv : ValidP s es.length with
  | false =>
    rw [hv] at cch
    refine pc_body2 true Tryz.func134 rfl rfl rfl (Nat.le_of_ble_eq_true rfl) (CellT.agg agg_ser) CellT.tmp ?_
    refine goA ?_
    refine evG ggA (ss_call (InB_of rfl) rfl rfl cch) ?_
    refine goA ?_
    exact rfl
  | true =>
  rw [hv] at cch
  have hL := h hv
  obtain ⟨a0, a1, a2⟩ := valid_iff.1 hv
  obtain ⟨N, hN⟩ : ∃ N, N = es.length := ⟨_, rfl⟩
  have hF : ∀ (i : Nat) q, l[i]? = some q → (fun i => c * l.getD i 0) i = c * q := fun i q hq => by
    show c * l.getD i 0 = _
    rw [List.getD_eq_getElem?_getD, hq]; rfl
  have hhF : ∀ i, Ht ((fun i => c * l.getD i 0) i) (k + K) := fun i => ht_mul (isV_ht ha hk) (ht_getD hK (isL_ht hL hK) i) hk
  rw [← hN]
  generalize (fun i => c * l.getD i 0) = F at *
  refine pc_body2 true Tryz.func134 rfl rfl rfl (Nat.le_of_ble_eq_true rfl) (CellT.agg agg_ser) CellT.tmp ?_
  refine r1A ?_
  refine T.seqI (fun s1 => s1 = mkS [(2, .ptr 2 0), (3, .ptr 3 0), (4, .ptr 4 0)] [(2, .var [.v (.p (.bool g)), .v (.sl xs), .v (.p (.bool g')), .v (.sl xs')]), (3, .var [.v (.p (.int .i64 s)), .v (.sl es)]), (4, var0)] 38 true) ?_ ?_
  · refine goA ?_
    refine evG ggA (ss_call (InB_of rfl) rfl rfl cch) ?_
    refine goA ?_
    exact midQ_intro (by exact entA) rfl
  rintro _ rfl
  refine r1A ?_
  refine T.seqI (fun s1 => s1 = mkS [(3, .ptr 3 0), (4, .ptr 4 0), (7, .own 100 N)] [(3, .var [.v (.p (.int .i64 s)), .v (.sl es)]), (4, var0), (100, .lst 4 56 ((tk F N).map encQ))] 38 true) ?_ ?_
  · refine r1A ?_
    refine T.block ?_
    refine T.loop (fun n s1 => ∃ j : Nat, n = N - j ∧ j ≤ N ∧ s1 = mkS [(2, .ptr 2 0), (3, .ptr 3 0), (4, .ptr 4 0), (7, .own 100 j), (8, .v (.p (.int .i64 (j : Nat))))] [(2, .var [.v (.p (.bool g)), .v (.sl xs), .v (.p (.bool g')), .v (.sl xs')]), (3, .var [.v (.p (.int .i64 s)), .v (.sl es)]), (4, var0), (100, .lst 4 56 ((tk F j).map encQ))] 38 true) N
      (s' := mkS [(2, .ptr 2 0), (3, .ptr 3 0), (4, .ptr 4 0), (7, .own 100 0), (8, .v (.p (.int .i64 (0 : Nat))))] [(2, .var [.v (.p (.bool g)), .v (.sl xs), .v (.p (.bool g')), .v (.sl xs')]), (3, .var [.v (.p (.int .i64 s)), .v (.sl es)]), (4, var0), (100, .lst 4 56 ((tk F 0).map encQ))] 38 true) (by exact entA) ⟨0, rfl, Nat.zero_le _, rfl⟩ ?_
    rintro n _ ⟨j, rfl, hj, rfl⟩
    by_cases hlt : j < N
    · have hb : decide ((j : Int) < (es.length : Int)) = true := by simp; omega
      obtain ⟨y, ys, y', ys', q, e1, e2, e3⟩ := hL.at (i := j) (by omega)
      have e1' : es[((j : Nat) : Int).toNat]? = some (.agg [.p (.bool y), .sl ys, .p (.bool y'), .sl ys']) := by rw [Int.toNat_natCast]; exact e1
      have cm : PC Tryz.prog 42 _ _ := (refmul2_p ha e3 (by omega)).up
      rw [← hF j q e2] at cm
      clear hF hhF hL h ha
      refine goA ?_
      refine evG ggA (ss_index_sl (InB_of rfl) (elem_tab rfl) rfl rfl (by omega) e1' rfl) ?_
      refine goA ?_
      refine evG ggA (ss_call (InB_of rfl) rfl rfl cm) ?_
      (refine evG ggA (ss_bslice (InB_of rfl) (make_tab rfl) rfl rfl rfl rfl (one_ok rfl rfl) (Nat.le_of_ble_eq_true rfl)) ?_; refine evG ggA (ss_snoc (InB_of rfl) (make_tab rfl) rfl rfl (by first | rfl | assumption | (simp; done) | (simp; omega)) rfl (by omega) (Nat.le_of_ble_eq_true rfl) rfl) ?_)
      refine goA ?_
      exact loopQ_intro (k := N - (j + 1)) (s' := mkS [(2, .ptr 2 0), (3, .ptr 3 0), (4, .ptr 4 0), (7, .own 100 (j + 1)), (8, .v (.p (.int .i64 ((j : Int) + 1))))] [(2, .var [.v (.p (.bool g)), .v (.sl xs), .v (.p (.bool g')), .v (.sl xs')]), (3, .var [.v (.p (.int .i64 s)), .v (.sl es)]), (4, var0), (100, .lst 4 56 ((tk F j ++ [F j]).map encQ))] 38 true) (by omega) (by exact entA) ⟨j + 1, rfl, hlt, by rw [tk_succ]; rfl⟩
    · obtain rfl : j = N := by omega
      have hb : decide ((j : Int) < (es.length : Int)) = false := by simp; omega
      refine goA ?_
      exact midQ_intro (s' := mkS [(3, .ptr 3 0), (4, .ptr 4 0), (7, .own 100 j)] [(3, .var [.v (.p (.int .i64 s)), .v (.sl es)]), (4, var0), (100, .lst 4 56 ((tk F j).map encQ))] 38 true) (by exact entA) rfl
  rintro _ rfl
  have hbuild := result_p (s := s) (isL_enc (l := tk F N) (k := k + K) (fun q hq => by obtain ⟨i, -, rfl⟩ := tk_mem hq; exact hhF i)) (by omega) (by omega) (by omega) (by rw [tk_len]; omega)
  rw [serE_eq] at hbuild
  refine T.weak (s' := mkS [(3, .ptr 3 0), (4, .ptr 4 0), (7, .v (.sl ((tk F N).map encQ)))] [(3, .var [.v (.p (.int .i64 s)), .v (.sl es)]), (4, var0)] 38 true) (by exact entA) ?_
  refine goA ?_
  refine evG ggA (ss_call (InB_of rfl) rfl rfl hbuild) ?_
  refine goA ?_
  exact rfl
theorem Out.eq {x y : Option (Int × List Rat)} {p b b' : Int} {f : Int → Rat} {K K' : Nat} (h : Out x p f b K) (h' : Out y p f b' K') : x = y := by
 obtain ⟨s, l, e1, -, e3, -, -, e6, -, e8⟩ := h
 obtain ⟨t, m, k1, -, k3, -, -, k6, -, k8⟩ := h'
 obtain ⟨rfl, rfl⟩ := norm_eq (s := s) (t := t) (l := l) (m := m) e8 k8 (by omega) (fun n hn => by rw [e6 n (by omega), k6 n (by omega)])
 rw [e1, k1]
end Ab
namespace Ab
open Go Go.RowKit Go.Proofs Hp
set_option maxRecDepth 100000
end Ab
