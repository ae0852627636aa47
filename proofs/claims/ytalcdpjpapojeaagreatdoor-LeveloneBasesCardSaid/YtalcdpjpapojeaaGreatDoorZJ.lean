/- Package ref02. -/
import Derived.Test.YtalcdpjpapojeaaGreatDoorRPJ
import Derived.Test.YtalcdpjpapojeaaGreatDoorIB
import Derived.Test.YtalcdpjpapojeaaGreatDoorRJ
set_option linter.all false
namespace Ab
open Go Go.RowKit Go.Proofs Hp
set_option maxRecDepth 100000
theorem lt_add {x y : Int} {k : Nat} (hx : x.natAbs < pw k) (hy : y.natAbs < pw k) : (x + y).natAbs < pw (k + 1) := by
 have h1 := Zch k
 have h2 : pw (k + 1) = pw k * 4294967296 := rfl
 omega
theorem rat_add_eq (p q : Rat) : p + q = Rat.divInt (p.num * q.den + q.num * p.den) (p.den * q.den) := by
 conv => lhs; rw [← Rat.num_divInt_den p, ← Rat.num_divInt_den q]
 rw [Rat.divInt_add_divInt _ _ (by have := p.den_nz; omega) (by have := q.den_nz; omega)]
set_option maxHeartbeats 2000000 in
theorem Zdx {a b : AV} {k l : Nat} {p q : Rat} (ha : IsV a k p) (hb : IsV b l q) (h1 : 1 ≤ k) (h2 : 1 ≤ l) (hk : k + l + 1 ≤ 274877906944) : PW Tryz.prog 116 [a, b] (encQ (p + q)) := by
 have hp := Zfc ha h1
 have hq := Zfc hb h2
 have n1 := Zca ha oM
 have n2 := Zca hb oM
 have dp : ((p.den : Nat) : Int).natAbs < pw k := by rw [Int.natAbs_natCast]; exact hp.2
 have dq : ((q.den : Nat) : Int).natAbs < pw l := by rw [Int.natAbs_natCast]; exact hq.2
 have i1 := Zar hp.1
 have i2 := Zar dp
 have i3 := Zar hq.1
 have i4 := Zar dq
 have c1 := Zdo i1 i4 oM oM
 have c2 := Zdo i3 i2 oM oM
 have b1 := lt_mul hp.1 dq
 have b2 := lt_mul hq.1 dp
 rw [Nat.add_comm l k] at b2
 have c3 := refadd_p (Zar b1) (Zar b2) oM
 have c4 := Zdo i2 i4 oM oM
 have c5 := over_p (Zar (lt_add b1 b2)) (isI_mono (Zar (lt_mul dp dq)) (Nat.le_succ _)) oM
 rw [rat_add_eq]
 obtain ⟨g, x, g', x', rfl⟩ := Zax ha
 obtain ⟨j, y, j', y', rfl⟩ := Zax hb
 clear ha hb hp hq i1 i2 i3 i4 b1 b2 dp dq
 unfold encI at c1 c2 c3 c4 c5
 unfold encQ at n1 n2 c5 ⊢
 refine Zaz false Tryz.func116 rfl rfl rfl (Nat.le_of_ble_eq_true rfl) (Zac.agg Zbg) ?_
 refine goA ?_
 refine clG n1 ?_
 refine clG n2 ?_
 refine clG c1 ?_
 refine clA c2 ?_
 refine clG c3 ?_
 refine clA c4 ?_
 refine clG c5 ?_
 exact rfl
theorem refneg2_p {a : AV} {k : Nat} {p : Rat} (h : IsV a k p) (hk : k ≤ 274877906944) : PW Tryz.prog 117 [a] (encQ (-p)) := by
 obtain ⟨cs, ds, n, d, rfl, h1, h2, rfl⟩ := h
 have c1 := refneg_p ⟨cs, rfl, h1⟩ oM
 have c2 := over_p (Zar (z := -n) (k := k) (by rw [Int.natAbs_neg]; exact isC_lt h1)) ⟨ds, rfl, h2⟩ hk
 have e : -(Rat.divInt n d) = Rat.divInt (-n) d := (Rat.neg_divInt n d).symm ▸ rfl
 rw [e]
 obtain ⟨g, x, rfl, -⟩ := h1
 obtain ⟨g', x', rfl, -⟩ := h2
 unfold encI at c1 c2
 unfold encQ at c2 ⊢
 refine Zaz false Tryz.func117 rfl rfl rfl (Nat.le_of_ble_eq_true rfl) (Zac.agg Zbg) ?_
 refine goA ?_
 refine clG c1 ?_
 refine clG c2 ?_
 exact rfl
theorem refsub2_p {a b : AV} {k l : Nat} {p q : Rat} (ha : IsV a k p) (hb : IsV b l q) (h1 : 1 ≤ k) (h2 : 1 ≤ l) (hk : k + l + 1 ≤ 274877906944) : PW Tryz.prog 79 [a, b] (encQ (p - q)) := by
 have c1 := refneg2_p hb oM
 have c2 := Zdx ha (Zad (ht_neg (Zfc hb h2))) h1 h2 hk
 rw [← Rat.sub_eq_add_neg] at c2
 obtain ⟨g, x, g', x', rfl⟩ := Zax ha
 obtain ⟨j, y, j', y', rfl⟩ := Zax hb
 unfold encQ at c1 c2 ⊢
 refine Zaz false Tryz.func79 rfl rfl rfl (Nat.le_of_ble_eq_true rfl) (Zac.agg Zbg) ?_
 refine goA ?_
 refine clA c1 ?_
 refine clG c2 ?_
 exact rfl
theorem two_p {s t : Int} {es fs : List AV} (h1 : InR s es.length) (h2 : InR t fs.length) : PC Tryz.prog 142 [serA s es, serA t fs] (.p (.int .i64 (if Zap s es.length && Zap t fs.length then 0 else 2))) := by
  have c1 := check_p (es := es) h1.1 h1.2 h1.3
  have c2 := check_p (es := fs) h2.1 h2.2 h2.3
  cases e1 : Zap s es.length with
  | false =>
    rw [e1] at c1
    refine pb1 Tryz.func142 Zac.tmp ?_
    refine goA ?_
    refine clG c1 ?_
    exact rfl
  | true =>
    rw [e1] at c1
    cases e2 : Zap t fs.length with
    | false =>
      rw [e2] at c2
      refine pb1 Tryz.func142 Zac.tmp ?_
      refine goA ?_
      refine clG c1 ?_
      refine clG c2 ?_
      exact rfl
    | true =>
      rw [e2] at c2
      refine pb1 Tryz.func142 Zac.tmp ?_
      refine goA ?_
      refine clG c1 ?_
      refine clG c2 ?_
      exact rfl
theorem coef_p {s n : Int} {es : List AV} {l : List Rat} {K : Nat} (h : IsL es K l) (hK : K ≤ 274877906944) (a0 : -100 ≤ s) (a1 : s ≤ 1000) (a2 : (es.length : Int) ≤ 1000 - s) (n0 : -100000 ≤ n) (n1 : n ≤ 100000) : PC Tryz.prog 76 [serA s es, .p (.int .i64 n)] (encQ (cf s l n)) := by
 have hle := h.get.1
 have cz := q_p 0 dC dC
 have e0 : ((0 : Int) : Rat) = 0 := rfl
 rw [e0] at cz
 by_cases h1 : n < s
 ·have hb1 : decide (n < s) = true := by simp [h1]
  rw [Zg1 h1]
  unfold encQ at cz ⊢
  refine pb1 Tryz.func76 (Zac.agg Zbg) ?_
  refine goA ?_
  refine clG cz ?_
  exact rfl
 have hb1 : decide (n < s) = false := by simp; omega
 by_cases h2 : s + es.length ≤ n
 ·have hb2 : decide (n ≥ s + (es.length : Int)) = true := by simp [h2]
  rw [cf_ge oM]
  unfold encQ at cz ⊢
  refine pb1 Tryz.func76 (Zac.agg Zbg) ?_
  refine goA ?_
  refine clG cz ?_
  exact rfl
 have hb2 : decide (n ≥ s + (es.length : Int)) = false := by simp; omega
 obtain ⟨g, xs, g', xs', q, e1, e2, e3⟩ := h.at (i := (n - s).toNat) oM
 have hc : cf s l n = q := by
  unfold cf
  rw [if_neg h1, List.getD_eq_getElem?_getD, e2]
  rfl
 rw [hc]
 have cn : PC Tryz.prog 23 _ (encQ q) := (Zca e3 hK).up
 unfold encQ at cn ⊢
 refine pb1 Tryz.func76 (Zac.agg Zbg) ?_
 refine goA ?_
 refine ixG e1 ?_
 refine clG cn ?_
 exact rfl
theorem comb_one {s t : Int} {l m : List Rat} (i : Nat) : comb s l t m 1 i = cf s l (cfr s l.length t m.length + i) + cf t m (cfr s l.length t m.length + i) := by
 unfold comb
 have : ((1 : Int) : Rat) = 1 := rfl
 rw [this, Rat.one_mul]
set_option maxHeartbeats 2000000 in
theorem radd33_p {s t : Int} {es fs : List AV} {l m : List Rat} {K : Nat} (h : Both s es t fs K l m) (hK : 1 ≤ K ∧ K ≤ 100000000) : PC Tryz.prog 111 [serA s es, serA t fs] (serE (Zgf s l t m 1)) := by
  obtain ⟨h0, hle, hlf, i1, i2⟩ := h
  have ctw := two_p i1 i2
  rw [Zbm]
  unfold Zgf
  rw [← hle, ← hlf]
  cases hv : Zap s es.length && Zap t fs.length with
  | false =>
    rw [hv] at ctw
    refine pb2 Tryz.func111 (Zac.agg Zaj) Zac.tmp ?_
    refine goA ?_
    refine clG ctw ?_
    exact rfl
  | true =>
  rw [hv] at ctw
  simp only [Bool.and_eq_true] at hv
  obtain ⟨hL, hM⟩ := h0 hv.1 hv.2
  obtain ⟨a0, a1, a2⟩ := Za2.1 hv.1
  obtain ⟨b0, b1, b2⟩ := Za2.1 hv.2
  have hpa := rprec_p a0 a1 a2
  have hpb := rprec_p b0 b1 b2
  have hhc : ∀ i, Ht (comb s l t m 1 i) (2 * K + 2) := ht_comb hK.1 (Zdz hL hK.1) (Zdz hM hK.1) dC
  have hcomb : comb s l t m 1 = fun (i : Nat) => cf s l (min (min s t) (min (s + es.length) (t + fs.length)) + i) + cf t m (min (min s t) (min (s + es.length) (t + fs.length)) + i) := by funext i; rw [comb_one]; unfold cfr cp; rw [← hle, ← hlf]
  have htl := ht_cf (s := s) hK.1 (Zdz hL hK.1)
  have htm := ht_cf (s := t) hK.1 (Zdz hM hK.1)
  unfold cfr cp
  generalize comb s l t m 1 = F at *
  refine pb2 Tryz.func111 (Zac.agg Zaj) Zac.tmp ?_
  refine goA ?_
  refine clG ctw ?_
  refine clG hpa ?_
  refine clA hpb ?_
  refine runA ?_
  refine Zao ?_
  refine Za1 ?_
  generalize hp : min (s + (es.length : Int)) (t + (fs.length : Int)) = p at *
  refine T.seq ?_
  refine regA ?_
  refine runA ?_
  refine Zao ?_
  refine Za1 ?_
  generalize hf : min (min s t) p = f at *
  obtain ⟨N, hN⟩ : ∃ N, N = (p - f).toNat := ⟨_, rfl⟩
  rw [← hN]
  refine r1A ?_
  refine T.seqE (mkS [(8, .v (iV f)), (9, .own 100 N), (4, .ptr 4 0)] [(4, var0), (100, .lst 4 39 ((tk F N).map encQ))] 50 true) ?_ ?_
  · refine r1A ?_
    refine T.block ?_
    refine T.loop (fun n s1 => ∃ j : Nat, n = N - j ∧ j ≤ N ∧ s1 = mkS [(2, .ptr 2 0), (3, .ptr 3 0), (4, .ptr 4 0), (7, .v (iV p)), (8, .v (iV f)), (10, .v (iV (f + j))), (9, .own 100 j)] [(2, .var [.v (iV s), .v (.sl es)]), (3, .var [.v (iV t), .v (.sl fs)]), (4, var0), (100, .lst 4 39 ((tk F j).map encQ))] 50 true) N
      (s' := mkS [(2, .ptr 2 0), (3, .ptr 3 0), (4, .ptr 4 0), (7, .v (iV p)), (8, .v (iV f)), (10, .v (iV f)), (9, .own 100 0)] [(2, .var [.v (iV s), .v (.sl es)]), (3, .var [.v (iV t), .v (.sl fs)]), (4, var0), (100, .lst 4 39 ((tk F 0).map encQ))] 50 true) entA ⟨0, rfl, Nat.zero_le _, by simp⟩ ?_
    rintro n _ ⟨j, rfl, hj, rfl⟩
    by_cases hlt : j < N
    · have hb : decide (f + (j : Int) < p) = true := by simp; omega
      have c1 := coef_p (n := f + j) hL oM a0 a1 a2 oM oM
      have c2 := coef_p (n := f + j) hM oM b0 b1 b2 oM oM
      have c4 : PC Tryz.prog 116 _ _ := (Zdx (Zad (htl (f + j))) (Zad (htm (f + j))) hK.1 hK.1 oM).up
      have hF : F j = cf s l (f + j) + cf t m (f + j) := by rw [hcomb]
      rw [← hF] at c4
      clear hcomb hhc htl htm
      refine goA ?_
      refine clG c1 ?_
      refine clA c2 ?_
      refine clA c4 ?_
      refine appA ?_
      refine goA ?_
      exact Zab (k := N - (j + 1)) (s' := mkS [(2, .ptr 2 0), (3, .ptr 3 0), (4, .ptr 4 0), (7, .v (iV p)), (8, .v (iV f)), (10, .v (iV (f + (j : Int) + 1))), (9, .own 100 (j + 1))] [(2, .var [.v (iV s), .v (.sl es)]), (3, .var [.v (iV t), .v (.sl fs)]), (4, var0), (100, .lst 4 39 ((tk F j ++ [F j]).map encQ))] 50 true) oM entA ⟨j + 1, rfl, hlt, by rw [Zdu, Int.natCast_succ, ← Int.add_assoc]⟩
    · obtain rfl : j = N := oM
      have hb : decide (f + (j : Int) < p) = false := by simp; omega
      refine goA ?_
      exact Zae (s' := mkS [(8, .v (iV f)), (9, .own 100 j), (4, .ptr 4 0)] [(4, var0), (100, .lst 4 39 ((tk F j).map encQ))] 50 true) entA rfl
  have hbuild := Zey (s := f) (Zbb (l := tk F N) (k := 2 * K + 2) (fun q hq => by obtain ⟨i, -, rfl⟩ := Zfb hq; exact hhc i)) oM oM oM (by rw [tk_len]; omega)
  rw [Zbm] at hbuild
  refine T.weak (s' := mkS [(8, .v (iV f)), (9, .v (.sl ((tk F N).map encQ))), (4, .ptr 4 0)] [(4, var0)] 50 true) entA ?_
  refine goA ?_
  refine clG hbuild ?_
  exact rfl
def sclR (c : Rat) (s : Int) (l : List Rat) : Option (Int × List Rat) := if Zap s l.length then nrm s (tk (fun i => c * l.getD i 0) l.length) else none
set_option maxHeartbeats 2000000 in
theorem rscale_p {a : AV} {c : Rat} {k : Nat} {s : Int} {es : List AV} {l : List Rat} {K : Nat} (ha : IsV a k c) (h : Zap s es.length = true → IsL es K l) (hle : es.length = l.length) (hr : InR s es.length) (hk : 1 ≤ k) (hK : 1 ≤ K) (hkK : k + K ≤ 100000000) : PC Tryz.prog 140 [a, serA s es] (serE (sclR c s l)) := by
  have cch := check_p (es := es) hr.1 hr.2 hr.3
  obtain ⟨g, xs, g', xs', rfl⟩ := Zax ha
  rw [Zbm]
  unfold sclR
  rw [← hle]
  cases hv : Zap s es.length with
  | false =>
    rw [hv] at cch
    refine pb2 Tryz.func140 (Zac.agg Zaj) Zac.tmp ?_
    refine goA ?_
    refine clG cch ?_
    exact rfl
  | true =>
  rw [hv] at cch
  have hL := h hv
  obtain ⟨a0, a1, a2⟩ := Za2.1 hv
  obtain ⟨N, hN⟩ : ∃ N, N = es.length := ⟨_, rfl⟩
  have hF : ∀ (i : Nat) q, l[i]? = some q → (fun i => c * l.getD i 0) i = c * q := fun i q hq => by
    show c * l.getD i 0 = _
    rw [List.getD_eq_getElem?_getD, hq]; rfl
  have hhF : ∀ i, Ht ((fun i => c * l.getD i 0) i) (k + K) := fun i => Zbq (Zfc ha hk) (ht_getD hK (Zdz hL hK) i) hk
  rw [← hN]
  generalize (fun i => c * l.getD i 0) = F at *
  refine pb2 Tryz.func140 (Zac.agg Zaj) Zac.tmp ?_
  refine r1A ?_
  refine T.seqE (mkS [(2, .ptr 2 0), (3, .ptr 3 0), (4, .ptr 4 0)] [(2, .var [.v (.p (.bool g)), .v (.sl xs), .v (.p (.bool g')), .v (.sl xs')]), (3, .var [.v (iV s), .v (.sl es)]), (4, var0)] 38 true) ?_ ?_
  · refine goA ?_
    refine clG cch ?_
    exact midE
  refine r1A ?_
  refine T.seqE (mkS [(3, .ptr 3 0), (4, .ptr 4 0), (7, .own 100 N)] [(3, .var [.v (iV s), .v (.sl es)]), (4, var0), (100, .lst 4 39 ((tk F N).map encQ))] 38 true) ?_ ?_
  · refine r1A ?_
    refine T.block ?_
    refine T.loop (fun n s1 => ∃ j : Nat, n = N - j ∧ j ≤ N ∧ s1 = mkS [(2, .ptr 2 0), (3, .ptr 3 0), (4, .ptr 4 0), (7, .own 100 j), (8, .v (iV (j : Nat)))] [(2, .var [.v (.p (.bool g)), .v (.sl xs), .v (.p (.bool g')), .v (.sl xs')]), (3, .var [.v (iV s), .v (.sl es)]), (4, var0), (100, .lst 4 39 ((tk F j).map encQ))] 38 true) N
      (s' := mkS [(2, .ptr 2 0), (3, .ptr 3 0), (4, .ptr 4 0), (7, .own 100 0), (8, .v (iV (0 : Nat)))] [(2, .var [.v (.p (.bool g)), .v (.sl xs), .v (.p (.bool g')), .v (.sl xs')]), (3, .var [.v (iV s), .v (.sl es)]), (4, var0), (100, .lst 4 39 ((tk F 0).map encQ))] 38 true) entA ⟨0, rfl, Nat.zero_le _, rfl⟩ ?_
    rintro n _ ⟨j, rfl, hj, rfl⟩
    by_cases hlt : j < N
    · have hb : decide ((j : Int) < (es.length : Int)) = true := by simp; omega
      obtain ⟨y, ys, y', ys', q, e1, e2, e3⟩ := hL.at (i := j) oM
      have e1' : es[((j : Nat) : Int).toNat]? = some (.agg [.p (.bool y), .sl ys, .p (.bool y'), .sl ys']) := by rw [Int.toNat_natCast]; exact e1
      have cm : PC Tryz.prog 78 _ _ := (Zb7 ha e3 oM).up
      rw [← hF j q e2] at cm
      clear hF hhF hL h ha
      refine goA ?_
      refine ixG e1' ?_
      refine clA cm ?_
      refine appA ?_
      refine goA ?_
      exact Zab (k := N - (j + 1)) (s' := mkS [(2, .ptr 2 0), (3, .ptr 3 0), (4, .ptr 4 0), (7, .own 100 (j + 1)), (8, .v (iV ((j : Int) + 1)))] [(2, .var [.v (.p (.bool g)), .v (.sl xs), .v (.p (.bool g')), .v (.sl xs')]), (3, .var [.v (iV s), .v (.sl es)]), (4, var0), (100, .lst 4 39 ((tk F j ++ [F j]).map encQ))] 38 true) oM entA ⟨j + 1, rfl, hlt, by rw [Zdu]; rfl⟩
    · obtain rfl : j = N := oM
      have hb : decide ((j : Int) < (es.length : Int)) = false := by simp; omega
      refine goA ?_
      exact Zae (s' := mkS [(3, .ptr 3 0), (4, .ptr 4 0), (7, .own 100 j)] [(3, .var [.v (iV s), .v (.sl es)]), (4, var0), (100, .lst 4 39 ((tk F j).map encQ))] 38 true) entA rfl
  have hbuild := Zey (s := s) (Zbb (l := tk F N) (k := k + K) (fun q hq => by obtain ⟨i, -, rfl⟩ := Zfb hq; exact hhF i)) oM oM oM (by rw [tk_len]; omega)
  rw [Zbm] at hbuild
  refine T.weak (s' := mkS [(3, .ptr 3 0), (4, .ptr 4 0), (7, .v (.sl ((tk F N).map encQ)))] [(3, .var [.v (iV s), .v (.sl es)]), (4, var0)] 38 true) entA ?_
  refine goA ?_
  refine clG hbuild ?_
  exact rfl
theorem Out.eq {x y : Option (Int × List Rat)} {p b b' : Int} {f : Int → Rat} {K K' : Nat} (h : Out x p f b K) (h' : Out y p f b' K') : x = y := by
 obtain ⟨s, l, e1, -, e3, -, -, e6, -, e8⟩ := h
 obtain ⟨t, m, k1, -, k3, -, -, k6, -, k8⟩ := h'
 obtain ⟨rfl, rfl⟩ := norm_eq (s := s) (t := t) (l := l) (m := m) e8 k8 oM (fun n hn => by rw [e6 n oM, k6 n oM])
 rw [e1, k1]
theorem scl_out {c : Rat} {s : Int} {l : List Rat} {k K : Nat} (hv : Zap s l.length = true) (hc : Ht c k) (hk : 1 ≤ k) (hK : 1 ≤ K) (hl : ∀ q, q ∈ l → Ht q K) : Out (sclR c s l) (s + l.length) (fun n => c * cf s l n) s (k + K) := by
 obtain ⟨a0, a1, a2⟩ := Za2.1 hv
 have e : sclR c s l = nrm s (tk (fun i => c * l.getD i 0) l.length) := by unfold sclR; rw [hv]; rfl
 rw [e]
 have := nrm_out (s := s) (l := tk (fun i => c * l.getD i 0) l.length) (K := k + K) a0 (by rw [tk_len]; omega) (fun q hq => by
  obtain ⟨i, -, rfl⟩ := Zfb hq
  exact Zbq hc (ht_getD hK hl i) hk)
 refine this.congr (by rw [tk_len]) (fun n hn => ?_) (Int.le_refl _) (Nat.le_refl _)
 by_cases h2 : n < s
 ·rw [Zg1 h2, Zg1 h2, Rat.mul_zero]
 ·rw [cf_tk oM oM]
  unfold cf
  rw [if_neg h2]
end Ab
