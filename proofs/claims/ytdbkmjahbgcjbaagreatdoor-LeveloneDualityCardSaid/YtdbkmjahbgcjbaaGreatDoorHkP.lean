import Derived.Test.YtdbkmjahbgcjbaaGreatDoorHjA
import Derived.Test.YtdbkmjahbgcjbaaGreatDoorRJ
import Derived.Test.YtdbkmjahbgcjbaaGreatDoorRPJ
import Derived.Test.YtdbkmjahbgcjbaaGreatDoorZJ
set_option linter.all false
namespace Ab
open Go Go.RowKit Go.Proofs Hp
set_option maxRecDepth 100000
set_option maxHeartbeats 2000000 in
theorem scale_p {a : AV} {c : Rat} {k : Nat} {s : Int} {es : List AV} {l : List Rat} {K : Nat} (ha : IsV a k c) (h : ValidP s es.length = true → IsL es K l) (hle : es.length = l.length) (hr : InR s es.length) (hk : 1 ≤ k) (hK : 1 ≤ K) (hkK : k + K ≤ 100000000) : PC Tryz.prog 48 [a, serA s es] (serE (sclR c s l)) := by
  have hva := valid_p hr.1 hr.2 hr.3
  obtain ⟨g, xs, g', xs', rfl⟩ := isV_cells ha
  rw [serE_eq]
  unfold sclR
  rw [← hle]
  cases hv : ValidP s es.length with
  | false =>
    rw [hv] at hva
    refine pc_body2 true Tryz.func48 rfl rfl rfl (Nat.le_of_ble_eq_true rfl) (CellT.agg agg_ser) CellT.tmp ?_
    refine goA ?_
    refine evG ggA (ss_call (InB_of rfl) rfl rfl hva) ?_
    refine goA ?_
    exact rfl
  | true =>
  rw [hv] at hva
  have hL := h hv
  obtain ⟨a0, a1, a2⟩ := valid_iff.1 hv
  obtain ⟨N, hN⟩ : ∃ N, N = es.length := ⟨_, rfl⟩
  have hF : ∀ (i : Nat) q, l[i]? = some q → (fun i => c * l.getD i 0) i = c * q := fun i q hq => by
    show c * l.getD i 0 = _
    rw [List.getD_eq_getElem?_getD, hq]; rfl
  have hhF : ∀ i, Ht ((fun i => c * l.getD i 0) i) (k + K) := fun i => ht_mul (isV_ht ha hk) (ht_getD hK (isL_ht hL hK) i) hk
  rw [← hN]
  generalize (fun i => c * l.getD i 0) = F at *
  refine pc_body2 true Tryz.func48 rfl rfl rfl (Nat.le_of_ble_eq_true rfl) (CellT.agg agg_ser) CellT.tmp ?_
  refine r1A ?_
  refine T.seqI (fun s1 => s1 = mkS [(2, .ptr 2 0), (3, .ptr 3 0), (4, .ptr 4 0)] [(2, .var [.v (.p (.bool g)), .v (.sl xs), .v (.p (.bool g')), .v (.sl xs')]), (3, .var [.v (.p (.int .i64 s)), .v (.sl es)]), (4, var0)] 37 true) ?_ ?_
  · refine goA ?_
    refine evG ggA (ss_call (InB_of rfl) rfl rfl hva) ?_
    refine goA ?_
    exact midQ_intro (by exact entA) rfl
  rintro _ rfl
  refine T.seq ?_
  refine regA ?_
  refine runA ?_
  refine evG ggA (ss_make 30 (e0 := rz) (InB_of rfl) (make_tab rfl) rfl rfl rfl (by omega) (by omega) (by omega) (by omega) rfl rfl rfl) ?_
  refine runA ?_
  refine ev_nil ?_
  refine seqQ_n ?_
  refine T.seqI (fun s1 => s1 = mkS [(3, .ptr 3 0), (4, .ptr 4 0), (6, .own 30 N)] [(3, .var [.v (.p (.int .i64 s)), .v (.sl es)]), (4, var0), (30, .lst 4 56 ((tk F N).map encQ))] 37 true) ?_ ?_
  · refine r1A ?_
    refine T.block ?_
    refine T.loop (fun n s1 => ∃ j : Nat, n = N - j ∧ j ≤ N ∧ s1 = mkS [(2, .ptr 2 0), (3, .ptr 3 0), (4, .ptr 4 0), (6, .own 30 j), (18, .v (.sl es)), (19, .v (.p (.int .i64 N))), (20, .v (.p (.int .i64 (j : Nat))))] [(2, .var [.v (.p (.bool g)), .v (.sl xs), .v (.p (.bool g')), .v (.sl xs')]), (3, .var [.v (.p (.int .i64 s)), .v (.sl es)]), (4, var0), (30, .lst 4 56 ((tk F j).map encQ))] 37 true) N
      (s' := mkS [(2, .ptr 2 0), (3, .ptr 3 0), (4, .ptr 4 0), (6, .own 30 0), (18, .v (.sl es)), (19, .v (.p (.int .i64 es.length))), (20, .v (.p (.int .i64 (0 : Nat))))] [(2, .var [.v (.p (.bool g)), .v (.sl xs), .v (.p (.bool g')), .v (.sl xs')]), (3, .var [.v (.p (.int .i64 s)), .v (.sl es)]), (4, var0), (30, .lst 4 56 ((tk F 0).map encQ))] 37 true) (by exact entA) ⟨0, rfl, Nat.zero_le _, by rw [hN]⟩ ?_
    rintro n _ ⟨j, rfl, hj, rfl⟩
    by_cases hlt : j < N
    · have hb : decide ((j : Int) < (N : Int)) = true := by simp; omega
      obtain ⟨y, ys, y', ys', q, e1, e2, e3⟩ := hL.at (i := j) (by omega)
      have e1' : es[((j : Nat) : Int).toNat]? = some (.agg [.p (.bool y), .sl ys, .p (.bool y'), .sl ys']) := by rw [Int.toNat_natCast]; exact e1
      have cm := rmul_p ha (by omega) e3 (by omega)
      rw [← hF j q e2] at cm
      clear hF hhF hL h ha
      refine goA ?_
      refine evG ggA (ss_index_sl (InB_of rfl) (elem_tab rfl) rfl rfl (by omega) e1' rfl) ?_
      refine goA ?_
      refine evG ggA (ss_call (InB_of rfl) rfl rfl cm) ?_
      (refine evG ggA (ss_bslice (InB_of rfl) (make_tab rfl) rfl rfl rfl rfl (one_ok rfl rfl) (Nat.le_of_ble_eq_true rfl)) ?_; refine evG ggA (ss_snoc (InB_of rfl) (make_tab rfl) rfl rfl (by first | rfl | assumption | (simp; done) | (simp; omega)) rfl (by omega) (Nat.le_of_ble_eq_true rfl) rfl) ?_)
      refine goA ?_
      exact loopQ_intro (k := N - (j + 1)) (s' := mkS [(2, .ptr 2 0), (3, .ptr 3 0), (4, .ptr 4 0), (6, .own 30 (j + 1)), (18, .v (.sl es)), (19, .v (.p (.int .i64 N))), (20, .v (.p (.int .i64 ((j : Int) + 1))))] [(2, .var [.v (.p (.bool g)), .v (.sl xs), .v (.p (.bool g')), .v (.sl xs')]), (3, .var [.v (.p (.int .i64 s)), .v (.sl es)]), (4, var0), (30, .lst 4 56 ((tk F j ++ [F j]).map encQ))] 37 true) (by omega) (by exact entA) ⟨j + 1, rfl, hlt, by rw [tk_succ]; rfl⟩
    · obtain rfl : j = N := by omega
      have hb : decide ((j : Int) < (j : Int)) = false := by simp
      refine goA ?_
      exact midQ_intro (s' := mkS [(3, .ptr 3 0), (4, .ptr 4 0), (6, .own 30 j)] [(3, .var [.v (.p (.int .i64 s)), .v (.sl es)]), (4, var0), (30, .lst 4 56 ((tk F j).map encQ))] 37 true) (by exact entA) rfl
  rintro _ rfl
  have hbuild := build_p (s := s) (isL_enc (l := tk F N) (k := k + K) (fun q hq => by obtain ⟨i, -, rfl⟩ := tk_mem hq; exact hhF i)) (by omega) (by omega) (by omega) (by rw [tk_len]; omega)
  rw [serE_eq] at hbuild
  refine T.weak (s' := mkS [(3, .ptr 3 0), (4, .ptr 4 0), (6, .v (.sl ((tk F N).map encQ)))] [(3, .var [.v (.p (.int .i64 s)), .v (.sl es)]), (4, var0)] 37 true) (by exact entA) ?_
  refine goA ?_
  refine evG ggA (ss_call (InB_of rfl) rfl rfl hbuild) ?_
  refine goA ?_
  exact rfl
theorem pow_le15 {x : Int} (hx : x.natAbs ≤ 60) {e : Nat} (he : e ≤ 15) : (x ^ e).natAbs < pw 3 := by
 have h1 : x.natAbs ^ e ≤ 60 ^ e := Nat.pow_le_pow_left hx e
 have h2 : 60 ^ e ≤ 60 ^ 15 := Nat.pow_le_pow_right (by decide) he
 have h3 : (((60 : Nat) ^ 15 : Nat) : Int) < pw 3 := by decide +kernel
 rw [Int.natAbs_pow]
 have h4 : ((x.natAbs ^ e : Nat) : Int) ≤ ((60 ^ 15 : Nat) : Int) := Int.ofNat_le.2 (Nat.le_trans h1 h2)
 exact Int.lt_of_le_of_lt h4 h3
theorem sq_idx0 {e f m y : Nat} (h : m = 2 * y) : f + (e + e) * y = f + e * m := by subst h; grind
theorem sq_idx2 {e f m y : Nat} (h : m = 2 * y + 1) : f + e + (e + e) * y = f + e * m := by subst h; grind
theorem sq_idx1 {e f m y : Nat} (h : m = 1) (hy : y = 0) : f + e + e * y = f + e * m := by subst h hy; simp
set_option maxHeartbeats 4000000 in
theorem rraised_p {x : Int} {n : Nat} (hx : x.natAbs ≤ 60) (hn : n ≤ 15) : PC Tryz.prog 29 [encI x, iV n] (encI (x ^ n)) := by
 have c1 : PC Tryz.prog 103 [iV 1] (encI 1) := (refof_p 1 (by decide) (by decide)).up
 have hone : encI 1 = encI (x ^ 0) := by rw [Int.pow_zero]
 have hx1 : encI x = encI (x ^ 1) := by rw [Int.pow_succ, Int.pow_zero, Int.one_mul]
 have hI : ∀ e : Nat, e ≤ 15 → IsI (encI (x ^ e)) 3 (x ^ e) := fun e he => isI_encI (pow_le15 hx he)
 have hm : ∀ e f : Nat, e ≤ 15 → f ≤ 15 → PC Tryz.prog 28 [encI (x ^ e), encI (x ^ f)] (encI (x ^ (e + f))) := fun e f he hf => by
  have : PC Tryz.prog 28 [encI (x ^ e), encI (x ^ f)] (encI (x ^ e * x ^ f)) := (refmul_p (hI e he) (hI f hf) (by decide) (by decide)).up
  rwa [← Int.pow_add] at this
 rw [hx1]
 rw [hone] at c1
 clear hone hx1 hI hx
 unfold encI at *
 refine pc_body1 true Tryz.func29 rfl rfl rfl (Nat.le_of_ble_eq_true rfl) (CellT.agg (l := ci (x ^ n)) agg_int) ?_
 refine goA ?_
 refine evG ggA (ss_call (InB_of rfl) rfl rfl c1) ?_
 refine runA ?_
 refine ev_nil ?_
 (repeat (first | with_reducible refine seqQ_n ?_ | with_reducible refine seqQ_e ?_ | with_reducible refine seqQ_r ?_ | with_reducible refine blockQ_n ?_ | with_reducible refine blockQ_r ?_ | with_reducible refine blockQ_e rfl ?_ | with_reducible refine blockQ_o rfl ?_ | with_reducible refine loopQ_e ?_ | with_reducible refine loopQ_r ?_ | with_reducible refine midQ_e ?_ | with_reducible refine midQ_r ?_ | with_reducible refine roundQ_n ?_ | with_reducible refine roundQ_e ?_ | with_reducible refine roundQ_r ?_))
 refine T.seqI (fun s1 => s1 = mkS [(4, .ptr 4 0), (5, .ptr 5 0)] [(4, .var [.v (.p (.bool false)), .v (.p nilV)]), (5, .var ((ci (x ^ n)).map .v))] 23 true) ?_ ?_
 ·refine T.block ?_
  refine T.loop (fun m s1 => ∃ e f k : Nat, m = k ∧ k ≤ n ∧ f + e * k = n ∧ s1 = mkS [(1, .v (iV k)), (2, .ptr 2 0), (4, .ptr 4 0), (5, .ptr 5 0)] [(2, .var ((ci (x ^ e)).map .v)), (4, .var [.v (.p (.bool false)), .v (.p nilV)]), (5, .var ((ci (x ^ f)).map .v))] 23 true) n
   (s' := mkS [(1, .v (iV n)), (2, .ptr 2 0), (4, .ptr 4 0), (5, .ptr 5 0)] [(2, .var ((ci (x ^ 1)).map .v)), (4, .var [.v (.p (.bool false)), .v (.p nilV)]), (5, .var ((ci (x ^ 0)).map .v))] 23 true) (by exact entA) ⟨1, 0, n, rfl, Nat.le_refl _, by omega, rfl⟩ ?_
  rintro m _ ⟨e, f, k, rfl, hkn, hfe, rfl⟩
  by_cases hk : 0 < m
  ·have k1 : decide ((m : Int) > 0) = true := decide_eq_true (by omega)
   have he : e ≤ 15 := by
    have : e * 1 ≤ e * m := Nat.mul_le_mul_left _ hk
    omega
   have hf : f ≤ 15 := by omega
   have em : (m : Int).tmod 2 = ((m % 2 : Nat) : Int) := rfl
   have eq2 : (m : Int).tdiv 2 = ((m / 2 : Nat) : Int) := rfl
   have hmd : m = 2 * (m / 2) + m % 2 := by omega
   by_cases c1 : m % 2 = 1
   ·have k2 : (((m % 2 : Nat) : Int) == 1) = true := by rw [c1]; rfl
    by_cases c2 : 0 < m / 2
    ·have k3 : decide (((m / 2 : Nat) : Int) > 0) = true := decide_eq_true (by omega)
     refine goA ?_
     refine evG ggA (ss_div (op := .rem) (InB_of rfl) rfl rfl (by omega) rfl) ?_
     rw [em]
     refine goA ?_
     refine evG ggA (ss_call (InB_of rfl) rfl rfl (hm f e hf he)) ?_
     refine goA ?_
     refine evG ggA (ss_div (InB_of rfl) rfl rfl (by decide) (w64 (by omega) (by omega))) ?_
     rw [eq2]
     refine goA ?_
     refine evG ggA (ss_call (InB_of rfl) rfl rfl (hm e e he he)) ?_
     refine goA ?_
     exact loopQ_intro (k := m / 2) (s' := mkS [(1, .v (iV ((m / 2 : Nat) : Int))), (2, .ptr 2 0), (4, .ptr 4 0), (5, .ptr 5 0)] [(2, .var ((ci (x ^ (e + e))).map .v)), (4, .var [.v (.p (.bool false)), .v (.p nilV)]), (5, .var ((ci (x ^ (f + e))).map .v))] 23 true) (by omega) (by exact entA) ⟨e + e, f + e, m / 2, rfl, by omega, by rw [← hfe]; exact sq_idx2 (by omega), rfl⟩
    ·have k3 : decide (((m / 2 : Nat) : Int) > 0) = false := decide_eq_false (by omega)
     refine goA ?_
     refine evG ggA (ss_div (op := .rem) (InB_of rfl) rfl rfl (by omega) rfl) ?_
     rw [em]
     refine goA ?_
     refine evG ggA (ss_call (InB_of rfl) rfl rfl (hm f e hf he)) ?_
     refine goA ?_
     refine evG ggA (ss_div (InB_of rfl) rfl rfl (by decide) (w64 (by omega) (by omega))) ?_
     rw [eq2]
     refine goA ?_
     exact loopQ_intro (k := m / 2) (s' := mkS [(1, .v (iV ((m / 2 : Nat) : Int))), (2, .ptr 2 0), (4, .ptr 4 0), (5, .ptr 5 0)] [(2, .var ((ci (x ^ (e))).map .v)), (4, .var [.v (.p (.bool false)), .v (.p nilV)]), (5, .var ((ci (x ^ (f + e))).map .v))] 23 true) (by omega) (by exact entA) ⟨e, f + e, m / 2, rfl, by omega, by rw [← hfe]; exact sq_idx1 (by omega) (by omega), rfl⟩
   ·have k2 : (((m % 2 : Nat) : Int) == 1) = false := by rw [show m % 2 = 0 by omega]; rfl
    by_cases c2 : 0 < m / 2
    ·have k3 : decide (((m / 2 : Nat) : Int) > 0) = true := decide_eq_true (by omega)
     refine goA ?_
     refine evG ggA (ss_div (op := .rem) (InB_of rfl) rfl rfl (by omega) rfl) ?_
     rw [em]
     refine goA ?_
     refine evG ggA (ss_div (InB_of rfl) rfl rfl (by decide) (w64 (by omega) (by omega))) ?_
     rw [eq2]
     refine goA ?_
     refine evG ggA (ss_call (InB_of rfl) rfl rfl (hm e e he he)) ?_
     refine goA ?_
     exact loopQ_intro (k := m / 2) (s' := mkS [(1, .v (iV ((m / 2 : Nat) : Int))), (2, .ptr 2 0), (4, .ptr 4 0), (5, .ptr 5 0)] [(2, .var ((ci (x ^ (e + e))).map .v)), (4, .var [.v (.p (.bool false)), .v (.p nilV)]), (5, .var ((ci (x ^ (f))).map .v))] 23 true) (by omega) (by exact entA) ⟨e + e, f, m / 2, rfl, by omega, by rw [← hfe]; exact sq_idx0 (by omega), rfl⟩
    ·omega
  ·obtain rfl : m = 0 := by omega
   have k1 : decide (((0 : Nat) : Int) > 0) = false := rfl
   obtain rfl : f = n := by omega
   refine goA ?_
   exact midQ_intro (by exact entA) rfl
 rintro _ rfl
 refine goA ?_
 exact rfl
theorem rwhole_p {z : Int} {k : Nat} (hz : z.natAbs < pw k) (hk : k ≤ 17592186044416) : PC Tryz.prog 223 [encI z] (encQ (z : Rat)) := by
 have c1 : PC Tryz.prog 104 [encI z] (encI z) := (rnorm_p (isI_encI hz) hk).up
 have c2 : PC Tryz.prog 103 [iV 1] (encI 1) := (refof_p 1 (by decide) (by decide)).up
 rw [encQ_int]
 unfold encI at *
 refine pc_body1 true Tryz.func223 rfl rfl rfl (Nat.le_of_ble_eq_true rfl) (CellT.agg (l := ci z ++ ci 1) agg_rat) ?_
 refine goA ?_
 refine evG ggA (ss_call (InB_of rfl) rfl rfl c1) ?_
 refine goA ?_
 refine evG ggA (ss_call (InB_of rfl) rfl rfl c2) ?_
 refine goA ?_
 exact rfl
end Ab
