/- Sum, difference, q d/dq and comparison of series, in abstract values. -/
import Derived.Test.YtmcfohngblbpbaaGreatSame
namespace Ab
open Go Go.RowKit Go.Proofs Hp
set_option maxRecDepth 100000

structure InR (s : Int) (n : Nat) : Prop where
  lo : -9223372036854775808 ≤ s
  hi : s ≤ 9223372036854775807
  len : n ≤ 9223372036854775807
/-- both valid: then their coefficients are lists of small fractions -/
def Both (s : Int) (es : List AV) (t : Int) (fs : List AV) (K : Nat) (l m : List Rat) : Prop := (ValidP s es.length = true → ValidP t fs.length = true → IsL es K l ∧ IsL fs K m) ∧ es.length = l.length ∧ fs.length = m.length ∧ InR s es.length ∧ InR t fs.length
theorem add_p {s t : Int} {es fs : List AV} {l m : List Rat} {K : Nat} (h : Both s es t fs K l m) (hK : 1 ≤ K ∧ K ≤ 268435456) : PC Tryz.prog 18 [serA s es, serA t fs] (serE (combR s l t m 1)) := by
  obtain ⟨h1, h2, h3, ⟨a, b, c⟩, ⟨d, e, f⟩⟩ := h
  have hc := combine_p (c := 1) (fun x y => (h1 x y).1) (fun x y => (h1 x y).2) h2 h3 hK ⟨a, b, c⟩ ⟨d, e, f⟩ (by decide)
  rw [serE_eq] at hc ⊢
  refine pc_body2 true Tryz.func18 rfl rfl rfl (Nat.le_of_ble_eq_true rfl) (CellT.agg agg_ser) CellT.tmp ?_
  refine goA ?_
  refine evG ggA (ss_call (InB_of rfl) rfl rfl hc) ?_
  refine goA ?_
  exact rfl
theorem sub_p {s t : Int} {es fs : List AV} {l m : List Rat} {K : Nat} (h : Both s es t fs K l m) (hK : 1 ≤ K ∧ K ≤ 268435456) : PC Tryz.prog 20 [serA s es, serA t fs] (serE (combR s l t m (-1))) := by
  obtain ⟨h1, h2, h3, ⟨a, b, c⟩, ⟨d, e, f⟩⟩ := h
  have hc := combine_p (c := -1) (fun x y => (h1 x y).1) (fun x y => (h1 x y).2) h2 h3 hK ⟨a, b, c⟩ ⟨d, e, f⟩ (by decide)
  rw [serE_eq] at hc ⊢
  refine pc_body2 true Tryz.func20 rfl rfl rfl (Nat.le_of_ble_eq_true rfl) (CellT.agg agg_ser) CellT.tmp ?_
  refine goA ?_
  refine evG ggA (ss_call (InB_of rfl) rfl rfl hc) ?_
  refine goA ?_
  exact rfl
/-- the first j from j on, of n, at which P holds -/
def fst (P : Nat → Bool) : Nat → Nat → Option Nat
  | 0, _ => none
  | n + 1, j => if P j then some j else fst P n (j + 1)
def difP (s : Int) (l : List Rat) (t : Int) (m : List Rat) (i : Nat) : Bool := decide (cf s l (min s t + i) ≠ cf t m (min s t + i))
def difN (s : Int) (n : Nat) (t : Int) (m : Nat) : Nat := (min (s + n) (t + m) - min s t).toNat
/-- where two series differ -/
def difR (s : Int) (l : List Rat) (t : Int) (m : List Rat) : Int × Bool × Int :=
  if ValidP s l.length && ValidP t m.length then (match fst (difP s l t m) (difN s l.length t m.length) 0 with | some j => (min s t + j, true, 0) | none => (min (s + l.length) (t + m.length), false, 0)) else (0, false, 2)
def tup3 (x : Int × Bool × Int) : AV := .tup [.p (.int .i64 x.1), .p (.bool x.2.1), .p (.int .i64 x.2.2)]
set_option maxHeartbeats 2000000 in
theorem differ_p {s t : Int} {es fs : List AV} {l m : List Rat} {K : Nat} (h : Both s es t fs K l m) (hK : 1 ≤ K ∧ K ≤ 268435456) : PC Tryz.prog 22 [serA s es, serA t fs] (tup3 (difR s l t m)) := by
  obtain ⟨h0, hle, hlf, ⟨i1, i2, i3⟩, ⟨i4, i5, i6⟩⟩ := h
  have hva := valid_p i1 i2 i3
  have hvb := valid_p i4 i5 i6
  unfold difR
  rw [← hle, ← hlf]
  cases h1 : ValidP s es.length with
  | false =>
    rw [h1] at hva
    refine pc_body3 true Tryz.func22 rfl rfl rfl (Nat.le_of_ble_eq_true rfl) CellT.tmp CellT.tmp CellT.tmp ?_
    refine goA ?_
    refine evG ggA (ss_call (InB_of rfl) rfl rfl hva) ?_
    refine goA ?_
    exact rfl
  | true =>
  rw [h1] at hva
  cases h2 : ValidP t fs.length with
  | false =>
    rw [h2] at hvb
    refine pc_body3 true Tryz.func22 rfl rfl rfl (Nat.le_of_ble_eq_true rfl) CellT.tmp CellT.tmp CellT.tmp ?_
    refine goA ?_
    refine evG ggA (ss_call (InB_of rfl) rfl rfl hva) ?_
    refine goA ?_
    refine evG ggA (ss_call (InB_of rfl) rfl rfl hvb) ?_
    refine goA ?_
    exact rfl
  | true =>
  rw [h2] at hvb
  obtain ⟨hL, hM⟩ := h0 h1 h2
  obtain ⟨a0, a1, a2⟩ := valid_iff.1 h1
  obtain ⟨b0, b1, b2⟩ := valid_iff.1 h2
  have hpa := prec_p a0 a1 a2
  have hpb := prec_p b0 b1 b2
  simp only [Bool.and_true, if_true]
  unfold difN
  have hPd : difP s l t m = fun (i : Nat) => decide (cf s l (min s t + i) ≠ cf t m (min s t + i)) := rfl
  generalize difP s l t m = D at *
  refine pc_body3 true Tryz.func22 rfl rfl rfl (Nat.le_of_ble_eq_true rfl) CellT.tmp CellT.tmp CellT.tmp ?_
  refine r1A ?_
  refine T.seq ?_
  refine goA ?_
  refine evG ggA (ss_call (InB_of rfl) rfl rfl hva) ?_
  refine goA ?_
  refine evG ggA (ss_call (InB_of rfl) rfl rfl hvb) ?_
  refine runA ?_
  refine ev_nil ?_
  refine seqQ_n ?_
  refine T.condF rfl rfl ?_
  refine T.skip ?_
  refine seqQ_n ?_
  refine T.seq ?_
  refine regA ?_
  refine runA ?_
  refine evG ggA (ss_call (InB_of rfl) rfl rfl hpa) ?_
  refine runA ?_
  refine evG ggA (ss_call (InB_of rfl) rfl rfl hpb) ?_
  refine runA ?_
  refine ev_nil ?_
  refine seqQ_n ?_
  generalize hp : min (s + (es.length : Int)) (t + (fs.length : Int)) = p at *
  generalize hf : min s t = f at *
  obtain ⟨N, hN⟩ : ∃ N, N = (p - f).toNat := ⟨_, rfl⟩
  rw [← hN]
  refine T.seqI (fun s1 => fst D N 0 = none ∧ s1 = mkS [(7, .v (.p (.int .i64 p)))] [] 42 true) ?_ ?_
  · refine T.seq ?_
    refine regA ?_
    refine runA ?_
    refine ev_nil ?_
    refine seqQ_n ?_
    rw [hf]
    refine T.block ?_
    refine T.loop (fun n s1 => ∃ j : Nat, n = N - j ∧ j ≤ N ∧ fst D N 0 = fst D (N - j) j ∧ s1 = mkS [(2, .ptr 2 0), (3, .ptr 3 0), (7, .v (.p (.int .i64 p))), (8, .v (.p (.int .i64 (f + j))))] [(2, .var [.v (.p (.int .i64 s)), .v (.sl es)]), (3, .var [.v (.p (.int .i64 t)), .v (.sl fs)])] 42 true) N
      (s' := mkS [(2, .ptr 2 0), (3, .ptr 3 0), (7, .v (.p (.int .i64 p))), (8, .v (.p (.int .i64 f)))] [(2, .var [.v (.p (.int .i64 s)), .v (.sl es)]), (3, .var [.v (.p (.int .i64 t)), .v (.sl fs)])] 42 true) (by exact entA) ⟨0, rfl, Nat.zero_le _, rfl, by simp⟩ ?_
    rintro n _ ⟨j, rfl, hj, hfst, rfl⟩
    by_cases hlt : j < N
    · have hb : decide (f + (j : Int) < p) = true := by simp; omega
      have c1 := at_p hL a0 a1 a2 (m := f + j) (by omega) (by omega)
      have c2 := at_p hM b0 b1 b2 (m := f + j) (by omega) (by omega)
      have v1 := isV_at (s := s) hL hK.1 (f + j)
      have v2 := isV_at (s := t) hM hK.1 (f + j)
      obtain ⟨l1, e1, e2, e3⟩ := isV_lit v1
      rw [e1] at c1 v1
      obtain ⟨l2, e4, e5, e6⟩ := isV_lit v2
      rw [e4] at c2 v2
      obtain ⟨sg, -, -, hsg, c3⟩ := rcmp_p v1 (by omega) v2 (by omega)
      have hstep : fst D (N - j) j = if D j then some j else fst D (N - (j + 1)) (j + 1) := by
        rw [show N - j = (N - (j + 1)) + 1 by omega]; rfl
      refine goA ?_
      refine evG ggA (ss_call (InB_of rfl) rfl rfl c1) ?_
      refine goA ?_
      refine evG ggA (ss_call (InB_of rfl) rfl rfl c2) ?_
      refine evG ggA (ss_call (InB_of rfl) rfl rfl c3) ?_
      by_cases hd : cf s l (f + j) = cf t m (f + j)
      · have hb2 : (sg != 0) = false := by simp [hsg.2 hd]
        have hD : D j = false := by rw [hPd]; simp [hd]
        rw [hD] at hstep
        refine goA ?_
        exact loopQ_intro (k := N - (j + 1)) (s' := mkS [(2, .ptr 2 0), (3, .ptr 3 0), (7, .v (.p (.int .i64 p))), (8, .v (.p (.int .i64 (f + (j : Int) + 1))))] [(2, .var [.v (.p (.int .i64 s)), .v (.sl es)]), (3, .var [.v (.p (.int .i64 t)), .v (.sl fs)])] 42 true) (by omega) (by exact entA) ⟨j + 1, rfl, hlt, by rw [hfst, hstep]; rfl, by rw [Int.natCast_succ, ← Int.add_assoc]⟩
      · have hb2 : (sg != 0) = true := by
          have : ¬ sg = 0 := fun e => hd (hsg.1 e)
          simp [this]
        have hD : D j = true := by rw [hPd]; simp [hd]
        rw [hD] at hstep
        have hres : fst D N 0 = some j := by rw [hfst, hstep]; rfl
        rw [hres]
        refine goA ?_
        exact rfl
    · have hb : decide (f + (j : Int) < p) = false := by simp; omega
      have hnone : fst D N 0 = none := by rw [hfst, show N - j = 0 by omega]; rfl
      refine goA ?_
      exact midQ_intro (s' := mkS [(7, .v (.p (.int .i64 p)))] [] 42 true) (by exact entA) ⟨hnone, rfl⟩
  rintro _ ⟨hnone, rfl⟩
  rw [hnone]
  refine goA ?_
  exact rfl
def thL (s : Int) (l : List Rat) : List Rat := tk (fun i => ((s + i : Int) : Rat) * l.getD i 0) l.length
def thR (s : Int) (l : List Rat) : Option (Int × List Rat) := if ValidP s l.length then nrm s (thL s l) else none
set_option maxHeartbeats 2000000 in
theorem theta_p {s : Int} {es : List AV} {l : List Rat} {K : Nat} (h : ValidP s es.length = true → IsL es K l) (hle : es.length = l.length) (hr : InR s es.length) (hK : 1 ≤ K ∧ K ≤ 268435456) : PC Tryz.prog 39 [serA s es] (serE (thR s l)) := by
  obtain ⟨i1, i2, i3⟩ := hr
  have hva := valid_p i1 i2 i3
  rw [serE_eq]
  unfold thR
  rw [← hle]
  cases h1 : ValidP s es.length with
  | false =>
    rw [h1] at hva
    refine pc_body2 true Tryz.func39 rfl rfl rfl (Nat.le_of_ble_eq_true rfl) (CellT.agg agg_ser) CellT.tmp ?_
    refine goA ?_
    refine evG ggA (ss_call (InB_of rfl) rfl rfl hva) ?_
    refine goA ?_
    exact rfl
  | true =>
  rw [h1] at hva
  have hL := h h1
  obtain ⟨a0, a1, a2⟩ := valid_iff.1 h1
  simp only [if_true]
  have hF : thL s l = tk (fun i => ((s + i : Int) : Rat) * l.getD i 0) es.length := by unfold thL; rw [hle]
  generalize hFF : (fun (i : Nat) => ((s + i : Int) : Rat) * l.getD i 0) = F at *
  rw [hF]
  have hht : ∀ i, i < es.length → Ht (F i) (K + 1) := fun i hi => by
    rw [← hFF]
    refine (ht_mul (ht_int (c := s + i) (by omega)) (k := 1) (l := K) ?_ (Nat.le_refl _)).mono (by omega)
    rw [List.getD_eq_getElem?_getD, List.getElem?_eq_getElem (by omega)]
    exact isL_ht hL hK.1 _ (List.getElem_mem _)
  refine pc_body2 true Tryz.func39 rfl rfl rfl (Nat.le_of_ble_eq_true rfl) (CellT.agg agg_ser) CellT.tmp ?_
  refine goA ?_
  refine evG ggA (ss_call (InB_of rfl) rfl rfl hva) ?_
  refine goA ?_
  refine evG ggA (ss_make 14 (e0 := rz) (InB_of rfl) (make_tab rfl) rfl rfl rfl (by omega) (by omega) (by omega) (by omega) rfl rfl rfl) ?_
  refine runA ?_
  refine ev_nil ?_
  refine seqQ_n ?_
  refine T.seqI (fun s1 => s1 = mkS [(1, .ptr 1 0), (4, .own 14 es.length), (2, .ptr 2 0)] [(1, .var [.v (.p (.int .i64 s)), .v (.sl es)]), (2, var0), (14, .lst 4 47 ((tk F es.length).map encQ))] 40 true) ?_ ?_
  · refine r1A ?_
    refine T.block ?_
    refine T.loop (fun n s1 => ∃ j : Nat, n = es.length - j ∧ j ≤ es.length ∧ s1 = mkS [(1, .ptr 1 0), (16, .v (.sl es)), (17, .v (.p (.int .i64 es.length))), (18, .v (.p (.int .i64 j))), (4, .own 14 j), (2, .ptr 2 0)] [(1, .var [.v (.p (.int .i64 s)), .v (.sl es)]), (2, var0), (14, .lst 4 47 ((tk F j).map encQ))] 40 true) es.length
      (s' := mkS [(1, .ptr 1 0), (16, .v (.sl es)), (17, .v (.p (.int .i64 es.length))), (18, .v (.p (.int .i64 (0 : Nat)))), (4, .own 14 0), (2, .ptr 2 0)] [(1, .var [.v (.p (.int .i64 s)), .v (.sl es)]), (2, var0), (14, .lst 4 47 ((tk F 0).map encQ))] 40 true) (by exact entA) ⟨0, rfl, Nat.zero_le _, rfl⟩ ?_
    rintro n _ ⟨j, rfl, hj, rfl⟩
    by_cases hlt : j < es.length
    · have hb : decide ((j : Int) < (es.length : Int)) = true := by simp; omega
      obtain ⟨g, ds, g', ds', q, he, hq, hv⟩ := hL.at (i := j) hlt
      have c1 := rof_p (s + j) (by omega) (by omega)
      have c2 := rmul_p (isV_encQ (ht_int (c := s + j) (by omega))) (by omega) hv (by omega)
      have hFj : F j = ((s + j : Int) : Rat) * q := by rw [← hFF]; simp only [List.getD_eq_getElem?_getD, hq]; rfl
      rw [← hFj] at c2
      refine goA ?_
      refine evG ggA (ss_index_sl (InB_of rfl) (elem_tab rfl) rfl rfl (by omega) he rfl) ?_
      refine goA ?_
      refine evG ggA (ss_call (InB_of rfl) rfl rfl c1) ?_
      refine goA ?_
      refine evG ggA (ss_call (InB_of rfl) rfl rfl c2) ?_
      (refine evG ggA (ss_bslice (InB_of rfl) (make_tab rfl) rfl rfl rfl rfl (one_ok rfl rfl) (Nat.le_of_ble_eq_true rfl)) ?_; refine evG ggA (ss_snoc (InB_of rfl) (make_tab rfl) rfl rfl (by first | rfl | assumption | (simp; done) | (simp; omega)) rfl (by omega) (Nat.le_of_ble_eq_true rfl) rfl) ?_)
      refine goA ?_
      exact loopQ_intro (k := es.length - (j + 1)) (s' := mkS [(1, .ptr 1 0), (16, .v (.sl es)), (17, .v (.p (.int .i64 es.length))), (18, .v (.p (.int .i64 ((j : Int) + 1)))), (4, .own 14 (j + 1)), (2, .ptr 2 0)] [(1, .var [.v (.p (.int .i64 s)), .v (.sl es)]), (2, var0), (14, .lst 4 47 ((tk F j ++ [F j]).map encQ))] 40 true) (by omega) (by exact entA) ⟨j + 1, rfl, hlt, by rw [tk_succ]; rfl⟩
    · obtain rfl : j = es.length := by omega
      have hb : decide ((es.length : Int) < (es.length : Int)) = false := by simp
      refine goA ?_
      exact midQ_intro (s' := mkS [(1, .ptr 1 0), (4, .own 14 es.length), (2, .ptr 2 0)] [(1, .var [.v (.p (.int .i64 s)), .v (.sl es)]), (2, var0), (14, .lst 4 47 ((tk F es.length).map encQ))] 40 true) (by exact entA) rfl
  rintro _ rfl
  have hbuild := build_p (s := s) (isL_enc (l := tk F es.length) (k := K + 1) (fun q hq => by obtain ⟨i, hi, rfl⟩ := tk_mem hq; exact hht i hi)) (by omega) (by omega) (by omega) (by rw [tk_len]; omega)
  rw [serE_eq] at hbuild
  refine T.weak (s' := mkS [(1, .ptr 1 0), (4, .v (.sl ((tk F es.length).map encQ))), (2, .ptr 2 0)] [(1, .var [.v (.p (.int .i64 s)), .v (.sl es)]), (2, var0)] 40 true) (by exact entA) ?_
  refine goA ?_
  refine evG ggA (ss_call (InB_of rfl) rfl rfl hbuild) ?_
  refine goA ?_
  exact rfl
end Ab
