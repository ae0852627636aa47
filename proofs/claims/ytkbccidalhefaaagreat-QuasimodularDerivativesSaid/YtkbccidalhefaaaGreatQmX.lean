/- Multiples and derivatives of lists of terms, binomials; walked. Condition: the sort. -/
import Derived.Test.YtkbccidalhefaaaGreatQmW
set_option linter.all false
namespace Ab
open Go Go.RowKit Go.Proofs Hp
set_option maxRecDepth 100000

def qsc (c : Rat) (t : QT) : QT := ⟨t.a, t.b, t.c, c * t.q⟩
set_option maxHeartbeats 8000000 in
theorem qscale_p {N : Nat} (hS : SortOK N) {a : AV} {c : Rat} {U : List QE} {K : Nat} (ha : IsV a K c) (hl : U.length ≤ N) (hN : N ≤ 100000) (hs : ∀ e, e ∈ U → e.sm) (ho : ∀ e, e ∈ U → e.ok K) (hK : 1 ≤ K) (hH : N * (2 * K + 1) + 2 * K ≤ 1000000000) :
    PC Tryz.prog 48 [a, .sl (U.map QE.av)] (encP (qnf ((U.map QE.t).map (qsc c)))) := by
  have ctd : PC Tryz.prog 31 [.sl (PL ((U.map QE.t).map (qsc c)))] (encP (qnf ((U.map QE.t).map (qsc c)))) := tidyL_p hS (K := 2 * K) (by simpa using hl) hN (fun t ht => by
    obtain ⟨x, hx, rfl⟩ := List.mem_map.1 ht
    obtain ⟨e, he, rfl⟩ := List.mem_map.1 hx
    exact hs e he) (fun t ht => by
    obtain ⟨x, hx, rfl⟩ := List.mem_map.1 ht
    obtain ⟨e, he, rfl⟩ := List.mem_map.1 hx
    exact (ht_mul (isV_ht ha hK) (isV_ht (ho e he) hK) hK).mono (by omega)) (by omega) hH
  have hul := av_len U
  have ccl := clone_p U (by omega)
  have hfin : PL ((U.map QE.t).map (qsc c)) = (U.map fun e => qe (qsc c e.t)).map QE.av := by unfold PL; simp [Function.comp_def]
  rw [hfin] at ctd
  generalize qnf ((U.map QE.t).map (qsc c)) = R at *
  clear hfin
  obtain ⟨cg, cd, cg', cd', rfl⟩ := isV_cells ha
  refine pc_body1 true Tryz.func48 rfl rfl rfl (Nat.le_of_ble_eq_true rfl) CellT.tmp ?_
  refine r1A ?_
  refine T.seq ?_
  refine regA ?_
  refine runA ?_
  refine evM (ms_callO 30 rfl rfl rfl ccl rfl ?_)
  rw [hul]
  refine runA ?_
  refine ev_nil ?_
  refine osA ?_
  refine T.seqI (fun s1 => s1 = mkS [(5, .v (.sl ((U.map fun e => qe (qsc c e.t)).map QE.av)))] [] 28 true) ?_ ?_
  · refine r1A ?_
    refine T.block ?_
    refine T.loop (fun M s1 => ∃ A B : List QE, U = A ++ B ∧ M = B.length ∧ s1 = mkS [(2, .ptr 2 0), (5, .own 30 U.length), (10, .v (iV U.length)), (11, .v (iV A.length))] [(2, .var [.v (.p (.bool cg)), .v (.sl cd), .v (.p (.bool cg')), .v (.sl cd')]), (30, .lst 7 50 (((A.map fun e => qe (qsc c e.t)) ++ B).map QE.av))] 28 true) U.length
      (s' := mkS [(2, .ptr 2 0), (5, .own 30 U.length), (10, .v (iV U.length)), (11, .v (iV ((0 : Nat) : Int)))] [(2, .var [.v (.p (.bool cg)), .v (.sl cd), .v (.p (.bool cg')), .v (.sl cd')]), (30, .lst 7 50 (U.map QE.av))] 28 true) (by exact entA) ⟨[], U, rfl, rfl, rfl⟩ ?_
    rintro _ _ ⟨A, B, hAB, rfl, rfl⟩
    have hlA : U.length = A.length + B.length := by rw [hAB]; simp
    rcases B with _ | ⟨e, B⟩
    · have b1 : decide ((A.length : Int) < (U.length : Int)) = false := decide_eq_false (by simp at hlA; omega)
      rw [List.append_nil] at hAB
      subst hAB
      have hfl : ((U.map fun (e : QE) => qe (qsc c e.t)).map QE.av).length = U.length := by simp
      rw [List.append_nil]
      refine goA ?_
      exact midQ_intro (s' := mkS [(5, .v (.sl ((U.map fun e => qe (qsc c e.t)).map QE.av)))] [] 28 true) (by exact entA) rfl
    have b1 : decide ((A.length : Int) < (U.length : Int)) = true := decide_eq_true (by simp at hlA; omega)
    have hPl : (A.map fun e => qe (qsc c e.t)).length = A.length := by simp
    have hQl : (((A.map fun e => qe (qsc c e.t)) ++ e :: B).map QE.av).length = U.length := by simp at hlA ⊢; omega
    have hget : (((A.map fun e => qe (qsc c e.t)) ++ e :: B).map QE.av)[A.length]? = some e.av := av_get hPl
    have hset : (((A.map fun e => qe (qsc c e.t)) ++ e :: B).map QE.av).set A.length (qe (qsc c e.t)).av = (((A ++ [e]).map fun e => qe (qsc c e.t)) ++ B).map QE.av := by
      rw [List.map_append, List.map_cons, List.set_append_right _ _ (by rw [List.length_map, hPl]; exact Nat.le_refl _)]
      rw [List.length_map, hPl, Nat.sub_self]
      simp
    have ho' := ho e (by rw [hAB]; simp)
    have hAB2 : U = (A ++ [e]) ++ B := by rw [hAB]; simp
    have hlB : B.length < (e :: B).length := by simp
    have hnx : ((A.length : Nat) : Int) + 1 = ((A ++ [e]).length : Nat) := by simp
    simp only [List.length_cons] at hlA
    clear hAB
    obtain ⟨ea, eb, ec, g, d, g', d', eq⟩ := e
    unfold QE.ok QE.r at ho'
    simp only [QE.t, qsc] at ho' hset hget hQl
    have cm := rmul_p ha (by omega) ho' (by omega)
    generalize hG : ((A.map fun (e : QE) => qe (qsc c e.t)) ++ ⟨ea, eb, ec, g, d, g', d', eq⟩ :: B).map QE.av = G at *
    have hget : G[A.length]? = some (.agg [iV ea, iV eb, iV ec, .p (.bool g), .sl d, .p (.bool g'), .sl d']) := by rw [← hG]; exact av_get hPl
    have hset : G.set A.length (qe ⟨ea, eb, ec, c * eq⟩).av = (((A ++ [(⟨ea, eb, ec, g, d, g', d', eq⟩ : QE)]).map fun e => qe (qsc c e.t)) ++ B).map QE.av := by rw [← hG]; exact hset
    have hQl : G.length = U.length := by rw [← hG]; simp; omega
    refine goA ?_
    refine evG ggA (ss_index_own (InB_of rfl) (elem_tab rfl) rfl rfl hQl rfl (by omega) (by omega)) ?_
    rw [show ((A.length : Nat) : Int).toNat = A.length by omega]
    refine evG ggA (ss_field_op (InB_of rfl) (field_tab rfl) rfl) ?_
    refine evG ggA (ss_load_oppart (InB_of rfl) (agg_tab rfl) rfl rfl hQl hget rfl rfl) ?_
    refine goA ?_
    refine evG ggA (ss_call (InB_of rfl) rfl rfl cm) ?_
    refine goA ?_
    refine evG ggA (ss_index_own (InB_of rfl) (elem_tab rfl) rfl rfl hQl rfl (by omega) (by omega)) ?_
    rw [show ((A.length : Nat) : Int).toNat = A.length by omega]
    refine evG ggA (ss_field_op (InB_of rfl) (field_tab rfl) rfl) ?_
    refine evG ggA (ss_store_oppart (cs := [iV ea, iV eb, iV ec, .p (.bool (decide ((c * eq).num < 0))), .sl ((dgs (c * eq).num.natAbs).map u32), .p (.bool (decide (((c * eq).den : Int) < 0))), .sl ((dgs ((c * eq).den : Int).natAbs).map u32)]) rfl (size_tab rfl) rfl rfl hQl hget rfl rfl (fun l e => by cases e) rfl rfl (by decide) rfl) ?_
    have hset : G.set A.length (.agg [iV ea, iV eb, iV ec, .p (.bool (decide ((c * eq).num < 0))), .sl ((dgs (c * eq).num.natAbs).map u32), .p (.bool (decide (((c * eq).den : Int) < 0))), .sl ((dgs ((c * eq).den : Int).natAbs).map u32)]) = (((A ++ [(⟨ea, eb, ec, g, d, g', d', eq⟩ : QE)]).map fun e => qe (qsc c e.t)) ++ B).map QE.av := hset
    rw [hset]
    refine goA ?_
    rw [hnx]
    exact loopQ_intro (k := B.length) (s' := mkS [(2, .ptr 2 0), (5, .own 30 U.length), (10, .v (iV U.length)), (11, .v (iV ((A ++ [(⟨ea, eb, ec, g, d, g', d', eq⟩ : QE)]).length : Nat)))] [(2, .var [.v (.p (.bool cg)), .v (.sl cd), .v (.p (.bool cg')), .v (.sl cd')]), (30, .lst 7 50 ((((A ++ [(⟨ea, eb, ec, g, d, g', d', eq⟩ : QE)]).map fun e => qe (qsc c e.t)) ++ B).map QE.av))] 28 true) hlB (by exact entA) ⟨A ++ [⟨ea, eb, ec, g, d, g', d', eq⟩], B, hAB2, rfl, rfl⟩
  rintro _ rfl
  refine goA ?_
  refine evG ggA (ss_call (InB_of rfl) rfl rfl ctd) ?_
  refine goA ?_
  exact rfl
/-- what one call of the closure adds -/
def qad (t : QT) (n d a b c : Int) : List QT := if n = 0 then [] else [⟨t.a + a, t.b + b, t.c + c, t.q * ((n : Rat) / (d : Rat))⟩]
theorem ht_frac {n d : Int} (hn : n.natAbs < 4294967296) (hd : d.natAbs < 4294967296) : Ht ((n : Rat) / (d : Rat)) 2 := by
  rw [Rat.div_def]
  exact ht_mul (k := 1) (l := 1) (ht_int hn) (ht_inv (k := 1) (ht_int hd) (Nat.le_refl _)) (Nat.le_refl _)
abbrev LD (m : Nat) (a b c : Int) (g : Bool) (d : List AV) (g' : Bool) (d' : List AV) (out : List QT) : List (Nat × Blk) := [(0, .var [.own 2 m]), (1, tvQ a b c g d g' d'), (2, .lst 7 50 (PL out))]
theorem derive1_p {ta tb tc : Int} {g g' : Bool} {td td' : List AV} {q : Rat} {n d a b c : Int} {K : Nat} {out : List QT} (hok : IsV (.agg [.p (.bool g), .sl td, .p (.bool g'), .sl td']) K q) (hK : 1 ≤ K ∧ K ≤ 100000000) (ht : QT.tn ⟨ta, tb, tc, q⟩) (hn : n.natAbs < 4294967296) (hd : d.natAbs < 4294967296) (h0 : d ≠ 0)
    (ha : -10 ≤ a ∧ a ≤ 10) (hb : -10 ≤ b ∧ b ≤ 10) (hc : -10 ≤ c ∧ c ≤ 10) (hl : out.length + 1 ≤ 1000000) :
    PCM true Tryz.prog 62 [.v (iV n), .v (iV d), .v (iV a), .v (iV b), .v (iV c), .ptr 0 0, .ptr 1 0] (LD out.length ta tb tc g td g' td' out) true (.v (.tup [])) (LD (out ++ qad ⟨ta, tb, tc, q⟩ n d a b c).length ta tb tc g td g' td' (out ++ qad ⟨ta, tb, tc, q⟩ n d a b c)) := by
  have hpo := PL_len out
  unfold QT.tn at ht
  simp only at ht
  unfold qad
  by_cases h : n = 0
  · have b1 : (n != 0) = false := by simp [h]
    rw [if_pos h, List.append_nil]
    refine pc_bodyM0 Tryz.func62 rfl rfl rfl (Nat.le_of_ble_eq_true rfl) ?_
    refine goA ?_
    exact ⟨.inl rfl, by exact entqA⟩
  · have b1 : (n != 0) = true := by simp [h]
    rw [if_neg h]
    have c1 := qfrac_p hn hd h0
    have c2 := rmul_p hok (by omega) (isV_encQ (ht_frac hn hd)) (by decide)
    have hl2 : (out ++ [(⟨ta + a, tb + b, tc + c, q * ((n : Rat) / (d : Rat))⟩ : QT)]).length = out.length + 1 := by simp
    rw [hl2]
    simp only []
    generalize (n : Rat) / (d : Rat) = r at *
    refine pc_bodyM0 Tryz.func62 rfl rfl rfl (Nat.le_of_ble_eq_true rfl) ?_
    refine goA ?_
    refine evG ggA (ss_call (InB_of rfl) rfl rfl c1) ?_
    refine evG ggA (ss_call (InB_of rfl) rfl rfl c2) ?_
    refine goA ?_
    refine evG ggA (ss_bslice (InB_of rfl) (make_tab rfl) rfl rfl rfl rfl (ones_ok rfl) (Nat.le_of_ble_eq_true rfl)) ?_
    refine evG ggA (ss_snocB (a := (qe ⟨ta + a, tb + b, tc + c, q * r⟩).av) (InB_of rfl) (make_tab rfl) rfl rfl hpo rfl rfl (by decide) rfl hl (Nat.le_of_ble_eq_true rfl) rfl) ?_
    rw [PL_snoc]
    refine goA ?_
    exact ⟨.inl rfl, by exact entqA⟩
/-- the derivative of a term -/
def qd1 (t : QT) : List QT := qad t t.a 12 1 0 0 ++ (qad t (-t.a) 12 (-1) 1 0 ++ (qad t t.b 3 1 0 0 ++ (qad t (-t.b) 3 0 (-1) 1 ++ (qad t t.c 2 1 0 0 ++ qad t (-t.c) 2 0 2 (-1)))))
def qdv (p : List QT) : List QT := p.flatMap qd1
theorem qad_len (t : QT) (n d a b c : Int) : (qad t n d a b c).length ≤ 1 := by unfold qad; split <;> simp
theorem qad_mem {t u : QT} {n d a b c : Int} (h : u ∈ qad t n d a b c) : n ≠ 0 ∧ u = ⟨t.a + a, t.b + b, t.c + c, t.q * ((n : Rat) / (d : Rat))⟩ := by
  unfold qad at h
  split at h
  · cases h
  · rename_i h0
    exact ⟨h0, List.mem_singleton.1 h⟩
theorem qd1_mem {t u : QT} (h : u ∈ qd1 t) : ∃ n d a b c : Int, u ∈ qad t n d a b c ∧ (n = t.a ∨ n = -t.a ∨ n = t.b ∨ n = -t.b ∨ n = t.c ∨ n = -t.c) ∧ (d = 12 ∨ d = 3 ∨ d = 2) ∧ (-10 ≤ a ∧ a ≤ 10) ∧ (-10 ≤ b ∧ b ≤ 10) ∧ -10 ≤ c ∧ c ≤ 10 := by
  unfold qd1 at h
  simp only [List.mem_append] at h
  rcases h with h | h | h | h | h | h
  · exact ⟨_, _, _, _, _, h, .inl rfl, .inl rfl, by omega, by omega, by omega, by omega⟩
  · exact ⟨_, _, _, _, _, h, .inr (.inl rfl), .inl rfl, by omega, by omega, by omega, by omega⟩
  · exact ⟨_, _, _, _, _, h, .inr (.inr (.inl rfl)), .inr (.inl rfl), by omega, by omega, by omega, by omega⟩
  · exact ⟨_, _, _, _, _, h, .inr (.inr (.inr (.inl rfl))), .inr (.inl rfl), by omega, by omega, by omega, by omega⟩
  · exact ⟨_, _, _, _, _, h, .inr (.inr (.inr (.inr (.inl rfl)))), .inr (.inr rfl), by omega, by omega, by omega, by omega⟩
  · exact ⟨_, _, _, _, _, h, .inr (.inr (.inr (.inr (.inr rfl)))), .inr (.inr rfl), by omega, by omega, by omega, by omega⟩
theorem qd1_len (t : QT) : (qd1 t).length ≤ 6 := by
  unfold qd1
  simp only [List.length_append]
  have h1 := qad_len t t.a 12 1 0 0
  have h2 := qad_len t (-t.a) 12 (-1) 1 0
  have h3 := qad_len t t.b 3 1 0 0
  have h4 := qad_len t (-t.b) 3 0 (-1) 1
  have h5 := qad_len t t.c 2 1 0 0
  have h6 := qad_len t (-t.c) 2 0 2 (-1)
  omega
theorem qdv_len (p : List QT) : (qdv p).length ≤ 6 * p.length := by
  unfold qdv
  induction p with
  | nil => simp
  | cons t p ih =>
    rw [List.flatMap_cons, List.length_append, List.length_cons]
    have := qd1_len t
    omega
theorem qdv_mem {p : List QT} {u : QT} {K : Nat} (hK : 1 ≤ K) (hp : ∀ t, t ∈ p → t.tn ∧ Ht t.q K) (h : u ∈ qdv p) : (qe u).sm ∧ Ht u.q (K + 2) := by
  obtain ⟨t, ht, h⟩ := List.mem_flatMap.1 h
  obtain ⟨n, d, a, b, c, h1, h2, h3, h4, h5, h6⟩ := qd1_mem h
  obtain ⟨-, rfl⟩ := qad_mem h1
  obtain ⟨k1, k2⟩ := hp t ht
  unfold QT.tn at k1
  refine ⟨?_, ht_mul k2 (ht_frac (by omega) (by omega)) hK⟩
  show (-1000000 ≤ t.a + a ∧ t.a + a ≤ 1000000) ∧ (-1000000 ≤ t.b + b ∧ t.b + b ≤ 1000000) ∧ -1000000 ≤ t.c + c ∧ t.c + c ≤ 1000000
  omega
theorem zero_qp : ZeroT Tryz.prog 23 [.slice none 0 0] := zeroT_of (v := .slice none 0 0) (by kernel_rfl) rfl
set_option maxHeartbeats 16000000 in
theorem qderive_p {N : Nat} (hS : SortOK N) {U : List QE} {K : Nat} (hl : 6 * U.length ≤ N) (hN : N ≤ 100000) (ht : ∀ e, e ∈ U → e.t.tn) (ho : ∀ e, e ∈ U → e.ok K) (hK : 1 ≤ K ∧ K ≤ 100000000) (hH : N * (K + 2 + 1) + (K + 2) ≤ 1000000000) :
    PC Tryz.prog 33 [.sl (U.map QE.av)] (encP (qnf (qdv (U.map QE.t)))) := by
  have hmem : ∀ u, u ∈ qdv (U.map QE.t) → (qe u).sm ∧ Ht u.q (K + 2) := fun u hu => qdv_mem hK.1 (fun t h => by
    obtain ⟨e, he, rfl⟩ := List.mem_map.1 h
    exact ⟨ht e he, isV_ht (ho e he) hK.1⟩) hu
  have hdl := qdv_len (U.map QE.t)
  rw [List.length_map] at hdl
  have ctd := tidyL_p hS (L := qdv (U.map QE.t)) (K := K + 2) (by omega) hN (fun t h => (hmem t h).1) (fun t h => (hmem t h).2) (by omega) hH
  clear hmem
  have hul := av_len U
  generalize hR : qdv (U.map QE.t) = R at *
  have hRl : R.length ≤ N := by omega
  obtain ⟨X, hX⟩ : ∃ X, X = U.map QE.av := ⟨_, rfl⟩
  rw [← hX] at hul ⊢
  refine pc_body1 true Tryz.func33 rfl rfl rfl (Nat.le_of_ble_eq_true rfl) CellT.tmp ?_
  refine r1A ?_
  refine T.seq ?_
  refine regA ?_
  refine evG ggA (ss_alloc_d (InB_of rfl) zero_qp rfl rfl rfl) ?_
  refine runA ?_
  refine ev_nil ?_
  refine seqQ_n ?_
  refine T.seqI (fun s1 => s1 = mkS [(3, .ptr 3 0)] [(3, .var [.v (.sl (PL R))])] 44 true) ?_ ?_
  · refine r1A ?_
    refine T.block ?_
    refine T.loop (fun M s1 => ∃ (A B : List QE) (out : List QT), U = A ++ B ∧ M = B.length ∧ out ++ qdv (B.map QE.t) = R ∧ s1 = mkS [(3, .ptr 3 0), (7, .v (.sl X)), (8, .v (iV (X.length : Nat))), (9, .v (iV A.length))] [(3, .var [.own 100 out.length]), (100, .lst 7 50 (PL out))] 44 true) U.length
      (s' := mkS [(3, .ptr 3 0), (7, .v (.sl X)), (8, .v (iV (X.length : Nat))), (9, .v (iV ((0 : Nat) : Int)))] [(3, .var [.own 100 0]), (100, .lst 7 50 [])] 44 true) (by exact entA) ⟨[], U, [], rfl, rfl, hR, rfl⟩ ?_
    rintro _ _ ⟨A, B, out, hAB, rfl, hout, rfl⟩
    have hlA : U.length = A.length + B.length := by rw [hAB]; simp
    rcases B with _ | ⟨e, B⟩
    · have b1 : decide ((A.length : Int) < (X.length : Nat)) = false := decide_eq_false (by simp at hlA; omega)
      have hout : out = R := by rw [← hout]; simp [qdv]
      subst hout
      have hpo := PL_len out
      refine goA ?_
      exact midQ_intro (s' := mkS [(3, .ptr 3 0)] [(3, .var [.v (.sl (PL out))])] 44 true) (by exact entA) rfl
    have b1 : decide ((A.length : Int) < (X.length : Nat)) = true := decide_eq_true (by simp at hlA; omega)
    have hget : X[((A.length : Nat) : Int).toNat]? = some e.av := by rw [hX, hAB]; exact av_get (by omega)
    have hoe := ho e (by rw [hAB]; simp)
    have hte := ht e (by rw [hAB]; simp)
    have hAB2 : U = (A ++ [e]) ++ B := by rw [hAB]; simp
    have hlB : B.length < (e :: B).length := by simp
    have hnx : ((A.length : Nat) : Int) + 1 = ((A ++ [e]).length : Nat) := by simp
    have hout2 : out ++ qd1 e.t ++ qdv (B.map QE.t) = R := by rw [← hout]; unfold qdv; simp
    have hoN : out.length + (qd1 e.t).length ≤ N := by have := congrArg List.length hout2; simp only [List.length_append] at this; omega
    simp only [List.length_cons] at hlA
    clear hAB hout
    obtain ⟨ea, eb, ec, g, d, g', d', eq⟩ := e
    unfold QE.ok QE.r at hoe
    simp only [QE.t] at hoe hte hout2 hoN
    have hget : X[((A.length : Nat) : Int).toNat]? = some (.agg [iV ea, iV eb, iV ec, .p (.bool g), .sl d, .p (.bool g'), .sl d']) := hget
    have htn := hte
    unfold QT.tn at htn
    simp only at htn
    obtain ⟨o1, ho1⟩ : ∃ o, o = out ++ qad ⟨ea, eb, ec, eq⟩ ea 12 1 0 0 := ⟨_, rfl⟩
    have hl1 : o1.length ≤ out.length + 1 := by rw [ho1, List.length_append]; have := qad_len ⟨ea, eb, ec, eq⟩ ea 12 1 0 0; omega
    obtain ⟨o2, ho2⟩ : ∃ o, o = o1 ++ qad ⟨ea, eb, ec, eq⟩ (0 - ea) 12 (-1) 1 0 := ⟨_, rfl⟩
    have hl2 : o2.length ≤ o1.length + 1 := by rw [ho2, List.length_append]; have := qad_len ⟨ea, eb, ec, eq⟩ (0 - ea) 12 (-1) 1 0; omega
    obtain ⟨o3, ho3⟩ : ∃ o, o = o2 ++ qad ⟨ea, eb, ec, eq⟩ eb 3 1 0 0 := ⟨_, rfl⟩
    have hl3 : o3.length ≤ o2.length + 1 := by rw [ho3, List.length_append]; have := qad_len ⟨ea, eb, ec, eq⟩ eb 3 1 0 0; omega
    obtain ⟨o4, ho4⟩ : ∃ o, o = o3 ++ qad ⟨ea, eb, ec, eq⟩ (0 - eb) 3 0 (-1) 1 := ⟨_, rfl⟩
    have hl4 : o4.length ≤ o3.length + 1 := by rw [ho4, List.length_append]; have := qad_len ⟨ea, eb, ec, eq⟩ (0 - eb) 3 0 (-1) 1; omega
    obtain ⟨o5, ho5⟩ : ∃ o, o = o4 ++ qad ⟨ea, eb, ec, eq⟩ ec 2 1 0 0 := ⟨_, rfl⟩
    have hl5 : o5.length ≤ o4.length + 1 := by rw [ho5, List.length_append]; have := qad_len ⟨ea, eb, ec, eq⟩ ec 2 1 0 0; omega
    obtain ⟨o6, ho6⟩ : ∃ o, o = o5 ++ qad ⟨ea, eb, ec, eq⟩ (0 - ec) 2 0 2 (-1) := ⟨_, rfl⟩
    have hl6 : o6.length ≤ o5.length + 1 := by rw [ho6, List.length_append]; have := qad_len ⟨ea, eb, ec, eq⟩ (0 - ec) 2 0 2 (-1); omega
    have hfin : o6 = out ++ qd1 ⟨ea, eb, ec, eq⟩ := by rw [ho6, ho5, ho4, ho3, ho2, ho1]; unfold qd1; simp only [List.append_assoc, Int.zero_sub]
    have hon : out.length ≤ 100000 := by omega
    have c1 := derive1_p (out := out) (n := ea) (d := 12) (a := 1) (b := 0) (c := 0) hoe hK hte (by omega) (by decide) (by decide) (by decide) (by decide) (by decide) (by omega)
    rw [← ho1] at c1
    have c2 := derive1_p (out := o1) (n := 0 - ea) (d := 12) (a := (-1)) (b := 1) (c := 0) hoe hK hte (by rw [Int.zero_sub, Int.natAbs_neg]; omega) (by decide) (by decide) (by decide) (by decide) (by decide) (by omega)
    rw [← ho2] at c2
    have c3 := derive1_p (out := o2) (n := eb) (d := 3) (a := 1) (b := 0) (c := 0) hoe hK hte (by omega) (by decide) (by decide) (by decide) (by decide) (by decide) (by omega)
    rw [← ho3] at c3
    have c4 := derive1_p (out := o3) (n := 0 - eb) (d := 3) (a := 0) (b := (-1)) (c := 1) hoe hK hte (by rw [Int.zero_sub, Int.natAbs_neg]; omega) (by decide) (by decide) (by decide) (by decide) (by decide) (by omega)
    rw [← ho4] at c4
    have c5 := derive1_p (out := o4) (n := ec) (d := 2) (a := 1) (b := 0) (c := 0) hoe hK hte (by omega) (by decide) (by decide) (by decide) (by decide) (by decide) (by omega)
    rw [← ho5] at c5
    have c6 := derive1_p (out := o5) (n := 0 - ec) (d := 2) (a := 0) (b := 2) (c := (-1)) hoe hK hte (by rw [Int.zero_sub, Int.natAbs_neg]; omega) (by decide) (by decide) (by decide) (by decide) (by decide) (by omega)
    rw [← ho6] at c6
    rw [← hfin] at hout2
    clear ho1 ho2 ho3 ho4 ho5 ho6 hfin
    refine r1A ?_
    refine T.seq ?_
    refine T.condT rfl b1 ?_
    refine T.skip ?_
    refine seqQ_n ?_
    refine T.seq ?_
    refine T.block ?_
    refine T.seq ?_
    refine regA ?_
    refine evG ggA (ss_index_sl (InB_of rfl) (elem_tab rfl) rfl rfl (by omega) hget rfl) ?_
    refine runA ?_
    refine ev_nil ?_
    refine seqQ_n ?_
    refine T.seqI (fun s1 => s1 = mkP [(3, .ptr 3 0), (5, .ptr 5 0), (6, .fn 62 [(3, 0), (5, 0)]), (7, .v (.sl X)), (8, .v (iV (X.length : Nat))), (9, .v (iV A.length))] [(3, .var [.own 100 out.length]), (5, tvQ ea eb ec g d g' d'), (100, .lst 7 50 (PL out))] 44 true []) ?_ ?_
    · refine regA ?_
      refine evG ggA (ss_makefn (cs := [(3, 0), (5, 0)]) (InB_of rfl) rfl) ?_
      refine runA ?_
      refine ev_nil ?_
      exact midQ_intro (s' := mkP [(3, .ptr 3 0), (5, .ptr 5 0), (6, .fn 62 [(3, 0), (5, 0)]), (7, .v (.sl X)), (8, .v (iV (X.length : Nat))), (9, .v (iV A.length))] [(3, .var [.own 100 out.length]), (5, tvQ ea eb ec g d g' d'), (100, .lst 7 50 (PL out))] 44 true []) (by exact entqA) rfl
    rintro _ rfl
    refine T.seqI (fun s1 => s1 = mkP [(3, .ptr 3 0), (5, .ptr 5 0), (6, .fn 62 [(3, 0), (5, 0)]), (7, .v (.sl X)), (8, .v (iV (X.length : Nat))), (9, .v (iV A.length))] [(3, .var [.own 100 o1.length]), (5, tvQ ea eb ec g d g' d'), (100, .lst 7 50 (PL o1))] 44 true []) ?_ ?_
    · refine regA ?_
      refine runA ?_
      refine evM (ms_callF [(0, 3), (1, 5), (2, 100)] c1 rfl rfl rfl rfl rfl rfl rfl ⟨rfl, rfl, rfl, trivial⟩ ⟨.inl rfl, .inl rfl, .inl rfl, trivial⟩ ?_)
      refine runA ?_
      refine ev_nil ?_
      exact midQ_intro (s' := mkP [(3, .ptr 3 0), (5, .ptr 5 0), (6, .fn 62 [(3, 0), (5, 0)]), (7, .v (.sl X)), (8, .v (iV (X.length : Nat))), (9, .v (iV A.length))] [(3, .var [.own 100 o1.length]), (5, tvQ ea eb ec g d g' d'), (100, .lst 7 50 (PL o1))] 44 true []) (by exact entqA) rfl
    rintro _ rfl
    refine T.seqI (fun s1 => s1 = mkP [(3, .ptr 3 0), (5, .ptr 5 0), (6, .fn 62 [(3, 0), (5, 0)]), (7, .v (.sl X)), (8, .v (iV (X.length : Nat))), (9, .v (iV A.length))] [(3, .var [.own 100 o2.length]), (5, tvQ ea eb ec g d g' d'), (100, .lst 7 50 (PL o2))] 44 true []) ?_ ?_
    · refine regA ?_
      refine runA ?_
      refine evM (ms_callF [(0, 3), (1, 5), (2, 100)] c2 rfl rfl rfl rfl rfl rfl rfl ⟨rfl, rfl, rfl, trivial⟩ ⟨.inl rfl, .inl rfl, .inl rfl, trivial⟩ ?_)
      refine runA ?_
      refine ev_nil ?_
      exact midQ_intro (s' := mkP [(3, .ptr 3 0), (5, .ptr 5 0), (6, .fn 62 [(3, 0), (5, 0)]), (7, .v (.sl X)), (8, .v (iV (X.length : Nat))), (9, .v (iV A.length))] [(3, .var [.own 100 o2.length]), (5, tvQ ea eb ec g d g' d'), (100, .lst 7 50 (PL o2))] 44 true []) (by exact entqA) rfl
    rintro _ rfl
    refine T.seqI (fun s1 => s1 = mkP [(3, .ptr 3 0), (5, .ptr 5 0), (6, .fn 62 [(3, 0), (5, 0)]), (7, .v (.sl X)), (8, .v (iV (X.length : Nat))), (9, .v (iV A.length))] [(3, .var [.own 100 o3.length]), (5, tvQ ea eb ec g d g' d'), (100, .lst 7 50 (PL o3))] 44 true []) ?_ ?_
    · refine regA ?_
      refine runA ?_
      refine evM (ms_callF [(0, 3), (1, 5), (2, 100)] c3 rfl rfl rfl rfl rfl rfl rfl ⟨rfl, rfl, rfl, trivial⟩ ⟨.inl rfl, .inl rfl, .inl rfl, trivial⟩ ?_)
      refine runA ?_
      refine ev_nil ?_
      exact midQ_intro (s' := mkP [(3, .ptr 3 0), (5, .ptr 5 0), (6, .fn 62 [(3, 0), (5, 0)]), (7, .v (.sl X)), (8, .v (iV (X.length : Nat))), (9, .v (iV A.length))] [(3, .var [.own 100 o3.length]), (5, tvQ ea eb ec g d g' d'), (100, .lst 7 50 (PL o3))] 44 true []) (by exact entqA) rfl
    rintro _ rfl
    refine T.seqI (fun s1 => s1 = mkP [(3, .ptr 3 0), (5, .ptr 5 0), (6, .fn 62 [(3, 0), (5, 0)]), (7, .v (.sl X)), (8, .v (iV (X.length : Nat))), (9, .v (iV A.length))] [(3, .var [.own 100 o4.length]), (5, tvQ ea eb ec g d g' d'), (100, .lst 7 50 (PL o4))] 44 true []) ?_ ?_
    · refine regA ?_
      refine runA ?_
      refine evM (ms_callF [(0, 3), (1, 5), (2, 100)] c4 rfl rfl rfl rfl rfl rfl rfl ⟨rfl, rfl, rfl, trivial⟩ ⟨.inl rfl, .inl rfl, .inl rfl, trivial⟩ ?_)
      refine runA ?_
      refine ev_nil ?_
      exact midQ_intro (s' := mkP [(3, .ptr 3 0), (5, .ptr 5 0), (6, .fn 62 [(3, 0), (5, 0)]), (7, .v (.sl X)), (8, .v (iV (X.length : Nat))), (9, .v (iV A.length))] [(3, .var [.own 100 o4.length]), (5, tvQ ea eb ec g d g' d'), (100, .lst 7 50 (PL o4))] 44 true []) (by exact entqA) rfl
    rintro _ rfl
    refine T.seqI (fun s1 => s1 = mkP [(3, .ptr 3 0), (5, .ptr 5 0), (6, .fn 62 [(3, 0), (5, 0)]), (7, .v (.sl X)), (8, .v (iV (X.length : Nat))), (9, .v (iV A.length))] [(3, .var [.own 100 o5.length]), (5, tvQ ea eb ec g d g' d'), (100, .lst 7 50 (PL o5))] 44 true []) ?_ ?_
    · refine regA ?_
      refine runA ?_
      refine evM (ms_callF [(0, 3), (1, 5), (2, 100)] c5 rfl rfl rfl rfl rfl rfl rfl ⟨rfl, rfl, rfl, trivial⟩ ⟨.inl rfl, .inl rfl, .inl rfl, trivial⟩ ?_)
      refine runA ?_
      refine ev_nil ?_
      exact midQ_intro (s' := mkP [(3, .ptr 3 0), (5, .ptr 5 0), (6, .fn 62 [(3, 0), (5, 0)]), (7, .v (.sl X)), (8, .v (iV (X.length : Nat))), (9, .v (iV A.length))] [(3, .var [.own 100 o5.length]), (5, tvQ ea eb ec g d g' d'), (100, .lst 7 50 (PL o5))] 44 true []) (by exact entqA) rfl
    rintro _ rfl
    refine goA ?_
    refine evM (ms_callF [(0, 3), (1, 5), (2, 100)] c6 rfl rfl rfl rfl rfl rfl rfl ⟨rfl, rfl, rfl, trivial⟩ ⟨.inl rfl, .inl rfl, .inl rfl, trivial⟩ ?_)
    refine goA ?_
    rw [hnx]
    exact loopQ_intro (k := B.length) (s' := mkS [(3, .ptr 3 0), (7, .v (.sl X)), (8, .v (iV (X.length : Nat))), (9, .v (iV ((A ++ [(⟨ea, eb, ec, g, d, g', d', eq⟩ : QE)]).length : Nat)))] [(3, .var [.own 100 o6.length]), (100, .lst 7 50 (PL o6))] 44 true) hlB (by exact entA) ⟨A ++ [⟨ea, eb, ec, g, d, g', d', eq⟩], B, o6, hAB2, rfl, hout2, rfl⟩
  rintro _ rfl
  refine goA ?_
  refine evG ggA (ss_call (InB_of rfl) rfl rfl ctd) ?_
  refine goA ?_
  exact rfl
end Ab
