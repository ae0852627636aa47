/- Multiples and derivatives of lists of terms, binomials; walked. Condition: the sort. Binomials, Serre's derivative and brackets by the contracts of what they call; the example of the chapter on quasimodular forms: walked. The example of the chapter on quasimodular forms: walked. -/
import Derived.Test.YtmohfcpjgcgogaaGreatDoorQC
import Derived.Test.YtmohfcpjgcgogaaGreatDoorLd
set_option linter.all false
namespace Ab
open Go Go.RowKit Go.Proofs Hp
set_option maxRecDepth 100000
def qsc (c : Rat) (t : QT) : QT := ⟨t.a, t.b, t.c, c * t.q⟩
set_option maxHeartbeats 8000000 in
theorem qscale_p {N : Nat} (hS : SortOK N) {a : AV} {c : Rat} {U : List QE} {K : Nat} (ha : IsV a K c) (hl : U.length ≤ N) (hN : N ≤ 100000) (hs : ∀ e, e ∈ U → e.sm) (ho : ∀ e, e ∈ U → e.ok K) (hK : 1 ≤ K) (hH : N * (2 * K + 1) + 2 * K ≤ 1000000000) :
  PC Tryz.prog 50 [a, .sl (U.map QE.av)] (encP (qnf ((U.map QE.t).map (qsc c)))) := by
 have ctd : PC Tryz.prog 29 [.sl (PL ((U.map QE.t).map (qsc c)))] (encP (qnf ((U.map QE.t).map (qsc c)))) := Zge hS (K := 2 * K) (by simpa using hl) hN (fun t ht => by
  obtain ⟨x, hx, rfl⟩ := List.mem_map.1 ht
  obtain ⟨e, he, rfl⟩ := List.mem_map.1 hx
  exact hs e he) (fun t ht => by
  obtain ⟨x, hx, rfl⟩ := List.mem_map.1 ht
  obtain ⟨e, he, rfl⟩ := List.mem_map.1 hx
  exact (Zc1 (Zem ha hK) (Zem (ho e he) hK) hK).mono (by omega)) (by omega) hH
 have hul := Zdr U
 have ccl := clone_p U (by omega)
 have hfin : PL ((U.map QE.t).map (qsc c)) = (U.map fun e => qe (qsc c e.t)).map QE.av := by unfold PL; simp [Function.comp_def]
 rw [hfin] at ctd
 generalize qnf ((U.map QE.t).map (qsc c)) = R at *
 clear hfin
 obtain ⟨cg, cd, cg', cd', rfl⟩ := Zbi ha
 refine Zam true Tryz.func50 rfl rfl rfl (Nat.le_of_ble_eq_true rfl) Zao.tmp ?_
 refine r1A ?_
 refine T.seq ?_
 refine regA ?_
 refine runA ?_
 refine evM (ms_callO 30 rfl rfl rfl ccl rfl ?_)
 rw [hul]
 refine runA ?_
 refine Za1 ?_
 refine osA ?_
 refine T.seqI (fun s1 => s1 = mkS [(5, .v (.sl ((U.map fun e => qe (qsc c e.t)).map QE.av)))] [] 28 true) ?_ ?_
 ·refine r1A ?_
  refine T.block ?_
  refine T.loop (fun M s1 => ∃ A B : List QE, U = A ++ B ∧ M = B.length ∧ s1 = mkS [(2, .ptr 2 0), (5, .own 30 U.length), (10, .v (iV U.length)), (11, .v (iV A.length))] [(2, .var [.v (.p (.bool cg)), .v (.sl cd), .v (.p (.bool cg')), .v (.sl cd')]), (30, .lst 7 54 (((A.map fun e => qe (qsc c e.t)) ++ B).map QE.av))] 28 true) U.length
   (s' := mkS [(2, .ptr 2 0), (5, .own 30 U.length), (10, .v (iV U.length)), (11, .v (iV ((0 : Nat) : Int)))] [(2, .var [.v (.p (.bool cg)), .v (.sl cd), .v (.p (.bool cg')), .v (.sl cd')]), (30, .lst 7 54 (U.map QE.av))] 28 true) (by exact entA) ⟨[], U, rfl, rfl, rfl⟩ ?_
  rintro _ _ ⟨A, B, hAB, rfl, rfl⟩
  have hlA : U.length = A.length + B.length := by rw [hAB]; simp
  rcases B with _ | ⟨e, B⟩
  ·have b1 : decide ((A.length : Int) < (U.length : Int)) = false := decide_eq_false (by simp at hlA; omega)
   rw [List.append_nil] at hAB
   subst hAB
   have hfl : ((U.map fun (e : QE) => qe (qsc c e.t)).map QE.av).length = U.length := by simp
   rw [List.append_nil]
   refine goA ?_
   exact Zag (s' := mkS [(5, .v (.sl ((U.map fun e => qe (qsc c e.t)).map QE.av)))] [] 28 true) (by exact entA) rfl
  have b1 : decide ((A.length : Int) < (U.length : Int)) = true := decide_eq_true (by simp at hlA; omega)
  have hPl : (A.map fun e => qe (qsc c e.t)).length = A.length := by simp
  have hQl : (((A.map fun e => qe (qsc c e.t)) ++ e :: B).map QE.av).length = U.length := by simp at hlA ⊢; omega
  have hget : (((A.map fun e => qe (qsc c e.t)) ++ e :: B).map QE.av)[A.length]? = some e.av := Zc3 hPl
  have hset : (((A.map fun e => qe (qsc c e.t)) ++ e :: B).map QE.av).set A.length (qe (qsc c e.t)).av = (((A ++ [e]).map fun e => qe (qsc c e.t)) ++ B).map QE.av := by
   rw [List.map_append, List.map_cons, List.set_append_right _ _ (by rw [List.length_map, hPl]; exact Nat.le_refl _)]
   rw [List.length_map, hPl, Nat.sub_self]
   simp
  have ho' := ho e (by rw [hAB]; simp)
  have hAB2 : U = (A ++ [e]) ++ B := by rw [hAB]; simp
  have hlB : B.length < (e :: B).length := by simp
  have hnx : ((A.length : Nat) : Int) + 1 = ((A ++ [e]).length : Nat) := by simp
  simp only [List.length_cons] at hlA
  clear hAB
  obtain ⟨ea, eb, ec, g, d, g', d', eq⟩ := e
  unfold QE.ok QE.r at ho'
  simp only [QE.t, qsc] at ho' hset hget hQl
  have cm := Zeg ha (by omega) ho' (by omega)
  generalize hG : ((A.map fun (e : QE) => qe (qsc c e.t)) ++ ⟨ea, eb, ec, g, d, g', d', eq⟩ :: B).map QE.av = G at *
  have hget : G[A.length]? = some (.agg [iV ea, iV eb, iV ec, .p (.bool g), .sl d, .p (.bool g'), .sl d']) := by rw [← hG]; exact Zc3 hPl
  have hset : G.set A.length (qe ⟨ea, eb, ec, c * eq⟩).av = (((A ++ [(⟨ea, eb, ec, g, d, g', d', eq⟩ : QE)]).map fun e => qe (qsc c e.t)) ++ B).map QE.av := by rw [← hG]; exact hset
  have hQl : G.length = U.length := by rw [← hG]; simp; omega
  refine goA ?_
  refine evG ggA (Zaf (Zaa rfl) (Zac rfl) rfl rfl hQl rfl (by omega) (by omega)) ?_
  rw [show ((A.length : Nat) : Int).toNat = A.length by omega]
  refine evG ggA (Zgf (Zaa rfl) (Zch rfl) rfl) ?_
  refine evG ggA (ss_load_oppart (Zaa rfl) (Zau rfl) rfl rfl hQl hget rfl rfl) ?_
  refine goA ?_
  refine evG ggA (Zab (Zaa rfl) rfl rfl cm) ?_
  refine goA ?_
  refine evG ggA (Zaf (Zaa rfl) (Zac rfl) rfl rfl hQl rfl (by omega) (by omega)) ?_
  rw [show ((A.length : Nat) : Int).toNat = A.length by omega]
  refine evG ggA (Zgf (Zaa rfl) (Zch rfl) rfl) ?_
  refine evG ggA (Ze8 (cs := [iV ea, iV eb, iV ec, .p (.bool (decide ((c * eq).num < 0))), .sl ((dgs (c * eq).num.natAbs).map u32), .p (.bool (decide (((c * eq).den : Int) < 0))), .sl ((dgs ((c * eq).den : Int).natAbs).map u32)]) rfl (Zbj rfl) rfl rfl hQl hget rfl rfl (fun l e => by cases e) rfl rfl (by decide) rfl) ?_
  have hset : G.set A.length (.agg [iV ea, iV eb, iV ec, .p (.bool (decide ((c * eq).num < 0))), .sl ((dgs (c * eq).num.natAbs).map u32), .p (.bool (decide (((c * eq).den : Int) < 0))), .sl ((dgs ((c * eq).den : Int).natAbs).map u32)]) = (((A ++ [(⟨ea, eb, ec, g, d, g', d', eq⟩ : QE)]).map fun e => qe (qsc c e.t)) ++ B).map QE.av := hset
  rw [hset]
  refine goA ?_
  rw [hnx]
  exact Zae (k := B.length) (s' := mkS [(2, .ptr 2 0), (5, .own 30 U.length), (10, .v (iV U.length)), (11, .v (iV ((A ++ [(⟨ea, eb, ec, g, d, g', d', eq⟩ : QE)]).length : Nat)))] [(2, .var [.v (.p (.bool cg)), .v (.sl cd), .v (.p (.bool cg')), .v (.sl cd')]), (30, .lst 7 54 ((((A ++ [(⟨ea, eb, ec, g, d, g', d', eq⟩ : QE)]).map fun e => qe (qsc c e.t)) ++ B).map QE.av))] 28 true) hlB (by exact entA) ⟨A ++ [⟨ea, eb, ec, g, d, g', d', eq⟩], B, hAB2, rfl, rfl⟩
 rintro _ rfl
 refine goA ?_
 refine evG ggA (Zab (Zaa rfl) rfl rfl ctd) ?_
 refine goA ?_
 exact rfl
def qad (t : QT) (n d a b c : Int) : List QT := if n = 0 then [] else [⟨t.a + a, t.b + b, t.c + c, t.q * ((n : Rat) / (d : Rat))⟩]
theorem ht_frac {n d : Int} (hn : n.natAbs < 4294967296) (hd : d.natAbs < 4294967296) : Ht ((n : Rat) / (d : Rat)) 2 := by
 rw [Rat.div_def]
 exact Zc1 (k := 1) (l := 1) (Zd0 hn) (ht_inv (k := 1) (Zd0 hd) (Nat.le_refl _)) (Nat.le_refl _)
abbrev LD (m : Nat) (a b c : Int) (g : Bool) (d : List AV) (g' : Bool) (d' : List AV) (out : List QT) : List (Nat × Blk) := [(0, .var [.own 2 m]), (1, tvQ a b c g d g' d'), (2, .lst 7 54 (PL out))]
theorem Zeo {ta tb tc : Int} {g g' : Bool} {td td' : List AV} {q : Rat} {n d a b c : Int} {K : Nat} {out : List QT} (hok : IsV (.agg [.p (.bool g), .sl td, .p (.bool g'), .sl td']) K q) (hK : 1 ≤ K ∧ K ≤ 100000000) (ht : QT.tn ⟨ta, tb, tc, q⟩) (hn : n.natAbs < 4294967296) (hd : d.natAbs < 4294967296) (h0 : d ≠ 0)
  (ha : -10 ≤ a ∧ a ≤ 10) (hb : -10 ≤ b ∧ b ≤ 10) (hc : -10 ≤ c ∧ c ≤ 10) (hl : out.length + 1 ≤ 1000000) :
  PCM true Tryz.prog 88 [.v (iV n), .v (iV d), .v (iV a), .v (iV b), .v (iV c), .ptr 0 0, .ptr 1 0] (LD out.length ta tb tc g td g' td' out) true (.v (.tup [])) (LD (out ++ qad ⟨ta, tb, tc, q⟩ n d a b c).length ta tb tc g td g' td' (out ++ qad ⟨ta, tb, tc, q⟩ n d a b c)) := by
 have hpo := Zft out
 unfold QT.tn at ht
 simp only at ht
 unfold qad
 by_cases h : n = 0
 ·have b1 : (n != 0) = false := by simp [h]
  rw [if_pos h, List.append_nil]
  refine Zbp Tryz.func88 rfl rfl rfl (Nat.le_of_ble_eq_true rfl) ?_
  refine goA ?_
  exact ⟨.inl rfl, by exact Za5⟩
 ·have b1 : (n != 0) = true := by simp [h]
  rw [if_neg h]
  have c1 := qfrac_p hn hd h0
  have c2 := Zeg hok (by omega) (Zap (ht_frac hn hd)) (by decide)
  have hl2 : (out ++ [(⟨ta + a, tb + b, tc + c, q * ((n : Rat) / (d : Rat))⟩ : QT)]).length = out.length + 1 := by simp
  rw [hl2]
  simp only []
  generalize (n : Rat) / (d : Rat) = r at *
  refine Zbp Tryz.func88 rfl rfl rfl (Nat.le_of_ble_eq_true rfl) ?_
  refine goA ?_
  refine evG ggA (Zab (Zaa rfl) rfl rfl c1) ?_
  refine evG ggA (Zab (Zaa rfl) rfl rfl c2) ?_
  refine goA ?_
  refine evG ggA (Za3 (Zaa rfl) (Zak rfl) rfl rfl rfl rfl (Zca rfl) (Nat.le_of_ble_eq_true rfl)) ?_
  refine evG ggA (Zgr (a := (qe ⟨ta + a, tb + b, tc + c, q * r⟩).av) (Zaa rfl) (Zak rfl) rfl rfl hpo rfl rfl (by decide) rfl hl (Nat.le_of_ble_eq_true rfl) rfl) ?_
  rw [PL_snoc]
  refine goA ?_
  exact ⟨.inl rfl, by exact Za5⟩
def qd1 (t : QT) : List QT := qad t t.a 12 1 0 0 ++ (qad t (-t.a) 12 (-1) 1 0 ++ (qad t t.b 3 1 0 0 ++ (qad t (-t.b) 3 0 (-1) 1 ++ (qad t t.c 2 1 0 0 ++ qad t (-t.c) 2 0 2 (-1)))))
def qdv (p : List QT) : List QT := p.flatMap qd1
theorem Zdd (t : QT) (n d a b c : Int) : (qad t n d a b c).length ≤ 1 := by unfold qad; split <;> simp
theorem qad_mem {t u : QT} {n d a b c : Int} (h : u ∈ qad t n d a b c) : n ≠ 0 ∧ u = ⟨t.a + a, t.b + b, t.c + c, t.q * ((n : Rat) / (d : Rat))⟩ := by
 unfold qad at h
 split at h
 ·cases h
 ·rename_i h0
  exact ⟨h0, List.mem_singleton.1 h⟩
theorem qd1_mem {t u : QT} (h : u ∈ qd1 t) : ∃ n d a b c : Int, u ∈ qad t n d a b c ∧ (n = t.a ∨ n = -t.a ∨ n = t.b ∨ n = -t.b ∨ n = t.c ∨ n = -t.c) ∧ (d = 12 ∨ d = 3 ∨ d = 2) ∧ (-10 ≤ a ∧ a ≤ 10) ∧ (-10 ≤ b ∧ b ≤ 10) ∧ -10 ≤ c ∧ c ≤ 10 := by
 unfold qd1 at h
 simp only [List.mem_append] at h
 rcases h with h | h | h | h | h | h
 ·exact ⟨_, _, _, _, _, h, .inl rfl, .inl rfl, by omega, by omega, by omega, by omega⟩
 ·exact ⟨_, _, _, _, _, h, .inr (.inl rfl), .inl rfl, by omega, by omega, by omega, by omega⟩
 ·exact ⟨_, _, _, _, _, h, .inr (.inr (.inl rfl)), .inr (.inl rfl), by omega, by omega, by omega, by omega⟩
 ·exact ⟨_, _, _, _, _, h, .inr (.inr (.inr (.inl rfl))), .inr (.inl rfl), by omega, by omega, by omega, by omega⟩
 ·exact ⟨_, _, _, _, _, h, .inr (.inr (.inr (.inr (.inl rfl)))), .inr (.inr rfl), by omega, by omega, by omega, by omega⟩
 ·exact ⟨_, _, _, _, _, h, .inr (.inr (.inr (.inr (.inr rfl)))), .inr (.inr rfl), by omega, by omega, by omega, by omega⟩
theorem qd1_len (t : QT) : (qd1 t).length ≤ 6 := by
 unfold qd1
 simp only [List.length_append]
 have h1 := Zdd t t.a 12 1 0 0
 have h2 := Zdd t (-t.a) 12 (-1) 1 0
 have h3 := Zdd t t.b 3 1 0 0
 have h4 := Zdd t (-t.b) 3 0 (-1) 1
 have h5 := Zdd t t.c 2 1 0 0
 have h6 := Zdd t (-t.c) 2 0 2 (-1)
 omega
theorem qdv_len (p : List QT) : (qdv p).length ≤ 6 * p.length := by
  unfold qdv
  induction p with
  | nil => simp
  | cons t p ih =>
    rw [List.flatMap_cons, List.length_append, List.length_cons]
    have := qd1_len t
    omega
theorem qdv_mem {p : List QT} {u : QT} {K : Nat} (hK : 1 ≤ K) (hp : ∀ t, t ∈ p → t.tn ∧ Ht t.q K) (h : u ∈ qdv p) : (qe u).sm ∧ Ht u.q (K + 2) := by
 obtain ⟨t, ht, h⟩ := List.mem_flatMap.1 h
 obtain ⟨n, d, a, b, c, h1, h2, h3, h4, h5, h6⟩ := qd1_mem h
 obtain ⟨-, rfl⟩ := qad_mem h1
 obtain ⟨k1, k2⟩ := hp t ht
 unfold QT.tn at k1
 refine ⟨?_, Zc1 k2 (ht_frac (by omega) (by omega)) hK⟩
 show (-1000000 ≤ t.a + a ∧ t.a + a ≤ 1000000) ∧ (-1000000 ≤ t.b + b ∧ t.b + b ≤ 1000000) ∧ -1000000 ≤ t.c + c ∧ t.c + c ≤ 1000000
 omega
theorem zero_qp : Zep Tryz.prog 29 [.slice none 0 0] := Zb2 (v := .slice none 0 0) (by kernel_rfl) rfl
set_option maxHeartbeats 16000000 in
theorem qderive_p {N : Nat} (hS : SortOK N) {U : List QE} {K : Nat} (hl : 6 * U.length ≤ N) (hN : N ≤ 100000) (ht : ∀ e, e ∈ U → e.t.tn) (ho : ∀ e, e ∈ U → e.ok K) (hK : 1 ≤ K ∧ K ≤ 100000000) (hH : N * (K + 2 + 1) + (K + 2) ≤ 1000000000) :
  PC Tryz.prog 47 [.sl (U.map QE.av)] (encP (qnf (qdv (U.map QE.t)))) := by
 have hmem : ∀ u, u ∈ qdv (U.map QE.t) → (qe u).sm ∧ Ht u.q (K + 2) := fun u hu => qdv_mem hK.1 (fun t h => by
  obtain ⟨e, he, rfl⟩ := List.mem_map.1 h
  exact ⟨ht e he, Zem (ho e he) hK.1⟩) hu
 have hdl := qdv_len (U.map QE.t)
 rw [List.length_map] at hdl
 have ctd := Zge hS (L := qdv (U.map QE.t)) (K := K + 2) (by omega) hN (fun t h => (hmem t h).1) (fun t h => (hmem t h).2) (by omega) hH
 clear hmem
 have hul := Zdr U
 generalize hR : qdv (U.map QE.t) = R at *
 have hRl : R.length ≤ N := by omega
 obtain ⟨X, hX⟩ : ∃ X, X = U.map QE.av := ⟨_, rfl⟩
 rw [← hX] at hul ⊢
 refine Zam true Tryz.func47 rfl rfl rfl (Nat.le_of_ble_eq_true rfl) Zao.tmp ?_
 refine r1A ?_
 refine T.seq ?_
 refine regA ?_
 refine evG ggA (Zcv (Zaa rfl) zero_qp rfl rfl rfl) ?_
 refine runA ?_
 refine Za1 ?_
 refine Zbx ?_
 refine T.seqI (fun s1 => s1 = mkS [(3, .ptr 3 0)] [(3, .var [.v (.sl (PL R))])] 44 true) ?_ ?_
 ·refine r1A ?_
  refine T.block ?_
  refine T.loop (fun M s1 => ∃ (A B : List QE) (out : List QT), U = A ++ B ∧ M = B.length ∧ out ++ qdv (B.map QE.t) = R ∧ s1 = mkS [(3, .ptr 3 0), (7, .v (.sl X)), (8, .v (iV (X.length : Nat))), (9, .v (iV A.length))] [(3, .var [.own 100 out.length]), (100, .lst 7 54 (PL out))] 44 true) U.length
   (s' := mkS [(3, .ptr 3 0), (7, .v (.sl X)), (8, .v (iV (X.length : Nat))), (9, .v (iV ((0 : Nat) : Int)))] [(3, .var [.own 100 0]), (100, .lst 7 54 [])] 44 true) (by exact entA) ⟨[], U, [], rfl, rfl, hR, rfl⟩ ?_
  rintro _ _ ⟨A, B, out, hAB, rfl, hout, rfl⟩
  have hlA : U.length = A.length + B.length := by rw [hAB]; simp
  rcases B with _ | ⟨e, B⟩
  ·have b1 : decide ((A.length : Int) < (X.length : Nat)) = false := decide_eq_false (by simp at hlA; omega)
   have hout : out = R := by rw [← hout]; simp [qdv]
   subst hout
   have hpo := Zft out
   refine goA ?_
   exact Zag (s' := mkS [(3, .ptr 3 0)] [(3, .var [.v (.sl (PL out))])] 44 true) (by exact entA) rfl
  have b1 : decide ((A.length : Int) < (X.length : Nat)) = true := decide_eq_true (by simp at hlA; omega)
  have hget : X[((A.length : Nat) : Int).toNat]? = some e.av := by rw [hX, hAB]; exact Zc3 (by omega)
  have hoe := ho e (by rw [hAB]; simp)
  have hte := ht e (by rw [hAB]; simp)
  have hAB2 : U = (A ++ [e]) ++ B := by rw [hAB]; simp
  have hlB : B.length < (e :: B).length := by simp
  have hnx : ((A.length : Nat) : Int) + 1 = ((A ++ [e]).length : Nat) := by simp
  have hout2 : out ++ qd1 e.t ++ qdv (B.map QE.t) = R := by rw [← hout]; unfold qdv; simp
  have hoN : out.length + (qd1 e.t).length ≤ N := by have := congrArg List.length hout2; simp only [List.length_append] at this; omega
  simp only [List.length_cons] at hlA
  clear hAB hout
  obtain ⟨ea, eb, ec, g, d, g', d', eq⟩ := e
  unfold QE.ok QE.r at hoe
  simp only [QE.t] at hoe hte hout2 hoN
  have hget : X[((A.length : Nat) : Int).toNat]? = some (.agg [iV ea, iV eb, iV ec, .p (.bool g), .sl d, .p (.bool g'), .sl d']) := hget
  have htn := hte
  unfold QT.tn at htn
  simp only at htn
  obtain ⟨o1, ho1⟩ : ∃ o, o = out ++ qad ⟨ea, eb, ec, eq⟩ ea 12 1 0 0 := ⟨_, rfl⟩
  have hl1 : o1.length ≤ out.length + 1 := by rw [ho1, List.length_append]; have := Zdd ⟨ea, eb, ec, eq⟩ ea 12 1 0 0; omega
  obtain ⟨o2, ho2⟩ : ∃ o, o = o1 ++ qad ⟨ea, eb, ec, eq⟩ (0 - ea) 12 (-1) 1 0 := ⟨_, rfl⟩
  have hl2 : o2.length ≤ o1.length + 1 := by rw [ho2, List.length_append]; have := Zdd ⟨ea, eb, ec, eq⟩ (0 - ea) 12 (-1) 1 0; omega
  obtain ⟨o3, ho3⟩ : ∃ o, o = o2 ++ qad ⟨ea, eb, ec, eq⟩ eb 3 1 0 0 := ⟨_, rfl⟩
  have hl3 : o3.length ≤ o2.length + 1 := by rw [ho3, List.length_append]; have := Zdd ⟨ea, eb, ec, eq⟩ eb 3 1 0 0; omega
  obtain ⟨o4, ho4⟩ : ∃ o, o = o3 ++ qad ⟨ea, eb, ec, eq⟩ (0 - eb) 3 0 (-1) 1 := ⟨_, rfl⟩
  have hl4 : o4.length ≤ o3.length + 1 := by rw [ho4, List.length_append]; have := Zdd ⟨ea, eb, ec, eq⟩ (0 - eb) 3 0 (-1) 1; omega
  obtain ⟨o5, ho5⟩ : ∃ o, o = o4 ++ qad ⟨ea, eb, ec, eq⟩ ec 2 1 0 0 := ⟨_, rfl⟩
  have hl5 : o5.length ≤ o4.length + 1 := by rw [ho5, List.length_append]; have := Zdd ⟨ea, eb, ec, eq⟩ ec 2 1 0 0; omega
  obtain ⟨o6, ho6⟩ : ∃ o, o = o5 ++ qad ⟨ea, eb, ec, eq⟩ (0 - ec) 2 0 2 (-1) := ⟨_, rfl⟩
  have hl6 : o6.length ≤ o5.length + 1 := by rw [ho6, List.length_append]; have := Zdd ⟨ea, eb, ec, eq⟩ (0 - ec) 2 0 2 (-1); omega
  have hfin : o6 = out ++ qd1 ⟨ea, eb, ec, eq⟩ := by rw [ho6, ho5, ho4, ho3, ho2, ho1]; unfold qd1; simp only [List.append_assoc, Int.zero_sub]
  have hon : out.length ≤ 100000 := by omega
  have c1 := Zeo (out := out) (n := ea) (d := 12) (a := 1) (b := 0) (c := 0) hoe hK hte (by omega) (by decide) (by decide) (by decide) (by decide) (by decide) (by omega)
  rw [← ho1] at c1
  have c2 := Zeo (out := o1) (n := 0 - ea) (d := 12) (a := (-1)) (b := 1) (c := 0) hoe hK hte (by rw [Int.zero_sub, Int.natAbs_neg]; omega) (by decide) (by decide) (by decide) (by decide) (by decide) (by omega)
  rw [← ho2] at c2
  have c3 := Zeo (out := o2) (n := eb) (d := 3) (a := 1) (b := 0) (c := 0) hoe hK hte (by omega) (by decide) (by decide) (by decide) (by decide) (by decide) (by omega)
  rw [← ho3] at c3
  have c4 := Zeo (out := o3) (n := 0 - eb) (d := 3) (a := 0) (b := (-1)) (c := 1) hoe hK hte (by rw [Int.zero_sub, Int.natAbs_neg]; omega) (by decide) (by decide) (by decide) (by decide) (by decide) (by omega)
  rw [← ho4] at c4
  have c5 := Zeo (out := o4) (n := ec) (d := 2) (a := 1) (b := 0) (c := 0) hoe hK hte (by omega) (by decide) (by decide) (by decide) (by decide) (by decide) (by omega)
  rw [← ho5] at c5
  have c6 := Zeo (out := o5) (n := 0 - ec) (d := 2) (a := 0) (b := 2) (c := (-1)) hoe hK hte (by rw [Int.zero_sub, Int.natAbs_neg]; omega) (by decide) (by decide) (by decide) (by decide) (by decide) (by omega)
  rw [← ho6] at c6
  rw [← hfin] at hout2
  clear ho1 ho2 ho3 ho4 ho5 ho6 hfin
  refine r1A ?_
  refine T.seq ?_
  refine T.condT rfl b1 ?_
  refine T.skip ?_
  refine Zbx ?_
  refine T.seq ?_
  refine T.block ?_
  refine T.seq ?_
  refine regA ?_
  refine evG ggA (Zad (Zaa rfl) (Zac rfl) rfl rfl (by omega) hget rfl) ?_
  refine runA ?_
  refine Za1 ?_
  refine Zbx ?_
  refine T.seqI (fun s1 => s1 = mkP [(3, .ptr 3 0), (5, .ptr 5 0), (6, .fn 88 [(3, 0), (5, 0)]), (7, .v (.sl X)), (8, .v (iV (X.length : Nat))), (9, .v (iV A.length))] [(3, .var [.own 100 out.length]), (5, tvQ ea eb ec g d g' d'), (100, .lst 7 54 (PL out))] 44 true []) ?_ ?_
  ·refine regA ?_
   refine evG ggA (Zgu (cs := [(3, 0), (5, 0)]) (Zaa rfl) rfl) ?_
   refine runA ?_
   refine Za1 ?_
   exact Zag (s' := mkP [(3, .ptr 3 0), (5, .ptr 5 0), (6, .fn 88 [(3, 0), (5, 0)]), (7, .v (.sl X)), (8, .v (iV (X.length : Nat))), (9, .v (iV A.length))] [(3, .var [.own 100 out.length]), (5, tvQ ea eb ec g d g' d'), (100, .lst 7 54 (PL out))] 44 true []) (by exact Za5) rfl
  rintro _ rfl
  refine T.seqI (fun s1 => s1 = mkP [(3, .ptr 3 0), (5, .ptr 5 0), (6, .fn 88 [(3, 0), (5, 0)]), (7, .v (.sl X)), (8, .v (iV (X.length : Nat))), (9, .v (iV A.length))] [(3, .var [.own 100 o1.length]), (5, tvQ ea eb ec g d g' d'), (100, .lst 7 54 (PL o1))] 44 true []) ?_ ?_
  ·refine regA ?_
   refine runA ?_
   refine evM (Zf4 [(0, 3), (1, 5), (2, 100)] c1 rfl rfl rfl rfl rfl rfl rfl ⟨rfl, rfl, rfl, trivial⟩ ⟨.inl rfl, .inl rfl, .inl rfl, trivial⟩ ?_)
   refine runA ?_
   refine Za1 ?_
   exact Zag (s' := mkP [(3, .ptr 3 0), (5, .ptr 5 0), (6, .fn 88 [(3, 0), (5, 0)]), (7, .v (.sl X)), (8, .v (iV (X.length : Nat))), (9, .v (iV A.length))] [(3, .var [.own 100 o1.length]), (5, tvQ ea eb ec g d g' d'), (100, .lst 7 54 (PL o1))] 44 true []) (by exact Za5) rfl
  rintro _ rfl
  refine T.seqI (fun s1 => s1 = mkP [(3, .ptr 3 0), (5, .ptr 5 0), (6, .fn 88 [(3, 0), (5, 0)]), (7, .v (.sl X)), (8, .v (iV (X.length : Nat))), (9, .v (iV A.length))] [(3, .var [.own 100 o2.length]), (5, tvQ ea eb ec g d g' d'), (100, .lst 7 54 (PL o2))] 44 true []) ?_ ?_
  ·refine regA ?_
   refine runA ?_
   refine evM (Zf4 [(0, 3), (1, 5), (2, 100)] c2 rfl rfl rfl rfl rfl rfl rfl ⟨rfl, rfl, rfl, trivial⟩ ⟨.inl rfl, .inl rfl, .inl rfl, trivial⟩ ?_)
   refine runA ?_
   refine Za1 ?_
   exact Zag (s' := mkP [(3, .ptr 3 0), (5, .ptr 5 0), (6, .fn 88 [(3, 0), (5, 0)]), (7, .v (.sl X)), (8, .v (iV (X.length : Nat))), (9, .v (iV A.length))] [(3, .var [.own 100 o2.length]), (5, tvQ ea eb ec g d g' d'), (100, .lst 7 54 (PL o2))] 44 true []) (by exact Za5) rfl
  rintro _ rfl
  refine T.seqI (fun s1 => s1 = mkP [(3, .ptr 3 0), (5, .ptr 5 0), (6, .fn 88 [(3, 0), (5, 0)]), (7, .v (.sl X)), (8, .v (iV (X.length : Nat))), (9, .v (iV A.length))] [(3, .var [.own 100 o3.length]), (5, tvQ ea eb ec g d g' d'), (100, .lst 7 54 (PL o3))] 44 true []) ?_ ?_
  ·refine regA ?_
   refine runA ?_
   refine evM (Zf4 [(0, 3), (1, 5), (2, 100)] c3 rfl rfl rfl rfl rfl rfl rfl ⟨rfl, rfl, rfl, trivial⟩ ⟨.inl rfl, .inl rfl, .inl rfl, trivial⟩ ?_)
   refine runA ?_
   refine Za1 ?_
   exact Zag (s' := mkP [(3, .ptr 3 0), (5, .ptr 5 0), (6, .fn 88 [(3, 0), (5, 0)]), (7, .v (.sl X)), (8, .v (iV (X.length : Nat))), (9, .v (iV A.length))] [(3, .var [.own 100 o3.length]), (5, tvQ ea eb ec g d g' d'), (100, .lst 7 54 (PL o3))] 44 true []) (by exact Za5) rfl
  rintro _ rfl
  refine T.seqI (fun s1 => s1 = mkP [(3, .ptr 3 0), (5, .ptr 5 0), (6, .fn 88 [(3, 0), (5, 0)]), (7, .v (.sl X)), (8, .v (iV (X.length : Nat))), (9, .v (iV A.length))] [(3, .var [.own 100 o4.length]), (5, tvQ ea eb ec g d g' d'), (100, .lst 7 54 (PL o4))] 44 true []) ?_ ?_
  ·refine regA ?_
   refine runA ?_
   refine evM (Zf4 [(0, 3), (1, 5), (2, 100)] c4 rfl rfl rfl rfl rfl rfl rfl ⟨rfl, rfl, rfl, trivial⟩ ⟨.inl rfl, .inl rfl, .inl rfl, trivial⟩ ?_)
   refine runA ?_
   refine Za1 ?_
   exact Zag (s' := mkP [(3, .ptr 3 0), (5, .ptr 5 0), (6, .fn 88 [(3, 0), (5, 0)]), (7, .v (.sl X)), (8, .v (iV (X.length : Nat))), (9, .v (iV A.length))] [(3, .var [.own 100 o4.length]), (5, tvQ ea eb ec g d g' d'), (100, .lst 7 54 (PL o4))] 44 true []) (by exact Za5) rfl
  rintro _ rfl
  refine T.seqI (fun s1 => s1 = mkP [(3, .ptr 3 0), (5, .ptr 5 0), (6, .fn 88 [(3, 0), (5, 0)]), (7, .v (.sl X)), (8, .v (iV (X.length : Nat))), (9, .v (iV A.length))] [(3, .var [.own 100 o5.length]), (5, tvQ ea eb ec g d g' d'), (100, .lst 7 54 (PL o5))] 44 true []) ?_ ?_
  ·refine regA ?_
   refine runA ?_
   refine evM (Zf4 [(0, 3), (1, 5), (2, 100)] c5 rfl rfl rfl rfl rfl rfl rfl ⟨rfl, rfl, rfl, trivial⟩ ⟨.inl rfl, .inl rfl, .inl rfl, trivial⟩ ?_)
   refine runA ?_
   refine Za1 ?_
   exact Zag (s' := mkP [(3, .ptr 3 0), (5, .ptr 5 0), (6, .fn 88 [(3, 0), (5, 0)]), (7, .v (.sl X)), (8, .v (iV (X.length : Nat))), (9, .v (iV A.length))] [(3, .var [.own 100 o5.length]), (5, tvQ ea eb ec g d g' d'), (100, .lst 7 54 (PL o5))] 44 true []) (by exact Za5) rfl
  rintro _ rfl
  refine goA ?_
  refine evM (Zf4 [(0, 3), (1, 5), (2, 100)] c6 rfl rfl rfl rfl rfl rfl rfl ⟨rfl, rfl, rfl, trivial⟩ ⟨.inl rfl, .inl rfl, .inl rfl, trivial⟩ ?_)
  refine goA ?_
  rw [hnx]
  exact Zae (k := B.length) (s' := mkS [(3, .ptr 3 0), (7, .v (.sl X)), (8, .v (iV (X.length : Nat))), (9, .v (iV ((A ++ [(⟨ea, eb, ec, g, d, g', d', eq⟩ : QE)]).length : Nat)))] [(3, .var [.own 100 o6.length]), (100, .lst 7 54 (PL o6))] 44 true) hlB (by exact entA) ⟨A ++ [⟨ea, eb, ec, g, d, g', d', eq⟩], B, o6, hAB2, rfl, hout2, rfl⟩
 rintro _ rfl
 refine goA ?_
 refine evG ggA (Zab (Zaa rfl) rfl rfl ctd) ?_
 refine goA ?_
 exact rfl
end Ab
namespace Ab
open Go Go.RowKit Go.Proofs Hp
set_option maxRecDepth 100000
def bnG (m : Int) : Nat → Int
 | 0 => 1
 | i + 1 => (bnG m i * (m - i)).tdiv ((i : Int) + 1)
def bnGOK : Bool := (List.range 70).all fun a => (List.range 8).all fun i => decide ((bnG ((a : Int) - 2) i).natAbs ≤ 1000000000)
theorem bnG_ok : bnGOK = true := by decide +kernel
theorem bnG_le {m : Int} {i : Nat} (h0 : -2 ≤ m) (h1 : m ≤ 67) (hi : i < 8) : (bnG m i).natAbs ≤ 1000000000 := by
 have h := List.all_eq_true.1 (List.all_eq_true.1 bnG_ok (m + 2).toNat (List.mem_range.2 (by omega))) i (List.mem_range.2 hi)
 rw [show (((m + 2).toNat : Int)) - 2 = m by omega] at h
 exact of_decide_eq_true h
theorem qbin_p {m : Int} {s : Nat} (h0 : -2 ≤ m) (h1 : m ≤ 67) (hs : s ≤ 7) : PC Tryz.prog 49 [iV m, iV s] (iV (bnG m s)) := by
 refine Zam true Tryz.func49 rfl rfl rfl (Nat.le_of_ble_eq_true rfl) Zao.tmp ?_
 refine r1A ?_
 refine r1A ?_
 refine T.seqI (fun s1 => s1 = mkS [(5, .v (iV (bnG m s)))] [] 21 true) ?_ ?_
 ·refine r1A ?_
  refine T.block ?_
  refine T.loop (fun N s1 => ∃ i : Nat, N = s - i ∧ i ≤ s ∧ s1 = mkS [(0, .v (iV m)), (5, .v (iV (bnG m i))), (7, .v (iV s)), (8, .v (iV i))] [] 21 true) s
   (s' := mkS [(0, .v (iV m)), (5, .v (iV 1)), (7, .v (iV s)), (8, .v (iV ((0 : Nat) : Int)))] [] 21 true) (by exact entA) ⟨0, rfl, Nat.zero_le _, rfl⟩ ?_
  rintro _ _ ⟨i, rfl, hi, rfl⟩
  by_cases hlt : i < s
  ·have b1 : decide ((i : Int) < (s : Int)) = true := decide_eq_true (by omega)
   have hb := bnG_le h0 h1 (i := i) (by omega)
   have hx : (bnG m i * (m - i)).natAbs ≤ 1000000000 * 100 := by
    rw [Int.natAbs_mul]
    exact Nat.mul_le_mul hb (by omega)
   have hstep : bnG m (i + 1) = (bnG m i * (m - i)).tdiv ((i : Int) + 1) := rfl
   have hb2 := bnG_le h0 h1 (i := i + 1) (by omega)
   rw [hstep] at hb2
   generalize hB : bnG m i = B at *
   generalize hP : B * (m - (i : Int)) = P at *
   have hw : ∀ q : Int, q = P.tdiv ((i : Int) + 1) → IntKind.i64.wrap q = q := fun q hq => w64 (by rw [hq]; omega) (by rw [hq]; omega)
   refine goA ?_
   rw [hP]
   refine evG ggA (Zcc (op := .quo) (c := P.tdiv ((i : Int) + 1)) (Zaa rfl) rfl rfl (by omega) (hw _ rfl)) ?_
   refine goA ?_
   exact Zae (k := s - (i + 1)) (s' := mkS [(0, .v (iV m)), (5, .v (iV (P.tdiv ((i : Int) + 1)))), (7, .v (iV s)), (8, .v (iV ((i : Int) + 1)))] [] 21 true) (by omega) (by exact entA) ⟨i + 1, rfl, hlt, by rw [hstep]; rfl⟩
  ·obtain rfl : i = s := by omega
   have b1 : decide ((i : Int) < (i : Int)) = false := decide_eq_false (by omega)
   refine goA ?_
   exact Zag (s' := mkS [(5, .v (iV (bnG m i)))] [] 21 true) (by exact entA) rfl
 rintro _ rfl
 refine goA ?_
 exact rfl
theorem sameRatz_p {q : Rat} {K : Nat} (h : Ht q K) (hK : K ≤ 1000000000000) : PC Tryz.prog 48 [encQ q, encQ q] (bV true) := by
 have c := sameRat_p (rq q) (rq q) (by
  have := dgs_len h.1
  show (dgs q.num.natAbs).length ≤ _
  omega) (by
  have h2 := h.2
  have := dgs_len (z := (q.den : Int).natAbs) (by rw [Int.natAbs_natCast]; exact h2)
  show (dgs (q.den : Int).natAbs).length ≤ _
  omega)
 rw [decide_eq_true rfl] at c
 exact c
theorem av_idx {l : List QT} {A B : List QT} {t : QT} (h : l = A ++ t :: B) : (PL l)[((A.length : Nat) : Int).toNat]? = some (qe t).av := by
 subst h
 unfold PL
 rw [List.map_append, List.map_cons]
 exact Zc3 (by rw [List.length_map]; omega)
set_option maxHeartbeats 8000000 in
theorem rsame38_p {l : List QT} {K : Nat} (hl : l.length ≤ 1000000) (h : ∀ t, t ∈ l → Ht t.q K) (hK : K ≤ 1000000000000) : PC Tryz.prog 18 [.sl (PL l), .sl (PL l)] (bV true) := by
 have hpl := Zft l
 refine Zam true Tryz.func18 rfl rfl rfl (Nat.le_of_ble_eq_true rfl) Zao.tmp ?_
 have b0 : (((PL l).length : Int) != ((PL l).length : Int)) = false := by simp
 obtain ⟨X, hX⟩ : ∃ X, X = PL l := ⟨_, rfl⟩
 rw [← hX] at hpl b0 ⊢
 refine goA ?_
 refine T.loop (fun N s1 => ∃ A B : List QT, l = A ++ B ∧ N = B.length ∧ s1 = mkS [(0, .v (.sl X)), (1, .v (.sl X)), (4, .v (bV false)), (5, .v (iV A.length))] [] 68 true) l.length
  (s' := mkS [(0, .v (.sl X)), (1, .v (.sl X)), (4, .v (bV false)), (5, .v (iV ((0 : Nat) : Int)))] [] 68 true) (by exact entA) ⟨[], l, rfl, rfl, rfl⟩ ?_
 rintro _ _ ⟨A, B, hAB, rfl, rfl⟩
 have hlA : l.length = A.length + B.length := by rw [hAB]; simp
 rcases B with _ | ⟨t, B⟩
 ·have b1 : decide ((A.length : Int) < (X.length : Int)) = false := decide_eq_false (by simp at hlA; omega)
  refine goA ?_
  exact rfl
 have b1 : decide ((A.length : Int) < (X.length : Int)) = true := decide_eq_true (by simp at hlA; omega)
 have hget : X[((A.length : Nat) : Int).toNat]? = some (qe t).av := by rw [hX]; exact av_idx hAB
 have cs := sameRatz_p (h t (by rw [hAB]; simp)) hK
 have hAB2 : l = (A ++ [t]) ++ B := by rw [hAB]; simp
 have hlB : B.length < (t :: B).length := by simp
 have hnx : ((A.length : Nat) : Int) + 1 = ((A ++ [t]).length : Nat) := by simp
 simp only [List.length_cons] at hlA
 clear hAB
 obtain ⟨a, b, c, q⟩ := t
 have hget : X[((A.length : Nat) : Int).toNat]? = some (.agg [iV a, iV b, iV c, .p (.bool (decide (q.num < 0))), .sl ((dgs q.num.natAbs).map u32), .p (.bool (decide ((q.den : Int) < 0))), .sl ((dgs (q.den : Int).natAbs).map u32)]) := hget
 have n1 : (a != a) = false := by simp
 have n2 : (b != b) = false := by simp
 have n3 : (c != c) = false := by simp
 refine goA ?_
 refine evG ggA (Zad (Zaa rfl) (Zac rfl) rfl rfl (by omega) hget rfl) ?_
 refine goA ?_
 refine evG ggA (Zad (Zaa rfl) (Zac rfl) rfl rfl (by omega) hget rfl) ?_
 refine goA ?_
 refine evG ggA (Zad (Zaa rfl) (Zac rfl) rfl rfl (by omega) hget rfl) ?_
 refine goA ?_
 refine evG ggA (Zad (Zaa rfl) (Zac rfl) rfl rfl (by omega) hget rfl) ?_
 refine goA ?_
 refine evG ggA (Zad (Zaa rfl) (Zac rfl) rfl rfl (by omega) hget rfl) ?_
 refine goA ?_
 refine evG ggA (Zad (Zaa rfl) (Zac rfl) rfl rfl (by omega) hget rfl) ?_
 refine goA ?_
 refine evG ggA (Zad (Zaa rfl) (Zac rfl) rfl rfl (by omega) hget rfl) ?_
 refine goA ?_
 refine evG ggA (Zad (Zaa rfl) (Zac rfl) rfl rfl (by omega) hget rfl) ?_
 refine goA ?_
 refine evG ggA (Zab (Zaa rfl) rfl rfl cs) ?_
 refine goA ?_
 rw [hnx]
 exact Zae (k := B.length) (s' := mkS [(0, .v (.sl X)), (1, .v (.sl X)), (4, .v (bV false)), (5, .v (iV ((A ++ [(⟨a, b, c, q⟩ : QT)]).length : Nat)))] [] 68 true) hlB (by exact entA) ⟨A ++ [⟨a, b, c, q⟩], B, hAB2, rfl, rfl⟩
theorem qserre_core {X T1 D W C R : List AV} {f : Rat} {k : Int} (hv : PC Tryz.prog 38 [.sl X] (bV true)) (ht : PC Tryz.prog 29 [.sl X] (.sl T1)) (hp : PC Tryz.prog 39 [.sl T1] (.tup [iV k, bV true])) (hT : 0 < T1.length) (hk : k + 2 ≤ 60) (hk0 : 0 ≤ k)
  (hf : PC Tryz.prog 45 [iV (0 - k), iV 12] (encQ f)) (hw : PC Tryz.prog 44 [.sl T1, .sl [(qe ⟨1, 0, 0, f⟩).av]] (.sl W)) (hd : PC Tryz.prog 47 [.sl T1] (.sl D))
  (hc : PC Tryz.prog 46 [.sl [.sl D, .sl W]] (.sl C)) (hr : PC Tryz.prog 29 [.sl C] (.sl R)) : PC Tryz.prog 17 [.sl X] (.tup [.sl R, iV 0]) := by
 have b1 : decide ((T1.length : Int) > 0) = true := decide_eq_true (by omega)
 have b2 : decide (k + 2 > 60) = false := decide_eq_false (by omega)
 refine Zas true Tryz.func17 rfl rfl rfl (Nat.le_of_ble_eq_true rfl) Zao.tmp Zao.tmp ?_
 refine goA ?_
 refine evG ggA (Zab (Zaa rfl) rfl rfl hv) ?_
 refine goA ?_
 refine evG ggA (Zab (Zaa rfl) rfl rfl ht) ?_
 refine goA ?_
 refine evG ggA (Zab (Zaa rfl) rfl rfl hp) ?_
 refine goA ?_
 refine evG ggA (Zab (Zaa rfl) rfl rfl hf) ?_
 refine goA ?_
 refine evG ggA (Za3 (Zaa rfl) (Zak rfl) rfl rfl rfl rfl (Zca rfl) (Nat.le_of_ble_eq_true rfl)) ?_
 refine evG ggA (Zab (Zaa rfl) rfl rfl hw) ?_
 refine goA ?_
 refine evG ggA (Zab (Zaa rfl) rfl rfl hd) ?_
 refine goA ?_
 refine evG ggA (Za3 (Zaa rfl) (Zak rfl) rfl rfl rfl rfl (Zca rfl) (Nat.le_of_ble_eq_true rfl)) ?_
 refine evG ggA (Zab (Zaa rfl) rfl rfl hc) ?_
 refine evG ggA (Zab (Zaa rfl) rfl rfl hr) ?_
 refine goA ?_
 exact rfl
set_option maxHeartbeats 16000000 in
theorem qbracket_core {n : Nat} (hn : n ≤ 6) {X Y R : List AV} {f g : Nat → List AV} {k l : Int} {tm sc : Nat → List AV} {b1 b2 : Nat → Int} {q : Nat → Rat}
  (hv1 : PC Tryz.prog 38 [.sl X] (bV true)) (hv2 : PC Tryz.prog 38 [.sl Y] (bV true))
  (ht1 : PC Tryz.prog 29 [.sl X] (.sl (f 0))) (ht2 : PC Tryz.prog 29 [.sl Y] (.sl (g 0)))
  (hp1 : PC Tryz.prog 39 [.sl (f 0)] (.tup [iV k, bV true])) (hp2 : PC Tryz.prog 39 [.sl (g 0)] (.tup [iV l, bV true]))
  (h1 : 0 < (f 0).length) (h2 : 0 < (g 0).length) (hk : 0 ≤ k ∧ k ≤ 60) (hl : 0 ≤ l ∧ l ≤ 60) (hkl : k + l + 2 * n ≤ 60)
  (hd1 : ∀ i, i < n → PC Tryz.prog 47 [.sl (f i)] (.sl (f (i + 1)))) (hd2 : ∀ i, i < n → PC Tryz.prog 47 [.sl (g i)] (.sl (g (i + 1))))
  (hb1 : ∀ r, r ≤ n → PC Tryz.prog 49 [iV ((n : Int) + k - 1), iV ((n : Int) - r)] (iV (b1 r))) (hb2 : ∀ r, r ≤ n → PC Tryz.prog 49 [iV ((n : Int) + l - 1), iV r] (iV (b2 r)))
  (hbl : ∀ r, r ≤ n → (b1 r * b2 r).natAbs ≤ 1000000000000000000)
  (hof : ∀ r, r ≤ n → PC Tryz.prog 25 [iV (if r % 2 = 0 then b1 r * b2 r else -(b1 r * b2 r))] (encQ (q r)))
  (htm : ∀ r, r ≤ n → PC Tryz.prog 44 [.sl (f r), .sl (g (n - r))] (.sl (tm r))) (hsc : ∀ r, r ≤ n → PC Tryz.prog 50 [encQ (q r), .sl (tm r)] (.sl (sc r)))
  (hcs : ∀ r, r ≤ n → (∀ a, a ∈ sc r → a.cells.length = 7 ∧ ∀ c, c ∈ a.cells → c.nu = true) ∧ (sc r).length ≤ 100000)
  (hR : PC Tryz.prog 29 [.sl ((List.range (n + 1)).flatMap sc)] (.sl R)) : PC Tryz.prog 20 [.sl X, .sl Y, iV n] (.tup [.sl R, iV 0]) := by
 have c1 : decide ((n : Int) < 0) = false := decide_eq_false (by omega)
 have c2 : decide ((n : Int) > 6) = false := decide_eq_false (by omega)
 have c3 : (((f 0).length : Int) == 0) = false := by simp; intro h; rw [h] at h1; simp at h1
 have c4 : (((g 0).length : Int) == 0) = false := by simp; intro h; rw [h] at h2; simp at h2
 have c5 : decide (k + l + 2 * (n : Int) > 60) = false := decide_eq_false (by omega)
 have fm : ∀ m, ((List.range m).map (fun i => AV.sl (f i))).length = m := fun m => by simp
 have gm : ∀ m, ((List.range m).map (fun i => AV.sl (g i))).length = m := fun m => by simp
 have fa : ∀ m i, i < m → ((List.range m).map (fun i => AV.sl (f i)))[i]? = some (.sl (f i)) := fun m i h => by rw [List.getElem?_map, List.getElem?_range h]; rfl
 have ga : ∀ m i, i < m → ((List.range m).map (fun i => AV.sl (g i)))[i]? = some (.sl (g i)) := fun m i h => by rw [List.getElem?_map, List.getElem?_range h]; rfl
 have fs : ∀ m, (List.range m).map (fun i => AV.sl (f i)) ++ [.sl (f m)] = (List.range (m + 1)).map (fun i => AV.sl (f i)) := fun m => by rw [List.range_succ, List.map_append]; rfl
 have gs : ∀ m, (List.range m).map (fun i => AV.sl (g i)) ++ [.sl (g m)] = (List.range (m + 1)).map (fun i => AV.sl (g i)) := fun m => by rw [List.range_succ, List.map_append]; rfl
 refine Zas true Tryz.func20 rfl rfl rfl (Nat.le_of_ble_eq_true rfl) Zao.tmp Zao.tmp ?_
 refine goA ?_
 refine evG ggA (Zab (Zaa rfl) rfl rfl hv1) ?_
 refine goA ?_
 refine evG ggA (Zab (Zaa rfl) rfl rfl hv2) ?_
 refine goA ?_
 refine evG ggA (Zab (Zaa rfl) rfl rfl ht1) ?_
 refine goA ?_
 refine evG ggA (Zab (Zaa rfl) rfl rfl ht2) ?_
 refine goA ?_
 refine evG ggA (Zab (Zaa rfl) rfl rfl hp1) ?_
 refine goA ?_
 refine evG ggA (Zab (Zaa rfl) rfl rfl hp2) ?_
 refine goA ?_
 refine evG ggA (Zb8 31 (Zaa rfl) rfl (Zak rfl) rfl rfl rfl rfl (Zca rfl) (Nat.le_of_ble_eq_true rfl) (by decide) (fun _ a ha => by rw [List.mem_singleton] at ha; subst ha; exact List.all_eq_true.1 rfl)) ?_
 refine goA ?_
 refine evG ggA (Zb8 32 (Zaa rfl) rfl (Zak rfl) rfl rfl rfl rfl (Zca rfl) (Nat.le_of_ble_eq_true rfl) (by decide) (fun _ a ha => by rw [List.mem_singleton] at ha; subst ha; exact List.all_eq_true.1 rfl)) ?_
 refine runA ?_
 refine Za1 ?_
 refine osA ?_
 refine T.seqI (fun s1 => s1 = mkS [(2, .v (iV n)), (8, .v (iV k)), (10, .v (iV l)), (12, .v (.sl ((List.range (n + 1)).map (fun i => AV.sl (f i))))), (13, .v (.sl ((List.range (n + 1)).map (fun i => AV.sl (g i)))))] [] 138 true) ?_ ?_
 ·refine r1A ?_
  refine T.block ?_
  refine T.loop (fun N s1 => ∃ i : Nat, N = n - i ∧ i ≤ n ∧ s1 = mkS [(2, .v (iV n)), (8, .v (iV k)), (10, .v (iV l)), (12, .own 31 (i + 1)), (13, .own 32 (i + 1)), (73, .v (iV n)), (74, .v (iV i))] [(31, .lst 1 29 ((List.range (i + 1)).map (fun i => AV.sl (f i)))), (32, .lst 1 29 ((List.range (i + 1)).map (fun i => AV.sl (g i))))] 138 true) n
   (s' := mkS [(2, .v (iV n)), (8, .v (iV k)), (10, .v (iV l)), (12, .own 31 1), (13, .own 32 1), (73, .v (iV n)), (74, .v (iV ((0 : Nat) : Int)))] [(31, .lst 1 29 [.sl (f 0)]), (32, .lst 1 29 [.sl (g 0)])] 138 true) (by exact entA) ⟨0, rfl, Nat.zero_le _, rfl⟩ ?_
  rintro _ _ ⟨i, rfl, hi, rfl⟩
  have ef := fm (i + 1)
  have eg := gm (i + 1)
  by_cases hlt : i < n
  ·have b1 : decide ((i : Int) < (n : Int)) = true := decide_eq_true (by omega)
   have e1 := fa (i + 1) i (by omega)
   have e2 := ga (i + 1) i (by omega)
   have e3 := fs (i + 1)
   have e4 := gs (i + 1)
   have d1 := hd1 i hlt
   have d2 := hd2 i hlt
   generalize (List.range (i + 1)).map (fun i => AV.sl (f i)) = F at *
   generalize (List.range (i + 1)).map (fun i => AV.sl (g i)) = G at *
   refine goA ?_
   refine evG ggA (Zaf (Zaa rfl) (Zac rfl) rfl rfl ef rfl (by omega) (by omega)) ?_
   rw [show ((i : Nat) : Int).toNat = i by omega]
   refine evG ggA (ss_load_op1 (Zaa rfl) (Zdo rfl) rfl rfl ef e1 rfl) ?_
   refine goA ?_
   refine evG ggA (Zab (Zaa rfl) rfl rfl d1) ?_
   refine evG ggA (Za3 (Zaa rfl) (Zak rfl) rfl rfl rfl rfl (Zca rfl) (Nat.le_of_ble_eq_true rfl)) ?_
   refine evG ggA (Zfy (a := .sl (f (i + 1))) (Zaa rfl) (Zak rfl) rfl rfl ef rfl rfl (by decide) rfl (by omega) (Nat.le_of_ble_eq_true rfl) rfl) ?_
   rw [e3]
   refine goA ?_
   refine evG ggA (Zaf (Zaa rfl) (Zac rfl) rfl rfl eg rfl (by omega) (by omega)) ?_
   rw [show ((i : Nat) : Int).toNat = i by omega]
   refine evG ggA (ss_load_op1 (Zaa rfl) (Zdo rfl) rfl rfl eg e2 rfl) ?_
   refine goA ?_
   refine evG ggA (Zab (Zaa rfl) rfl rfl d2) ?_
   refine evG ggA (Za3 (Zaa rfl) (Zak rfl) rfl rfl rfl rfl (Zca rfl) (Nat.le_of_ble_eq_true rfl)) ?_
   refine evG ggA (Zfy (a := .sl (g (i + 1))) (Zaa rfl) (Zak rfl) rfl rfl eg rfl rfl (by decide) rfl (by omega) (Nat.le_of_ble_eq_true rfl) rfl) ?_
   rw [e4]
   refine goA ?_
   exact Zae (k := n - (i + 1)) (s' := mkS [(2, .v (iV n)), (8, .v (iV k)), (10, .v (iV l)), (12, .own 31 (i + 1 + 1)), (13, .own 32 (i + 1 + 1)), (73, .v (iV n)), (74, .v (iV ((i : Int) + 1)))] [(31, .lst 1 29 ((List.range (i + 1 + 1)).map (fun i => AV.sl (f i)))), (32, .lst 1 29 ((List.range (i + 1 + 1)).map (fun i => AV.sl (g i))))] 138 true) (by omega) (by exact entA) ⟨i + 1, rfl, hlt, rfl⟩
  ·obtain rfl : i = n := by omega
   have b1 : decide ((i : Int) < (i : Int)) = false := decide_eq_false (by omega)
   refine goA ?_
   exact Zag (s' := mkS [(2, .v (iV i)), (8, .v (iV k)), (10, .v (iV l)), (12, .v (.sl ((List.range (i + 1)).map (fun i => AV.sl (f i))))), (13, .v (.sl ((List.range (i + 1)).map (fun i => AV.sl (g i)))))] [] 138 true) (by exact entA) rfl
 rintro _ rfl
 have fa := fa (n + 1)
 have ga := ga (n + 1)
 clear fs gs fm gm hd1 hd2 ht1 ht2 hp1 hp2 hv1 hv2 c1 c2 c3 c4 c5 h1 h2
 generalize (List.range (n + 1)).map (fun i => AV.sl (f i)) = F at *
 generalize (List.range (n + 1)).map (fun i => AV.sl (g i)) = G at *
 refine r1A ?_
 refine T.seqI (fun s1 => s1 = mkS [(15, .v (.sl ((List.range (n + 1)).flatMap sc)))] [] 138 true) ?_ ?_
 ·refine r1A ?_
  refine T.block ?_
  refine T.loop (fun N s1 => ∃ r : Nat, N = n + 1 - r ∧ r ≤ n + 1 ∧ ((List.range r).flatMap sc).length ≤ r * 100000 ∧ s1 = mkS [(2, .v (iV n)), (8, .v (iV k)), (10, .v (iV l)), (12, .v (.sl F)), (13, .v (.sl G)), (15, .own 100 ((List.range r).flatMap sc).length), (95, .v (iV ((n : Int) + 1))), (96, .v (iV r))] [(100, .lst 7 54 ((List.range r).flatMap sc))] 138 true) (n + 1)
   (s' := mkS [(2, .v (iV n)), (8, .v (iV k)), (10, .v (iV l)), (12, .v (.sl F)), (13, .v (.sl G)), (15, .own 100 0), (95, .v (iV ((n : Int) + 1))), (96, .v (iV ((0 : Nat) : Int)))] [(100, .lst 7 54 [])] 138 true) (by exact entA) ⟨0, rfl, Nat.zero_le _, by simp, rfl⟩ ?_
  rintro _ _ ⟨r, rfl, hr, hol, rfl⟩
  by_cases hlt : r < n + 1
  ·have d1 : decide ((r : Int) < (n : Int) + 1) = true := decide_eq_true (by omega)
   have e1 : F[((r : Nat) : Int).toNat]? = some (.sl (f r)) := by rw [show ((r : Nat) : Int).toNat = r by omega]; exact fa r hlt
   have e2 : G[((n : Int) - (r : Int)).toNat]? = some (.sl (g (n - r))) := by rw [show ((n : Int) - (r : Int)).toNat = n - r by omega]; exact ga _ (by omega)
   have k1 := hb1 r (by omega)
   have k2 := hb2 r (by omega)
   have k3 := hbl r (by omega)
   have k4 := hof r (by omega)
   have k5 := htm r (by omega)
   have k6 := hsc r (by omega)
   obtain ⟨k7, k8⟩ := hcs r (by omega)
   have k9 : ∀ a, a ∈ sc r → a.cells.length = 7 := fun a ha => (k7 a ha).1
   have k10 : ∀ a, a ∈ sc r → ∀ c, c ∈ a.cells → c.nu = true := fun a ha => (k7 a ha).2
   have hstep : (List.range r).flatMap sc ++ sc r = (List.range (r + 1)).flatMap sc := by rw [List.range_succ, List.flatMap_append]; simp
   have hol2 : ((List.range r).flatMap sc).length + (sc r).length ≤ (r + 1) * 100000 := by omega
   have hlen2 : ((List.range (r + 1)).flatMap sc).length = ((List.range r).flatMap sc).length + (sc r).length := by rw [← hstep]; simp
   generalize hS : (List.range r).flatMap sc = S at *
   generalize hS2 : (List.range (r + 1)).flatMap sc = S2 at *
   generalize hB1 : b1 r = B1 at *
   generalize hB2 : b2 r = B2 at *
   generalize hP : B1 * B2 = P at *
   generalize q r = qr at *
   have hb : S.length + (sc r).length ≤ 700000 := by omega
   by_cases hpar : r % 2 = 0
   ·have d2 : (((r : Int)).tmod 2 != 0) = false := by rw [show (r : Int).tmod 2 = ((r % 2 : Nat) : Int) from (Int.ofNat_tmod r 2).symm, hpar]; rfl
    rw [if_pos hpar] at k4
    refine goA ?_
    refine evG ggA (Zab (Zaa rfl) rfl rfl k1) ?_
    refine goA ?_
    refine evG ggA (Zab (Zaa rfl) rfl rfl k2) ?_
    refine goA ?_
    rw [hP]
    refine goA ?_
    refine evG ggA (Zcc (op := .rem) (Zaa rfl) rfl rfl (by omega) rfl) ?_
    refine goA ?_
    refine evG ggA (Zab (Zaa rfl) rfl rfl k4) ?_
    refine goA ?_
    refine evG ggA (Zad (Zaa rfl) (Zac rfl) rfl rfl (by omega) e1 rfl) ?_
    refine goA ?_
    refine evG ggA (Zad (Zaa rfl) (Zac rfl) rfl rfl (by omega) e2 rfl) ?_
    refine goA ?_
    refine evG ggA (Zab (Zaa rfl) rfl rfl k5) ?_
    refine evG ggA (Zab (Zaa rfl) rfl rfl k6) ?_
    refine evG ggA (Zce (Zaa rfl) (Zak rfl) rfl rfl rfl rfl k9 (by decide) (by unfold maxLen; omega) (by omega) rfl (fun _ => k10)) ?_
    rw [hstep]
    refine goA ?_
    rw [← hlen2]
    exact Zae (k := n + 1 - (r + 1)) (s' := mkS [(2, .v (iV n)), (8, .v (iV k)), (10, .v (iV l)), (12, .v (.sl F)), (13, .v (.sl G)), (15, .own 100 S2.length), (95, .v (iV ((n : Int) + 1))), (96, .v (iV ((r : Int) + 1)))] [(100, .lst 7 54 S2)] 138 true) (by omega) (by exact entA) ⟨r + 1, rfl, hlt, by rw [hS2, hlen2]; omega, by rw [hS2]; rfl⟩
   ·have d2 : (((r : Int)).tmod 2 != 0) = true := by rw [show (r : Int).tmod 2 = ((r % 2 : Nat) : Int) from (Int.ofNat_tmod r 2).symm, show r % 2 = 1 by omega]; rfl
    rw [if_neg hpar] at k4
    have hneg : (0 : Int) - P = -P := Int.zero_sub P
    refine goA ?_
    refine evG ggA (Zab (Zaa rfl) rfl rfl k1) ?_
    refine goA ?_
    refine evG ggA (Zab (Zaa rfl) rfl rfl k2) ?_
    refine goA ?_
    rw [hP]
    refine goA ?_
    refine evG ggA (Zcc (op := .rem) (Zaa rfl) rfl rfl (by omega) rfl) ?_
    refine goA ?_
    rw [hneg]
    refine goA ?_
    refine evG ggA (Zab (Zaa rfl) rfl rfl k4) ?_
    refine goA ?_
    refine evG ggA (Zad (Zaa rfl) (Zac rfl) rfl rfl (by omega) e1 rfl) ?_
    refine goA ?_
    refine evG ggA (Zad (Zaa rfl) (Zac rfl) rfl rfl (by omega) e2 rfl) ?_
    refine goA ?_
    refine evG ggA (Zab (Zaa rfl) rfl rfl k5) ?_
    refine evG ggA (Zab (Zaa rfl) rfl rfl k6) ?_
    refine evG ggA (Zce (Zaa rfl) (Zak rfl) rfl rfl rfl rfl k9 (by decide) (by unfold maxLen; omega) (by omega) rfl (fun _ => k10)) ?_
    rw [hstep]
    refine goA ?_
    rw [← hlen2]
    exact Zae (k := n + 1 - (r + 1)) (s' := mkS [(2, .v (iV n)), (8, .v (iV k)), (10, .v (iV l)), (12, .v (.sl F)), (13, .v (.sl G)), (15, .own 100 S2.length), (95, .v (iV ((n : Int) + 1))), (96, .v (iV ((r : Int) + 1)))] [(100, .lst 7 54 S2)] 138 true) (by omega) (by exact entA) ⟨r + 1, rfl, hlt, by rw [hS2, hlen2]; omega, by rw [hS2]; rfl⟩
  ·obtain rfl : r = n + 1 := by omega
   have d1 : decide (((n + 1 : Nat) : Int) < (n : Int) + 1) = false := decide_eq_false (by omega)
   refine goA ?_
   exact Zag (s' := mkS [(15, .v (.sl ((List.range (n + 1)).flatMap sc)))] [] 138 true) (by exact entA) rfl
 rintro _ rfl
 refine goA ?_
 refine evG ggA (Zab (Zaa rfl) rfl rfl hR) ?_
 refine goA ?_
 exact rfl
end Ab
namespace Ab
open Go Go.RowKit Go.Proofs Hp
set_option maxRecDepth 100000
def qtup (t : QT) : Int × Int × Int × Rat := (t.a, t.b, t.c, t.q)
theorem Zg0 : ∀ {l m : List QT}, l.map qtup = m.map qtup → l = m
  | [], [], _ => rfl
  | [], _ :: _, h => by simp at h
  | _ :: _, [], h => by simp at h
  | t :: l, u :: m, h => by
    simp only [List.map_cons, List.cons.injEq] at h
    obtain ⟨a, b, c, q⟩ := t
    obtain ⟨a', b', c', q'⟩ := u
    obtain ⟨h1, h2⟩ := h
    simp only [qtup, Prod.mk.injEq] at h1
    obtain ⟨rfl, rfl, rfl, rfl⟩ := h1
    rw [Zg0 h2]
theorem term_p (a b c : Int) : PC Tryz.prog 19 [iV a, iV b, iV c] (.sl (PL [⟨a, b, c, 1⟩])) := by
 have c1 := q_p 1 (by decide) (by decide)
 rw [show ((1 : Int) : Rat) = 1 from rfl] at c1
 show PC _ _ _ (.sl [.agg [iV a, iV b, iV c, .p (.bool (decide ((1 : Rat).num < 0))), .sl ((dgs (1 : Rat).num.natAbs).map u32), .p (.bool (decide (((1 : Rat).den : Int) < 0))), .sl ((dgs ((1 : Rat).den : Int).natAbs).map u32)]])
 generalize (1 : Rat) = q at *
 refine Zam true Tryz.func19 rfl rfl rfl (Nat.le_of_ble_eq_true rfl) Zao.tmp ?_
 refine goA ?_
 refine evG ggA (Zab (Zaa rfl) rfl rfl c1) ?_
 refine goA ?_
 refine evG ggA (Za3 (Zaa rfl) (Zak rfl) rfl rfl rfl rfl (Zca rfl) (Nat.le_of_ble_eq_true rfl)) ?_
 refine goA ?_
 exact rfl
def okL (l : List QT) : Bool := l.all fun t => decide (-1000 ≤ t.a) && decide (t.a ≤ 1000) && decide (-1000 ≤ t.b) && decide (t.b ≤ 1000) && decide (-1000 ≤ t.c) && decide (t.c ≤ 1000) && htB 2 t.q
theorem Zg2 {l : List QT} (h : okL l = true) : ∀ e, e ∈ l.map qe → e.t.tn ∧ e.ok 2 ∧ e.sm := fun e he => by
 obtain ⟨t, ht, rfl⟩ := List.mem_map.1 he
 have h := List.all_eq_true.1 h t ht
 simp only [Bool.and_eq_true, decide_eq_true_eq] at h
 have h1 : t.tn := by unfold QT.tn; omega
 exact ⟨h1, qe_ok (htB_ht h.2), h1.sm⟩
theorem okL_ht {l : List QT} (h : okL l = true) : ∀ t, t ∈ l → (qe t).sm ∧ Ht t.q 2 := fun t ht => by
 have h := List.all_eq_true.1 h t ht
 simp only [Bool.and_eq_true, decide_eq_true_eq] at h
 have h1 : t.tn := by unfold QT.tn; omega
 exact ⟨h1.sm, htB_ht h.2⟩
theorem kTidy {l r : List QT} (h : okL l = true) (hl : l.length ≤ 20) (e : (qnf l).map qtup = r.map qtup) : PC Tryz.prog 29 [.sl (PL l)] (.sl (PL r)) := by
 rw [← Zg0 e]
 exact Zge Zgx hl (by decide) (fun t ht => (okL_ht h t ht).1) (fun t ht => (okL_ht h t ht).2) (by decide) (by decide)
theorem kTimes {l m r : List QT} (h : okL l = true) (k : okL m = true) (hl : l.length * m.length ≤ 20) (h1 : l.length ≤ 20) (h2 : m.length ≤ 20) (e : (qnf (qml l m)).map qtup = r.map qtup) : PC Tryz.prog 44 [.sl (PL l), .sl (PL m)] (.sl (PL r)) := by
 rw [← Zg0 e]
 have c := qtimes_p Zgx (U := l.map qe) (V := m.map qe) (K := 2) (by simpa using hl) (by decide) (by simp; omega) (by simp; omega) (fun e he => (Zg2 h e he).1) (fun e he => (Zg2 k e he).1) (fun e he => (Zg2 h e he).2.1) (fun e he => (Zg2 k e he).2.1) (by decide) (by decide)
 rw [qe_map, qe_map] at c
 exact c
theorem kDerive {l r : List QT} (h : okL l = true) (hl : 6 * l.length ≤ 20) (e : (qnf (qdv l)).map qtup = r.map qtup) : PC Tryz.prog 47 [.sl (PL l)] (.sl (PL r)) := by
 rw [← Zg0 e]
 have c := qderive_p Zgx (U := l.map qe) (K := 2) (by simpa using hl) (by decide) (fun e he => (Zg2 h e he).1) (fun e he => (Zg2 h e he).2.1) (by decide) (by decide)
 rw [qe_map] at c
 exact c
theorem kScale {c : Rat} {l r : List QT} (hc : htB 2 c = true) (h : okL l = true) (hl : l.length ≤ 20) (e : (qnf (l.map (qsc c))).map qtup = r.map qtup) : PC Tryz.prog 50 [encQ c, .sl (PL l)] (.sl (PL r)) := by
 rw [← Zg0 e]
 have k := qscale_p Zgx (U := l.map qe) (K := 2) (Zap (htB_ht hc)) (by simpa using hl) (by decide) (fun e he => (Zg2 h e he).2.2) (fun e he => (Zg2 h e he).2.1) (by decide) (by decide)
 rw [qe_map] at k
 exact k
theorem kPure {l : List QT} {k : Int} (h : okL l = true) (hl : l.length ≤ 20) (e : purQ (l.map qe) = true ∧ topQ (l.map qe) = k) : PC Tryz.prog 39 [.sl (PL l)] (.tup [iV k, bV true]) := by
 have c := qpure_p (U := l.map qe) (by simp; omega) (fun e he => (Zg2 h e he).2.2)
 rw [e.1, e.2, if_pos rfl] at c
 exact c
theorem kValid {l : List QT} (hl : l.length ≤ 20) (h : ∀ t, t ∈ l → (qe t).vt) : PC Tryz.prog 38 [.sl (PL l)] (bV true) := by
 have c := qvalid_p (U := l.map qe) (by simp; omega)
 have hq : QV (l.map qe) := ⟨by simp; omega, fun e he => by obtain ⟨t, ht, rfl⟩ := List.mem_map.1 he; exact h t ht⟩
 rw [decide_eq_true hq] at c
 exact c
def qE4 : List QT := [⟨0, 1, 0, 1⟩]
def qE6 : List QT := [⟨0, 0, 1, 1⟩]
def qR1 : List QT := [⟨0, 0, 1, Rat.divInt (-1) 3⟩]
def qR2 : List QT := [⟨0, 0, 2, 2⟩, ⟨0, 3, 0, -2⟩]
theorem serre4_p : PC Tryz.prog 17 [.sl (PL qE4)] (.tup [.sl (PL qR1), iV 0]) := by
 have hv := kValid (l := qE4) (by decide) (fun t ht => by rw [List.mem_singleton.1 ht]; decide)
 have ht := kTidy (l := qE4) (r := qE4) (by decide +kernel) (by decide) (by decide +kernel)
 have hp := kPure (l := qE4) (k := 4) (by decide +kernel) (by decide) (by decide +kernel)
 have hf := qfrac_p (n := 0 - 4) (d := 12) (by decide) (by decide) (by decide)
 have hw := kTimes (l := qE4) (m := [⟨1, 0, 0, ((0 - 4 : Int) : Rat) / ((12 : Int) : Rat)⟩]) (r := [⟨1, 1, 0, Rat.divInt (-1) 3⟩]) (by decide +kernel) (by decide +kernel) (by decide) (by decide) (by decide) (by decide +kernel)
 have hd := kDerive (l := qE4) (r := [⟨0, 0, 1, Rat.divInt (-1) 3⟩, ⟨1, 1, 0, Rat.divInt 1 3⟩]) (by decide +kernel) (by decide) (by decide +kernel)
 have hc := concat_p ((([⟨0, 0, 1, Rat.divInt (-1) 3⟩, ⟨1, 1, 0, Rat.divInt 1 3⟩] : List QT)).map qe) (([⟨1, 1, 0, Rat.divInt (-1) 3⟩] : List QT).map qe) (by decide) (by decide)
 have hr := kTidy (l := [⟨0, 0, 1, Rat.divInt (-1) 3⟩, ⟨1, 1, 0, Rat.divInt 1 3⟩] ++ [⟨1, 1, 0, Rat.divInt (-1) 3⟩]) (r := qR1) (by decide +kernel) (by decide) (by decide +kernel)
 rw [← List.map_append] at hc
 exact qserre_core hv ht hp (by decide) (by decide) (by decide) hf hw hd hc hr
def fF : Nat → List QT
 | 0 => qE4
 | _ => [⟨0, 0, 1, Rat.divInt (-1) 3⟩, ⟨1, 1, 0, Rat.divInt 1 3⟩]
def fG : Nat → List QT
 | 0 => qE6
 | _ => [⟨0, 2, 0, Rat.divInt (-1) 2⟩, ⟨1, 0, 1, Rat.divInt 1 2⟩]
def fT : Nat → List QT
 | 0 => [⟨0, 3, 0, Rat.divInt (-1) 2⟩, ⟨1, 1, 1, Rat.divInt 1 2⟩]
 | _ => [⟨0, 0, 2, Rat.divInt (-1) 3⟩, ⟨1, 1, 1, Rat.divInt 1 3⟩]
def fS : Nat → List QT
 | 0 => [⟨0, 3, 0, -2⟩, ⟨1, 1, 1, 2⟩]
 | _ => [⟨0, 0, 2, 2⟩, ⟨1, 1, 1, -2⟩]
def fQ : Nat → Rat
 | 0 => 4
 | _ => -6
theorem Zdm {P : Nat → Prop} (h0 : P 0) (h1 : P 1) : ∀ r, r ≤ 1 → P r := fun r hr => by
 obtain rfl | rfl : r = 0 ∨ r = 1 := by omega
 ·exact h0
 ·exact h1
theorem one_case {P : Nat → Prop} (h0 : P 0) : ∀ r, r < 1 → P r := fun r hr => by
 obtain rfl : r = 0 := by omega
 exact h0
theorem bracket46_p : PC Tryz.prog 20 [.sl (PL qE4), .sl (PL qE6), iV 1] (.tup [.sl (PL qR2), iV 0]) := by
 have b4 := qbin_p (m := 4) (s := 1) (by decide) (by decide) (by decide)
 have b40 := qbin_p (m := 4) (s := 0) (by decide) (by decide) (by decide)
 have b60 := qbin_p (m := 6) (s := 0) (by decide) (by decide) (by decide)
 have b61 := qbin_p (m := 6) (s := 1) (by decide) (by decide) (by decide)
 have r1 := Zee 4 (by decide) (by decide)
 have r2 := Zee (-6) (by decide) (by decide)
 have hR := kTidy (l := fS 0 ++ fS 1) (r := qR2) (by decide +kernel) (by decide) (by decide +kernel)
 have hnu : ∀ l : List QT, l.length ≤ 20 → (∀ a, a ∈ PL l → a.cells.length = 7 ∧ ∀ c, c ∈ a.cells → c.nu = true) ∧ (PL l).length ≤ 100000 := fun l hl => ⟨fun a ha => ⟨av_cells _ a ha, av_nu _ a ha⟩, by rw [Zft]; omega⟩
 have e : (List.range (1 + 1)).flatMap (fun r => PL (fS r)) = PL (fS 0 ++ fS 1) := by simp [List.range_succ, PL]
 refine qbracket_core (n := 1) (by decide) (f := fun i => PL (fF i)) (g := fun i => PL (fG i)) (k := 4) (l := 6) (tm := fun r => PL (fT r)) (sc := fun r => PL (fS r)) (b1 := fun r => bnG 4 (1 - r)) (b2 := fun r => bnG 6 r) (q := fQ)
  (kValid (by decide) (fun t ht => by rw [List.mem_singleton.1 ht]; decide)) (kValid (by decide) (fun t ht => by rw [List.mem_singleton.1 ht]; decide))
  (kTidy (l := qE4) (r := qE4) (by decide +kernel) (by decide) (by decide +kernel)) (kTidy (l := qE6) (r := qE6) (by decide +kernel) (by decide) (by decide +kernel))
  (kPure (l := qE4) (k := 4) (by decide +kernel) (by decide) (by decide +kernel)) (kPure (l := qE6) (k := 6) (by decide +kernel) (by decide) (by decide +kernel))
  (by decide) (by decide) (by decide) (by decide) (by decide)
  (one_case (kDerive (l := qE4) (r := fF 1) (by decide +kernel) (by decide) (by decide +kernel))) (one_case (kDerive (l := qE6) (r := fG 1) (by decide +kernel) (by decide) (by decide +kernel)))
  (Zdm b4 b40) (Zdm b60 b61) (Zdm (by decide) (by decide)) (Zdm r1 r2)
  (Zdm (kTimes (l := fF 0) (m := fG 1) (r := fT 0) (by decide +kernel) (by decide +kernel) (by decide) (by decide) (by decide) (by decide +kernel)) (kTimes (l := fF 1) (m := fG 0) (r := fT 1) (by decide +kernel) (by decide +kernel) (by decide) (by decide) (by decide) (by decide +kernel)))
  (Zdm (kScale (c := fQ 0) (l := fT 0) (r := fS 0) (by decide +kernel) (by decide +kernel) (by decide) (by decide +kernel)) (kScale (c := fQ 1) (l := fT 1) (r := fS 1) (by decide +kernel) (by decide +kernel) (by decide) (by decide +kernel)))
  (Zdm (hnu _ (by decide)) (hnu _ (by decide))) (by rw [e]; exact hR)
set_option maxHeartbeats 8000000 in
theorem q38awake_p : PC Tryz.prog 8 [] (bV true) := by
 have t1 := term_p 0 1 0
 have t2 := term_p 0 0 1
 have c1 : PC Tryz.prog 17 [.sl (PL [⟨0, 1, 0, 1⟩])] _ := serre4_p
 have c2 : PC Tryz.prog 20 [.sl (PL [⟨0, 1, 0, 1⟩]), .sl (PL [⟨0, 0, 1, 1⟩]), iV 1] _ := bracket46_p
 have s1 := rsame38_p (l := qR1) (K := 2) (by decide) (fun t ht => (okL_ht (l := qR1) (by decide +kernel) t ht).2) (by decide)
 have s2 := rsame38_p (l := qR2) (K := 2) (by decide) (fun t ht => (okL_ht (l := qR2) (by decide +kernel) t ht).2) (by decide)
 have f1 := lfrac_p (n := -1) (d := 3) (by unfold Bn; omega) (by decide) (by unfold Bn; omega)
 have q1 := q_p 2 (by decide) (by decide)
 have q2 := q_p (-2) (by decide) (by decide)
 have s1 : PC Tryz.prog 18 [.sl (PL qR1), .sl [(qe ⟨0, 0, 1, Rat.divInt (-1) 3⟩).av]] (bV true) := s1
 have s2 : PC Tryz.prog 18 [.sl (PL qR2), .sl [(qe ⟨0, 0, 2, ((2 : Int) : Rat)⟩).av, (qe ⟨0, 3, 0, ((-2 : Int) : Rat)⟩).av]] (bV true) := s2
 generalize PL qR1 = R1 at *
 generalize PL qR2 = R2 at *
 generalize PL [⟨0, 1, 0, 1⟩] = A1 at *
 generalize PL [⟨0, 0, 1, 1⟩] = A2 at *
 generalize Rat.divInt (-1) 3 = x at *
 generalize ((2 : Int) : Rat) = y at *
 generalize ((-2 : Int) : Rat) = z at *
 refine Zam true Tryz.func8 rfl rfl rfl (Nat.le_of_ble_eq_true rfl) Zao.tmp ?_
 refine goA ?_
 refine evG ggA (Zab (Zaa rfl) rfl rfl t1) ?_
 refine evG ggA (Zab (Zaa rfl) rfl rfl c1) ?_
 refine goA ?_
 refine evG ggA (Zab (Zaa rfl) rfl rfl t1) ?_
 refine evG ggA (Zab (Zaa rfl) rfl rfl t2) ?_
 refine evG ggA (Zab (Zaa rfl) rfl rfl c2) ?_
 refine goA ?_
 refine evG ggA (Zab (Zaa rfl) rfl rfl f1) ?_
 refine goA ?_
 refine evG ggA (Za3 (Zaa rfl) (Zak rfl) rfl rfl rfl rfl (Zca rfl) (Nat.le_of_ble_eq_true rfl)) ?_
 refine evG ggA (Zab (Zaa rfl) rfl rfl s1) ?_
 refine goA ?_
 refine evG ggA (Zab (Zaa rfl) rfl rfl q1) ?_
 refine goA ?_
 refine evG ggA (Zab (Zaa rfl) rfl rfl q2) ?_
 refine goA ?_
 refine evG ggA (Za3 (Zaa rfl) (Zak rfl) rfl rfl rfl rfl (Zca rfl) (Nat.le_of_ble_eq_true rfl)) ?_
 refine evG ggA (Zab (Zaa rfl) rfl rfl s2) ?_
 refine goA ?_
 exact rfl
end Ab
