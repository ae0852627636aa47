/- Package ref33. -/
import Derived.Test.YtalcdpjpapojeaaGreatDoorRfD
import Derived.Test.YtalcdpjpapojeaaGreatDoorSerC
set_option linter.all false
namespace Ab
open Go Go.RowKit Go.Proofs Hp
set_option maxRecDepth 100000
theorem num_zero {q : Rat} : decide (q.num.natAbs = 0) = decide (q = 0) := by
 rw [decide_eq_decide]
 constructor
 ·intro h
  have h2 : q.num = 0 := oM
  exact Rat.num_eq_zero.1 h2
 ·intro h; rw [h]; rfl
theorem zero_p {a : AV} {k : Nat} {q : Rat} (h : IsV a k q) (hk : k ≤ 274877906944) : PC Tryz.prog 168 [a] (.p (.bool (decide (q = 0)))) := by
 have c : PC Tryz.prog 23 [a] (encQ q) := (Zca h hk).up
 obtain ⟨g, ds, g', ds', rfl⟩ := Zax h
 have e0 := dgs_len0 (n := q.num.natAbs)
 have e1 : (((dgs q.num.natAbs).map u32).length : Int) = ((dgs q.num.natAbs).length : Int) := by simp
 rw [← e1, num_zero] at e0
 rw [← e0]
 unfold encQ ci at c
 refine pb1 Tryz.func168 Zac.tmp ?_
 refine goA ?_
 refine clA c ?_
 refine evG ggA (ss_fld_agg (Zaa rfl) fg_num rfl rfl rfl) ?_
 refine evG ggA (ss_fld_one (Zaa rfl) fo_mag rfl rfl) ?_
 refine goA ?_
 exact rfl
theorem rprec_p {s : Int} {es : List AV} (h0 : -100 ≤ s) (h1 : s ≤ 1000) (h2 : (es.length : Int) ≤ 1000 - s) : PC Tryz.prog 144 [serA s es] (.p (.int .i64 (s + es.length))) := by
 refine pb1 Tryz.func144 Zac.tmp ?_
 refine goA ?_
 exact rfl
set_option maxHeartbeats 2000000 in
theorem rord_p {s : Int} {es : List AV} {l : List Rat} {K : Nat} (h : IsL es K l) (hK : K ≤ 274877906944) (h0 : -100 ≤ s) (h1 : s ≤ 1000) (h2 : (es.length : Int) ≤ 1000 - s) : PC Tryz.prog 143 [serA s es] (.p (.int .i64 (s + lead l))) := by
 have hle := h.get.1
 have cp := rprec_p h0 h1 h2
 refine pb1 Tryz.func143 Zac.tmp ?_
 refine r1A ?_
 refine T.seqI (fun s1 => lead l = es.length ∧ s1 = mkS [(1, .ptr 1 0)] [(1, .var [.v (iV s), .v (.sl es)])] 24 true) ?_ ?_
 ·refine r1A ?_
  refine T.block ?_
  refine T.loop (fun n s1 => ∃ i : Nat, n = es.length - i ∧ i ≤ es.length ∧ (∀ j, j < i → l[j]? = some 0) ∧ s1 = mkS [(1, .ptr 1 0), (3, .v (iV (i : Nat)))] [(1, .var [.v (iV s), .v (.sl es)])] 24 true) es.length
   (s' := mkS [(1, .ptr 1 0), (3, .v (iV (0 : Nat)))] [(1, .var [.v (iV s), .v (.sl es)])] 24 true) entA ⟨0, rfl, Nat.zero_le _, fun j hj => absurd hj (Nat.not_lt_zero _), rfl⟩ ?_
  rintro _ _ ⟨i, rfl, hi, hz, rfl⟩
  by_cases hlt : i < es.length
  ·have hb : decide ((i : Int) < (es.length : Int)) = true := by simp; omega
   obtain ⟨g, xs, g', xs', q, e1, e2, e3⟩ := h.at hlt
   have e1' : es[((i : Nat) : Int).toNat]? = some (.agg [.p (.bool g), .sl xs, .p (.bool g'), .sl xs']) := by rw [Int.toNat_natCast]; exact e1
   have cz := zero_p e3 hK
   by_cases hq : q = 0
   ·rw [decide_eq_true hq] at cz
    refine goA ?_
    refine ixG e1' ?_
    refine clG cz ?_
    exact Zab (k := es.length - (i + 1)) (s' := mkS [(1, .ptr 1 0), (3, .v (iV ((i : Int) + 1)))] [(1, .var [.v (iV s), .v (.sl es)])] 24 true) oM entA ⟨i + 1, rfl, hlt, fun j hj => by
     by_cases hji : j = i
     ·subst hji; rw [e2, hq]
     ·exact hz j oM, rfl⟩
   ·rw [decide_eq_false hq] at cz
    have hl : lead l = i := lead_eq hz (fun q' h' => by rw [e2] at h'; injection h' with h'; subst h'; exact hq) oM
    rw [hl]
    refine goA ?_
    refine ixG e1' ?_
    refine clG cz ?_
    exact rfl
  ·obtain rfl : i = es.length := oM
   have hb : decide ((es.length : Int) < (es.length : Int)) = false := by simp
   have hl : lead l = es.length := lead_eq hz (fun q' h' => by rw [List.getElem?_eq_none oM] at h'; cases h') oM
   refine goA ?_
   exact Zae (s' := mkS [(1, .ptr 1 0)] [(1, .var [.v (iV s), .v (.sl es)])] 24 true) entA ⟨hl, rfl⟩
 rintro _ ⟨hl, rfl⟩
 rw [hl]
 refine goA ?_
 refine clG cp ?_
 exact rfl
set_option maxHeartbeats 4000000 in
theorem Zey {s : Int} {es : List AV} {l : List Rat} {K : Nat} (h : IsL es K l) (hK : K ≤ 274877906944) (hs0 : -4611686018427387904 ≤ s) (hs1 : s ≤ 4611686018427387904) (hn : l.length ≤ 1000000) : PC Tryz.prog 141 [.p (.int .i64 s), .sl es] (serE (nrm s l)) := by
 have hlen := h.get.1
 rw [Zbm]
 refine pb2 Tryz.func141 (Zac.agg Zaj) Zac.tmp ?_
 refine r1A ?_
 refine T.seqE (mkS [(0, .v (iV s)), (1, .v (.sl es)), (4, .ptr 4 0), (6, .v (iV (s + es.length)))] [(4, var0)] 68 true) ?_ ?_
 ·refine goA ?_
  exact midE
 refine T.seqI (fun s1 => ∃ (es' : List AV) (P : Int), IsL es' K (ncut s l) ∧ P = Zdq s + (ncut s l).length ∧ (ncut s l ≠ [] → Zdq s = s) ∧ s1 = mkS [(0, .v (iV s)), (1, .v (.sl es')), (4, .ptr 4 0), (6, .v (iV P))] [(4, var0)] 68 true) ?_ ?_
 ·by_cases h1 : s + es.length > 1000
  ·have hb : decide (s + (es.length : Int) > 1000) = true := by simp; omega
   refine goA ?_
   refine evG ggA (Zek (Zaa rfl) (Zag rfl) rfl (Zfo h) rfl oM oM) ?_
   refine goA ?_
   refine Zae (s' := mkS [(0, .v (iV s)), (1, .v (.sl (es.take (max 0 (1000 - s)).toNat))), (4, .ptr 4 0), (6, .v (iV 1000))] [(4, var0)] 68 true) entA ⟨_, 1000, ?_, ?_, ?_, rfl⟩
   ·unfold ncut
    by_cases h2 : s > 1000
    ·rw [if_pos h2, show (max 0 (1000 - s)).toNat = 0 by omega]; exact trivial
    ·rw [if_neg h2, show (max 0 (1000 - s)).toNat = (1000 - s).toNat by omega]; exact h.take _
   ·unfold ncut Zdq
    by_cases h2 : s > 1000
    ·rw [if_pos h2, if_pos h2]; rfl
    ·rw [if_neg h2, if_neg h2, List.length_take]; omega
   ·unfold ncut Zdq
    by_cases h2 : s > 1000
    ·rw [if_pos h2]; intro h3; exact absurd rfl h3
    ·rw [if_neg h2, if_neg h2]; intro _; rfl
  ·have hb : decide (s + (es.length : Int) > 1000) = false := by simp; omega
   have h2 : ¬ s > 1000 := oM
   have hnc : ncut s l = l := by unfold ncut; rw [if_neg h2, List.take_of_length_le oM]
   have hnf : Zdq s = s := by unfold Zdq; rw [if_neg h2]
   refine goA ?_
   exact Zae (s' := mkS [(0, .v (iV s)), (1, .v (.sl es)), (4, .ptr 4 0), (6, .v (iV (s + es.length)))] [(4, var0)] 68 true) entA ⟨es, _, by rw [hnc]; exact h, by rw [hnc, hnf, hlen], fun _ => hnf, rfl⟩
 rintro _ ⟨es', P, hL, hP, hFs, rfl⟩
 have hF1 : Zdq s ≤ 1000 ∧ -4611686018427387904 ≤ Zdq s := by unfold Zdq; split <;> omega
 have hn2 : (ncut s l).length ≤ 1000000 := by unfold ncut; split; exact Nat.zero_le _; rw [List.length_take]; omega
 have hnrm : nrm s l = if Zdq s + lead (ncut s l) < -100 then none else some (Zdq s + lead (ncut s l), (ncut s l).drop (lead (ncut s l))) := rfl
 generalize ncut s l = c at *
 generalize Zdq s = F at *
 have hlen2 := hL.get.1
 clear h hlen
 refine r1A ?_
 refine T.seqE (mkS [(0, .v (iV s)), (1, .v (.sl es')), (4, .ptr 4 0), (6, .v (iV P)), (7, .v (iV (lead c)))] [(4, var0)] 68 true) ?_ ?_
 ·refine T.block ?_
  refine T.loop (fun n s1 => ∃ k : Nat, n = c.length - k ∧ k ≤ c.length ∧ (∀ i, i < k → c[i]? = some 0) ∧ s1 = mkS [(0, .v (iV s)), (1, .v (.sl es')), (4, .ptr 4 0), (6, .v (iV P)), (7, .v (iV k))] [(4, var0)] 68 true) c.length
   (s' := mkS [(0, .v (iV s)), (1, .v (.sl es')), (4, .ptr 4 0), (6, .v (iV P)), (7, .v (iV (0 : Nat)))] [(4, var0)] 68 true) entA ⟨0, rfl, Nat.zero_le _, fun i hi => absurd hi (Nat.not_lt_zero _), rfl⟩ ?_
  rintro n _ ⟨k, rfl, hk, hz, rfl⟩
  by_cases hlt : k < c.length
  ·have hb : decide ((k : Int) < (es'.length : Int)) = true := by simp; omega
   obtain ⟨g, ds, g', ds', q, he, hq, hv⟩ := hL.at (i := k) oM
   have he' : es'[((k : Nat) : Int).toNat]? = some (.agg [.p (.bool g), .sl ds, .p (.bool g'), .sl ds']) := by rw [Int.toNat_natCast]; exact he
   have cz := zero_p hv hK
   by_cases hq0 : q = 0
   ·rw [decide_eq_true hq0] at cz
    refine goA ?_
    refine ixG he' ?_
    refine clG cz ?_
    refine Zab (k := c.length - (k + 1)) (s' := mkS [(0, .v (iV s)), (1, .v (.sl es')), (4, .ptr 4 0), (6, .v (iV P)), (7, .v (iV ((k : Int) + 1)))] [(4, var0)] 68 true) oM entA ⟨k + 1, rfl, hlt, fun i hi => ?_, by simp⟩
    by_cases hik : i = k
    ·subst hik; rw [hq, hq0]
    ·exact hz i oM
   ·rw [decide_eq_false hq0] at cz
    have hlead : lead c = k := lead_eq hz (fun q' hq' => by rw [hq] at hq'; injection hq' with e; rw [← e]; exact hq0) hk
    refine goA ?_
    refine ixG he' ?_
    refine clG cz ?_
    exact Zae (s' := mkS [(0, .v (iV s)), (1, .v (.sl es')), (4, .ptr 4 0), (6, .v (iV P)), (7, .v (iV k))] [(4, var0)] 68 true) entA (by rw [hlead])
  ·obtain rfl : k = c.length := oM
   have hb : decide ((c.length : Int) < (es'.length : Int)) = false := by simp; omega
   have hlead : lead c = c.length := lead_eq hz (fun q' hq' => by simp at hq') hk
   refine goA ?_
   exact Zae (s' := mkS [(0, .v (iV s)), (1, .v (.sl es')), (4, .ptr 4 0), (6, .v (iV P)), (7, .v (iV (c.length : Nat)))] [(4, var0)] 68 true) entA (by rw [hlead])
 have hk := Zc2 c
 generalize nrm s l = R at *
 generalize lead c = k at *
 refine T.seqE (mkS [(0, .v (iV F)), (1, .v (.sl es')), (4, .ptr 4 0), (7, .v (iV k))] [(4, var0)] 68 true) ?_ ?_
 ·by_cases h1 : k = c.length
  ·have hb : ((k : Int) == (es'.length : Int)) = true := by simp; omega
   have e : P - (k : Int) = F := oM
   refine goA ?_
   exact Zae (s' := mkS [(0, .v (iV (P - (k : Int)))), (1, .v (.sl es')), (4, .ptr 4 0), (7, .v (iV k))] [(4, var0)] 68 true) entA (by rw [e])
  ·have hb : ((k : Int) == (es'.length : Int)) = false := by simp; omega
   have e : F = s := hFs (by intro e; subst e; simp at hk h1; exact h1 hk)
   rw [e]
   refine goA ?_
   exact midE
 by_cases h1 : F + (k : Int) < -100
 ·have hb : decide (F + (k : Int) < -100) = true := by simp; omega
  rw [if_pos h1] at hnrm
  subst hnrm
  refine goA ?_
  exact rfl
 have hb : decide (F + (k : Int) < -100) = false := by simp; omega
 rw [if_neg h1] at hnrm
 subst hnrm
 obtain ⟨L2, hL2⟩ : ∃ L2, L2 = c.drop k := ⟨_, rfl⟩
 have hl2 : L2.length + k = c.length := by rw [hL2, List.length_drop]; omega
 rw [← hL2]
 refine T.seqE (mkS [(0, .v (iV F)), (1, .v (.sl es')), (4, .ptr 4 0), (7, .v (iV k))] [(4, var0)] 68 true) ?_ ?_
 ·refine goA ?_
  exact midE
 refine T.seq ?_
 refine regA ?_
 refine stpA ?_
 refine stpA ?_
 refine stpA ?_
 refine evG ggA (ss_build_raw (Zaa rfl) (Zer rfl) rfl rfl rfl) ?_
 refine runA ?_
 refine Zao ?_
 refine Za1 ?_
 refine T.seqE (mkS [(4, .ptr 4 0), (8, .ptr 8 0)] [(4, var0), (8, .var [.v (iV (F + k)), .own 100 L2.length]), (100, .lst 4 39 (L2.map encQ))] 68 true) ?_ ?_
 ·refine r1A ?_
  refine T.block ?_
  refine T.loop (fun n s1 => ∃ j : Nat, n = L2.length - j ∧ j ≤ L2.length ∧ s1 = mkS [(1, .v (.sl es')), (4, .ptr 4 0), (8, .ptr 8 0), (9, .v (iV ((k : Int) + j)))] [(4, var0), (8, .var [.v (iV (F + k)), .own 100 j]), (100, .lst 4 39 ((L2.take j).map encQ))] 68 true) L2.length
   (s' := mkS [(1, .v (.sl es')), (4, .ptr 4 0), (8, .ptr 8 0), (9, .v (iV (k : Int)))] [(4, var0), (8, .var [.v (iV (F + k)), .own 100 0]), (100, .lst 4 39 [])] 68 true) entA ⟨0, rfl, Nat.zero_le _, by simp⟩ ?_
  rintro n _ ⟨j, rfl, hj, rfl⟩
  by_cases hlt : j < L2.length
  ·have hb : decide ((k : Int) + (j : Int) < (es'.length : Int)) = true := by simp; omega
   obtain ⟨g, ds, g', ds', q, he, hq, hv⟩ := hL.at (i := k + j) oM
   have he' : es'[((k : Int) + (j : Int)).toNat]? = some (.agg [.p (.bool g), .sl ds, .p (.bool g'), .sl ds']) := by rw [show ((k : Int) + (j : Int)).toNat = k + j by omega]; exact he
   have hq' : L2[j]? = some q := by rw [hL2, List.getElem?_drop]; exact hq
   have cn : PC Tryz.prog 23 _ (encQ q) := (Zca hv hK).up
   have htl : (L2.take j).length = j := by rw [List.length_take]; omega
   refine goA ?_
   refine ixG he' ?_
   refine clA cn ?_
   refine appA ?_
   refine goA ?_
   refine Zab (k := L2.length - (j + 1)) (s' := mkS [(1, .v (.sl es')), (4, .ptr 4 0), (8, .ptr 8 0), (9, .v (iV ((k : Int) + j + 1)))] [(4, var0), (8, .var [.v (iV (F + k)), .own 100 (j + 1)]), (100, .lst 4 39 ((L2.take j ++ [q]).map encQ))] 68 true) oM entA ⟨j + 1, rfl, hlt, by rw [take_succ hq', Int.natCast_succ, Int.add_assoc]⟩
  ·obtain rfl : j = L2.length := oM
   have hb : decide ((k : Int) + (L2.length : Int) < (es'.length : Int)) = false := by simp; omega
   refine goA ?_
   exact Zae (s' := mkS [(4, .ptr 4 0), (8, .ptr 8 0)] [(4, var0), (8, .var [.v (iV (F + k)), .own 100 L2.length]), (100, .lst 4 39 ((L2.take L2.length).map encQ))] 68 true) entA (by rw [List.take_length])
 have hel : (L2.map encQ).length = L2.length := by simp
 refine T.weak (s' := mkS [(4, .ptr 4 0), (8, .ptr 8 0)] [(4, var0), (8, .var [.v (iV (F + k)), .v (.sl (L2.map encQ))])] 68 true) entA ?_
 refine goA ?_
 exact rfl
end Ab
