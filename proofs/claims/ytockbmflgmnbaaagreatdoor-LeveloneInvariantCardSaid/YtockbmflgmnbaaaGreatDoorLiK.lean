/- A series as a polynomial in j: program and document agree. The gate of the statement. -/
import Derived.Test.YtockbmflgmnbaaaGreatDoorLiJ
import Derived.Test.YtockbmflgmnbaaaGreatDoorOCG
set_option linter.all false
namespace Ab
open Go Go.RowKit Go.Proofs Hp
set_option maxRecDepth 100000
theorem injB {s : Int} {es : List AV} {l : List Rat} (hr : InR s es.length) (h : IsL es 12 l) (hp : Zai s es.length = true → s + l.length ≤ 12 ∨ 900 < s + l.length) : ∃ (L : List Rat) (e : Int), (∀ q, q ∈ L → Ht q 104857600) ∧ L.length ≤ 1000 ∧ PC Tryz.prog 13 [serA s es] (.tup [.sl (L.map encQ), iV e]) ∧ PC Tryz.prog 14 [serA s es] (.tup [.sl (L.map encQ), iV e]) := by
  have hlen := h.get.1
  have hnor := normal_p (fun _ => h) hlen hr (by decide)
  have hchk := Zfu hr.lo hr.hi hr.len
  unfold norR at hnor
  rw [← hlen] at hnor
  cases hv : Zai s es.length with
  | false =>
    rw [hv] at hnor hchk
    exact ⟨[], 2, fun q hq => (by cases hq), by simp, inj_bad hnor, inj39_bad hchk⟩
  | true =>
  rw [hv] at hnor hchk
  have hp := hp hv
  obtain ⟨a0, a1, a2⟩ := Zan.1 hv
  have hht := Zb2 h (by decide)
  have hle := Zbt l
  have hnor : PC Tryz.prog 39 [serA s es] (.tup [serA (s + lead l) ((l.drop (lead l)).map encQ), iV 0]) := hnor
  have hchk : PC Tryz.prog 6 [serA s es] (iV 0) := hchk
  have hAl : ((l.drop (lead l)).map encQ).length = l.length - lead l := by simp
  have hvA : Zai (s + lead l) ((l.drop (lead l)).map encQ).length = true := Zan.2 ⟨by omega, by omega, by omega⟩
  have hprec := sprec_p (s := s + lead l) (es := (l.drop (lead l)).map encQ) ⟨by omega, by omega, by omega⟩
  rw [hvA, if_pos rfl, if_pos rfl, show s + (lead l : Int) + (((l.drop (lead l)).map encQ).length : Int) = s + l.length by omega] at hprec
  have hord := rord_p h (by decide) a0 a1 a2
  have hprc := Zd5 (es := es) a0 a1 a2
  rw [hlen] at hprc
  by_cases hL : lead l < l.length ∧ s + (lead l : Int) < -20
  · exact ⟨[], 7, fun q hq => (by cases hq), by simp, inj_large hL.2 (by omega) hnor, inj39_large ⟨hL.2, by omega⟩ hchk hord hprc⟩
  by_cases hP : ¬ (1 ≤ s + (l.length : Int) ∧ s + (l.length : Int) ≤ 900)
  · exact ⟨[], 17, fun q hq => (by cases hq), by simp, inj_prec (by omega) hP hnor hprec, inj39_prec (by omega) hP hchk hord hprc⟩
  have hP := Classical.not_not.1 hP
  obtain ⟨m, hm⟩ : ∃ m : Nat, max 0 (0 - (s + (lead l : Int))) = (m : Int) := ⟨(max 0 (0 - (s + (lead l : Int)))).toNat, by omega⟩
  obtain ⟨p, hpe⟩ : ∃ p : Int, p = s + l.length := ⟨_, rfl⟩
  rw [← hpe] at hprec hprc hP hp
  have hm20 : m ≤ 20 := by omega
  have hα : ∀ n, n < p → Ht (cf s l n) 12 := fun n _ => ht_cf (by decide) hht n
  have h0 : ∀ n, n < -(m : Int) → cf s l n = 0 := fun n hn => by
    rw [← Zfv s l (lead l) (Nat.le_refl _) n, Zc9 (by omega)]
  have o0 : Out (some (s + lead l, l.drop (lead l))) p (cf s l) (s + lead l) 12 := ⟨_, _, rfl, by omega, by rw [List.length_drop]; omega, by omega, Int.le_refl _, fun n _ => Zfv s l (lead l) (Nat.le_refl _) n, fun q hq => hht q (List.mem_of_mem_drop hq), lead_drop l⟩
  have e0 : xk (cf s l) m p 0 = some (s + lead l, l.drop (lead l)) := (out_mkX o0 (by omega) (by omega) h0).symm
  obtain ⟨N, hN⟩ : ∃ N : Nat, p + m = (N : Int) := ⟨(p + m).toNat, by omega⟩
  have hpeel := peelP (α := cf s l) (m := m) (N := N + 1) (p := p) hm20 (by omega) (by omega) (by omega) (by omega) hα h0
  rw [e0] at hpeel
  have hJ := jX (N := N) (by omega)
  rw [← hN] at hJ
  have hpk := pkL_ht hm20 (by omega) (by omega) hα (p := p)
  have hdl := pdg_le (pkL (cf s l) m)
  have hpl := pkL_len (cf s l) m
  have hdeg := degreeL_p (Zau hpk) (by decide) (by omega)
  have hdeg2 := rdegreeL_p (Zau hpk) (by decide) (by omega)
  have oe := xk_out (α := cf s l) (m := m) (p := p) (k := m + 1) hm20 (by omega) (by omega) hα h0 (Nat.le_refl _)
  obtain ⟨f2, f3, f4, f5, f6, f7, f8, f9⟩ := Zge oe
  obtain ⟨q, hq⟩ : ∃ q : Bool, decide ((((sL (xk (cf s l) m p (m + 1))).map encQ).length : Int) > 0) = q := ⟨_, rfl⟩
  have c1 := inj_core (m := m) (D := pdg (pkL (cf s l) m)) (A := (l.drop (lead l)).map encQ) (B := (sL (xk (cf s l) m p (m + 1))).map encQ) (out := (pkL (cf s l) m).map encQ) rfl hq
    (fun hA => ⟨by have := of_decide_eq_true hA; omega, by omega, hm⟩) (fun hA => by have := of_decide_eq_false hA; omega) ⟨hP.1, hP.2⟩ hm20 hnor hprec hJ hpeel hdeg (by rw [List.length_map]; exact hdl) (by rw [List.length_map]; omega) (fun x hx => by
      obtain ⟨r, -, rfl⟩ := List.mem_map.1 hx
      rfl)
  have hrp : RP (cf s l) m N p s es l := ⟨hm20, by omega, by omega, by omega, by omega, hα, h0, h, a0, hpe.symm, fun n _ => rfl⟩
  have hPw := powersP (n := m) (N := N) (p := p) hm20 ⟨by omega, by omega⟩ hN
  have hZ := zeros_p (m + 1) (by omega)
  rw [oZ_0 (ck (cf s l) m), show ((m + 1 : Nat) : Int) = (m : Int) + 1 by omega] at hZ
  have hoz : oZ (ck (cf s l) m) m (m + 1) = (pkL (cf s l) m).map encQ := oZ_end _ _
  have hord2 := rord_p (s := sF (xk (cf s l) m p (m + 1))) (Zau f7) (by have := rkH_le (k := m + 1) (by omega); omega) f2 (by omega) (by rw [List.length_map]; omega)
  rw [f8] at hord2
  have hq2 : decide (sF (xk (cf s l) m p (m + 1)) + ((0 : Nat) : Int) < p) = q := by
    rw [← hq, decide_eq_decide, List.length_map]
    omega
  rw [← hoz] at hdeg2
  have c2 := inj39_core (m := m) (D := pdg (pkL (cf s l) m)) hm20 (s := s) (o := s + lead l) (p := p) (es := es) (PL := jpA m N) (c := ck (cf s l) m) (aS := rS s (xk (cf s l) m p)) (aL := rL es (xk (cf s l) m p)) (pS := fun i => -((m - i : Nat) : Int)) (pL := fun i => (tk (pq jV (m - i)) N).map encQ) (qS := fun i => sF (tmk (cf s l) m N i)) (qL := fun i => (sL (tmk (cf s l) m N i)).map encQ)
    hP (by omega) (by omega) hm ⟨rfl, rfl⟩ hchk hord hprc hPw (fun i hi => jpA_at (by omega)) (fun i => by unfold encQ ci; exact ⟨_, _, _, _, rfl⟩) hZ (fun i hi => hrp.coef hi) (fun i hi => hrp.scl hi) (fun i hi => hrp.sub hi) hord2 hq2 hdeg2 (by omega)
  rw [hoz] at c2
  cases q with
  | true => exact ⟨[], 12, fun q hq => (by cases hq), by simp, c1, c2⟩
  | false =>
    rw [← List.map_take] at c1 c2
    exact ⟨(pkL (cf s l) m).take (pdg (pkL (cf s l) m)), 0, fun q hq => hpk q (List.mem_of_mem_take hq), by rw [List.length_take]; omega, c1, c2⟩
def big12 : AV → Bool
 | .agg [_, .sl ds, _, .sl ds'] => decide ((ds.length : Int) > 12) || decide ((ds'.length : Int) > 12)
 | _ => false
def grB (es : List AV) : Bool := decide (24 < es.length) || es.any big12
set_option maxHeartbeats 1000000 in
theorem great39_p (es : List AV) (hc : ∀ e, e ∈ es → C4 e) (hl : es.length ≤ 9223372036854775807) : PC Tryz.prog 4 [.sl es] (.p (.bool (grB es))) := by
 by_cases h1 : 24 < es.length
 ·have hb : decide ((es.length : Int) > 24) = true := by simp; omega
  have e : grB es = true := by unfold grB; simp [h1]
  rw [e]
  refine pb1 Tryz.func4 Zab.tmp ?_
  refine goA ?_
  exact rfl
 ·have hb : decide ((es.length : Int) > 24) = false := by simp; omega
  refine pb1 Tryz.func4 Zab.tmp ?_
  refine r1A ?_
  refine T.seqE (mkS [(0, .v (.sl es))] [] 31 true) ?_ ?_
  ·refine goA ?_
   exact midE
  refine T.seqI (fun s1 => grB es = false ∧ s1 = mkS [] [] 31 true) ?_ ?_
  ·refine r1A ?_
   refine T.block ?_
   refine T.loop (fun N s1 => ∃ j : Nat, N = es.length - j ∧ j ≤ es.length ∧ (∀ i e, i < j → es[i]? = some e → big12 e = false) ∧ s1 = mkS [(0, .v (.sl es)), (3, .v (iV j))] [] 31 true) es.length
    (s' := mkS [(0, .v (.sl es)), (3, .v (iV (0 : Nat)))] [] 31 true) entA ⟨0, rfl, Nat.zero_le _, fun i e hi => absurd hi (Nat.not_lt_zero _), rfl⟩ ?_
   rintro _ _ ⟨j, rfl, hj, hz, rfl⟩
   by_cases hlt : j < es.length
   ·have hb1 : decide ((j : Int) < (es.length : Int)) = true := by simp; omega
    obtain ⟨g, ds, g', ds', hE⟩ := hc es[j] (List.getElem_mem hlt)
    have he : es[j]? = some (.agg [.p (.bool g), .sl ds, .p (.bool g'), .sl ds']) := by rw [List.getElem?_eq_getElem hlt, hE]
    by_cases h2 : ds.length > 12
    ·have hb2 : decide ((ds.length : Int) > 12) = true := by simp; omega
     have e : grB es = true := by
      unfold grB
      have : es.any big12 = true := List.any_eq_true.2 ⟨es[j], List.getElem_mem hlt, by rw [hE]; simp only [big12, hb2, Bool.true_or]⟩
      rw [this, Bool.or_true]
     rw [e]
     refine goA ?_
     refine ixG he ?_
     exact rfl
    ·have hb2 : decide ((ds.length : Int) > 12) = false := by simp; omega
     by_cases h3 : ds'.length > 12
     ·have hb3 : decide ((ds'.length : Int) > 12) = true := by simp; omega
      have e : grB es = true := by
       unfold grB
       have : es.any big12 = true := List.any_eq_true.2 ⟨es[j], List.getElem_mem hlt, by rw [hE]; simp only [big12, hb3, Bool.or_true]⟩
       rw [this, Bool.or_true]
      rw [e]
      refine goA ?_
      refine ixG he ?_
      refine ixG he ?_
      exact rfl
     ·have hb3 : decide ((ds'.length : Int) > 12) = false := by simp; omega
      refine goA ?_
      refine ixG he ?_
      refine ixG he ?_
      refine Zac (k := es.length - (j + 1)) (s' := mkS [(0, .v (.sl es)), (3, .v (iV ((j : Int) + 1)))] [] 31 true) (by omega) entA ⟨j + 1, rfl, hlt, fun i e hi h => ?_, by simp⟩
      by_cases hij : i = j
      ·subst hij
       rw [he] at h
       injection h with h
       subst h
       simp only [big12, hb2, hb3, Bool.or_self]
      ·exact hz i e (by omega) h
   ·have hb1 : decide ((j : Int) < (es.length : Int)) = false := by simp; omega
    have e : grB es = false := by
     unfold grB
     have : es.any big12 = false := by
      rw [List.any_eq_false]
      intro x hx
      obtain ⟨i, hi, rfl⟩ := List.getElem_of_mem hx
      rw [hz i es[i] (by omega) (List.getElem?_eq_getElem hi)]
      simp
     rw [this, Bool.or_false]
     simpa using h1
    refine goA ?_
    exact Zae (s' := mkS [] [] 31 true) entA ⟨e, rfl⟩
  rintro _ ⟨e, rfl⟩
  rw [e]
  refine goA ?_
  exact rfl
theorem c4_rawX {R : List RQ} : ∀ e, e ∈ R.map rawA → C4 e := fun e he => by
 obtain ⟨r, -, rfl⟩ := List.mem_map.1 he
 exact ⟨_, _, _, _, rfl⟩
theorem isL_gr {R : List RQ} (hd : ∀ r, r ∈ R → DigR r) (h : grB (R.map rawA) = false) : IsL (R.map rawA) 12 (R.map ratO) ∧ R.length ≤ 24 := by
 unfold grB at h
 rw [Bool.or_eq_false_iff] at h
 obtain ⟨h1, h2⟩ := h
 refine ⟨isL_raw fun r hr => ⟨hd r hr, ?_⟩, by simpa using h1⟩
 have := List.any_eq_false.1 h2 (rawA r) (List.mem_map.2 ⟨r, hr, rfl⟩)
 unfold rawA big12 at this
 simp only [List.length_map, Bool.or_eq_true, decide_eq_true_eq, not_or] at this
 omega
end Ab
