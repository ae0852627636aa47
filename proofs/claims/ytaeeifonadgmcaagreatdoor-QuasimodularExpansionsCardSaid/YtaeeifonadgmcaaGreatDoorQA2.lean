/- Expansions of polynomials in E2, E4, E6: sums of listed series; the statement QuasimodularExpansions: its walk. Polynomials in E2, E4, E6 among the arguments, opened: from data to abstract values. -/
import Derived.Test.YtaeeifonadgmcaaGreatDoorQeD
import Derived.Test.YtaeeifonadgmcaaGreatDoorQD
import Derived.Test.YtaeeifonadgmcaaGreatDoorOCG
import Derived.Test.YtaeeifonadgmcaaGreatDoorLc
import Derived.Test.YtaeeifonadgmcaaGreatDoorLd
import Derived.Test.YtaeeifonadgmcaaGreatDoorLe
import Derived.Test.YtaeeifonadgmcaaGreatDoorLx
import Derived.Test.YtaeeifonadgmcaaGreatDoorFL
set_option linter.all false
namespace Ab
open Go Go.RowKit Go.Proofs Hp
set_option maxRecDepth 100000
def xstep (P : Nat) (acc : Int × List Rat) (t : QT) : Int × List Rat := (Zft acc.1 acc.2 0 (tk (qX t.q (qW t)) P) 1).getD (0, [])
def xS (P : Nat) (A : List QT) : Int × List Rat := A.foldl (xstep P) ((P : Int), [])
def okXP (P K : Nat) (a : Int × List Rat) : Prop := 0 ≤ a.1 ∧ a.1 + (a.2.length : Nat) = P ∧ ∀ q, q ∈ a.2 → Ht q K
theorem comb_okXP {P K : Nat} {a : Int × List Rat} {g : Nat → Rat} (h : okXP P K a) (hK : 1 ≤ K) (hg : ∀ i, i < P → Ht (g i) K) (hP : P ≤ 12) : ∃ r, Zft a.1 a.2 0 (tk g P) 1 = some r ∧ okXP P (2 * K + 2) r := by
 obtain ⟨s, l⟩ := a
 obtain ⟨h0, h1, h2⟩ := h
 simp only at h0 h1 h2
 have hc : cfr s l.length 0 (tk g P).length = 0 := by rw [tk_len]; unfold cfr cp; omega
 have hp : cp s l.length 0 (tk g P).length = P := by rw [tk_len]; unfold cp; omega
 have e : Zft s l 0 (tk g P) 1 = nrm 0 (tk (comb s l 0 (tk g P) 1) P) := by
  unfold Zft
  rw [Zbc.2 ⟨by omega, by omega, by omega⟩, Zer (by decide) (by omega), hc, hp]
  rw [show ((P : Int) - 0).toNat = P by omega]
  rfl
 have hht : ∀ q, q ∈ tk (comb s l 0 (tk g P) 1) P → Ht q (2 * K + 2) := fun q hq => by
  obtain ⟨i, -, rfl⟩ := Zfi hq
  exact sht_comb hK h2 (ht_tk hg) (by decide) i
 have hml : (tk (comb s l 0 (tk g P) 1) P).length = P := tk_len _ _
 generalize tk (comb s l 0 (tk g P) 1) P = m at *
 have hle := Zck m
 refine ⟨_, by rw [e, Zdz (by decide) (by decide) (by omega)], ?_, ?_, fun q hq => hht q (List.mem_of_mem_drop hq)⟩
 ·show (0 : Int) ≤ 0 + (lead m : Nat)
  omega
 ·show (0 : Int) + (lead m : Nat) + ((m.drop (lead m)).length : Nat) = P
  rw [List.length_drop, hml]
  omega
def KK : Nat → Nat
 | 0 => 94
 | n + 1 => 2 * KK n + 2
theorem KK_ge : ∀ n, 94 ≤ KK n
 | 0 => Nat.le_refl _
 | n + 1 => by have := KK_ge n; rw [KK]; omega
theorem KK_le : ∀ n, n ≤ 8 → KK n ≤ 30000 := by decide
structure TermsOK (L : List QT) : Prop where
 ne : ∀ t, t ∈ L → t.q ≠ 0
 ht : ∀ t, t ∈ L → Ht t.q 33
 ex : ∀ t, t ∈ L → 0 ≤ t.a ∧ 0 ≤ t.b ∧ 0 ≤ t.c ∧ t.a + t.b + t.c ≤ 30
 len : L.length ≤ 8
theorem qW_len {t : QT} (h : 0 ≤ t.a ∧ 0 ≤ t.b ∧ 0 ≤ t.c ∧ t.a + t.b + t.c ≤ 30) : (qW t).length ≤ 30 := by
 unfold qW
 simp only [List.length_append, List.length_replicate]
 omega
theorem part_ht {t : QT} {l : List Nat} {P i : Nat} (ht : Ht t.q 33) (hl : Zc0 l) (hll : l.length ≤ 30) (hP : P ≤ 12) (hi : i < P) : Ht (qX t.q l i) 94 := qX_ht (by decide) ht hl hll (by omega)
theorem xS_fold {P : Nat} (hP : P ≤ 12) : ∀ (A : List QT) (a : Int × List Rat) (n : Nat), okXP P (KK n) a → (∀ t, t ∈ A → Ht t.q 33 ∧ (qW t).length ≤ 30) → okXP P (KK (n + A.length)) (A.foldl (xstep P) a)
  | [], a, n, h, _ => h
  | t :: A, a, n, h, ht => by
    obtain ⟨h1, h2⟩ := ht t (List.mem_cons_self ..)
    obtain ⟨r, e, hr⟩ := comb_okXP (g := qX t.q (qW t)) h (by have := KK_ge n; omega) (fun i hi => (part_ht h1 (qW_all t) h2 hP hi).mono (KK_ge n)) hP
    have hx : xstep P a t = r := by unfold xstep; rw [e]; rfl
    rw [List.foldl_cons, hx, List.length_cons, show n + (A.length + 1) = (n + 1) + A.length by omega]
    exact xS_fold hP A r (n + 1) hr fun u hu => ht u (List.mem_cons_of_mem _ hu)
theorem xS_0 (P : Nat) : okXP P (KK 0) ((P : Int), []) := ⟨by simp, by simp, fun q h => (by cases h)⟩
theorem xS_ok {P : Nat} (hP : P ≤ 12) {A : List QT} (hA : A.length ≤ 8) (ht : ∀ t, t ∈ A → Ht t.q 33 ∧ (qW t).length ≤ 30) : okXP P 30000 (xS P A) := by
 have h := xS_fold hP A _ 0 (xS_0 P) ht
 rw [Nat.zero_add] at h
 exact ⟨h.1, h.2.1, fun q hq => (h.2.2 q hq).mono (KK_le _ hA)⟩
theorem xS_step {P : Nat} (hP : P ≤ 12) {A : List QT} {t : QT} (hA : A.length ≤ 8) (ht : ∀ u, u ∈ A ++ [t] → Ht u.q 33 ∧ (qW u).length ≤ 30) : Zft (xS P A).1 (xS P A).2 0 (tk (qX t.q (qW t)) P) 1 = some (xS P (A ++ [t])) := by
 have h := xS_ok hP hA fun u hu => ht u (List.mem_append_left _ hu)
 obtain ⟨h1, h2⟩ := ht t (by simp)
 obtain ⟨r, e, -⟩ := comb_okXP (g := qX t.q (qW t)) h (by decide) (fun i hi => (part_ht h1 (qW_all t) h2 hP hi).mono (by decide)) hP
 have hx : xstep P (xS P A) t = r := by unfold xstep; rw [e]; rfl
 have hf : xS P (A ++ [t]) = xstep P (xS P A) t := by unfold xS; rw [List.foldl_append]; rfl
 rw [e, hf, hx]
theorem mon_tk {c : Rat} (hc : c ≠ 0) {P : Nat} (hP : P ≤ 1000) : monR c 0 P = some (0, tk (qX c []) P) := by
 unfold monR
 rw [show MV 0 P = true by unfold MV; simp; omega, if_pos rfl]
 by_cases h0 : P = 0
 ·subst h0
  rfl
 ·rw [if_neg (by omega)]
  obtain ⟨k, rfl⟩ : ∃ k, P = k + 1 := ⟨P - 1, by omega⟩
  have e : c :: List.replicate ((((k + 1 : Nat) : Int) - 0).toNat - 1) 0 = tk (qX c []) (k + 1) := by
   rw [qX_nil, tk_cons]
   congr 1
   exact (List.eq_replicate_iff.2 ⟨by rw [tk_len]; omega, fun b hb => by obtain ⟨i, -, rfl⟩ := Zfi hb; rfl⟩).symm
  rw [e]
  exact nrm_tk (by rw [qX_nil]; exact hc) (by decide) (by omega)
theorem lead_rep : ∀ n, lead (List.replicate n (0 : Rat)) = n
 | 0 => rfl
 | n + 1 => by rw [List.replicate_succ, lead, if_pos rfl, lead_rep n]
theorem mon_zero {P : Nat} (hP : P ≤ 1000) : monR 0 0 P = some ((P : Int), []) := by
 unfold monR
 rw [show MV 0 P = true by unfold MV; simp; omega, if_pos rfl]
 by_cases h0 : P = 0
 ·subst h0
  rfl
 ·rw [if_neg (by omega)]
  have e : (0 : Rat) :: List.replicate (((P : Int) - 0).toNat - 1) 0 = List.replicate P 0 := by
   rw [← List.replicate_succ]
   congr 1
   omega
  rw [e, Zdz (by decide) (by decide) (by rw [List.length_replicate]; omega), lead_rep, List.drop_replicate]
  simp
section
variable {L : List QT} {P : Nat}
abbrev xE (P k : Nat) : List AV := (eiL k P).map encQ
abbrev xF (P : Nat) (q : Rat) (l : List Nat) : List AV := (tk (qX q l) P).map encQ
abbrev xV (P : Nat) (A : List QT) : Int × List AV := ((xS P A).1, (xS P A).2.map encQ)
theorem terms_pre (h : TermsOK L) {A B : List QT} {t : QT} (e : L = A ++ t :: B) : A.length ≤ 8 ∧ ∀ u, u ∈ A ++ [t] → Ht u.q 33 ∧ (qW u).length ≤ 30 := by
 have hl := h.len
 rw [e] at hl
 simp only [List.length_append, List.length_cons] at hl
 refine ⟨by omega, fun u hu => ?_⟩
 have hu : u ∈ L := by
  rw [e]
  rcases List.mem_append.1 hu with hu | hu
  ·exact List.mem_append_left _ hu
  ·rw [List.mem_singleton.1 hu]; simp
 exact ⟨h.ht u hu, qW_len (h.ex u hu)⟩
theorem both_add (h : TermsOK L) (hP : P ≤ 12) {A B : List QT} {t : QT} (e : L = A ++ t :: B) : Both (xS P A).1 ((xS P A).2.map encQ) 0 ((tk (qX t.q (qW t)) P).map encQ) 30000 (xS P A).2 (tk (qX t.q (qW t)) P) := by
 obtain ⟨h1, h2⟩ := terms_pre h e
 obtain ⟨h3, h4, h5⟩ := xS_ok hP h1 fun u hu => h2 u (List.mem_append_left _ hu)
 obtain ⟨h6, h7⟩ := h2 t (by simp)
 refine ⟨fun _ _ => ⟨Zcq h5, Zcq (ht_tk fun i hi => (part_ht h6 (qW_all t) h7 hP hi).mono (by decide))⟩, by simp, by simp, ⟨by omega, by omega, by rw [List.length_map]; omega⟩, inR_tk (by decide) (by decide) (by omega)⟩
set_option maxHeartbeats 4000000 in
theorem pexp_p {X : List AV} (h : TermsOK L) (hP : P ≤ 12) (hv : PC Tryz.prog 21 [.sl X] (bV true)) (ht : PC Tryz.prog 25 [.sl X] (.sl (PL L))) : PC Tryz.prog 7 [.sl X, iV (P : Nat)] (.tup [.agg [iV (xS P L).1, .sl ((xS P L).2.map encQ)], iV 0]) := by
 have c0 := Zfn 0 (by decide) (by decide)
 have m0 := monomial_p (a := encQ 0) (c := 0) (K := 1) (n := 0) (p := P) (Zaj (ht0 (by decide))) (by decide)
 rw [mon_zero (by omega)] at m0
 refine pexp_core (Ef := xE P) (Ff := xF P) (Sf := xV P) (by omega) (by have := h.len; omega) hv ht c0 m0 (enorm_p bq_ok (k := 2) rfl (by omega)) (enorm_p bq_ok (k := 4) rfl (by omega)) (enorm_p bq_ok (k := 6) rfl (by omega)) h.ex (fun t ht => ?_) (fun t ht l k hl hk hll => ?_) (fun A t B e => ?_)
 ·have m := monomial_p (a := encQ t.q) (c := t.q) (K := 33) (n := 0) (p := P) (Zaj (h.ht t ht)) (by decide)
  rw [mon_tk (h.ne t ht) (by omega)] at m
  exact m
 ·have c := smul_tk (s := 0) (t := 0) (f := qX t.q l) (g := eiV k) (n := P) (m := P) (K := 94) (by decide) (by decide) (qX_0 (h.ne t ht) hl) (eiV_ne (w246_ok hk)) (fun i hi => part_ht (h.ht t ht) hl (by omega) hP hi) (fun i hi => (ei_ht (w246_ok hk) (by omega)).1.mono (by decide)) (by decide) (by decide) (by decide) (by decide) (by omega) (by omega)
  rw [qX_cons, Nat.min_self] at c
  exact c
 ·have c := add_p (both_add h hP e) (by decide)
  obtain ⟨h1, h2⟩ := terms_pre h e
  rw [xS_step hP h1 h2] at c
  exact c
set_option maxHeartbeats 4000000 in
theorem rexp_p (h : TermsOK L) (hP : P ≤ 12) : PC Tryz.prog 29 [.sl (PL L), iV (P : Nat)] (.agg [iV (xS P L).1, .sl ((xS P L).2.map encQ)]) := by
 refine rexp_core (Ef := xE P) (Ff := xF P) (Sf := xV P) (by omega) (by have := h.len; omega) (empty_p' P) (rnorm34_p (k := 2) rfl (by omega)) (rnorm34_p (k := 4) rfl (by omega)) (rnorm34_p (k := 6) rfl (by omega)) h.ex (fun t ht => ?_) (fun t ht l k hl hk hll => ?_) (fun t ht l hl hll => ?_) (fun A t B e => ?_)
 ·have m := rmonomial_p (a := encQ t.q) (c := t.q) (K := 33) (n := 0) (p := P) (Zaj (h.ht t ht)) (by decide)
  rw [mon_tk (h.ne t ht) (by omega)] at m
  exact m
 ·have c := rmul33_p (M := 100) (both_tk (s := 0) (t := 0) (f := qX t.q l) (g := eiV k) (n := P) (m := P) (K := 94) (fun i hi => part_ht (h.ht t ht) hl (by omega) hP hi) (fun i hi => (ei_ht (w246_ok hk) (by omega)).1.mono (by decide)) (by decide) (by decide) (by decide) (by decide) (by omega) (by omega)) (by decide) (by decide) (by decide) (fun _ => by rw [tkE]; omega)
  rw [mulR_tk (qX_0 (h.ne t ht) hl) (eiV_ne (w246_ok hk)) (by decide) (by decide) (by omega) (by omega) (by decide) (by omega), qX_cons, Nat.min_self] at c
  exact c
 ·have c := rcut_p (s := 0) (p := P) (es := (tk (qX t.q l) P).map encQ) (l := tk (qX t.q l) P) (K := 94) (Zcq (ht_tk fun i hi => part_ht (h.ht t ht) hl hll hP hi)) (by decide) (by rw [List.length_map]; exact Zer (by decide) (by omega)) (by omega) (by omega)
  rw [cutR_tk (qX_0 (h.ne t ht) hl) (by decide) (by omega) (by omega), show min P ((P : Int) - 0).toNat = P by omega] at c
  exact c
 ·have c := radd33_p (both_add h hP e) (by decide)
  obtain ⟨h1, h2⟩ := terms_pre h e
  rw [xS_step hP h1 h2] at c
  exact c
end
theorem qn_ne : ∀ {p : List QT}, QN p → ∀ t, t ∈ p → t.q ≠ 0
  | [], _, t, h => by cases h
  | u :: p, hn, t, h => by
    rcases List.mem_cons.1 h with rfl | h
    · exact hn.1
    · exact qn_ne hn.2.2 t h
theorem terms_ok {U : List QE} (hQ : QV U) (h8 : U.length ≤ 8) (ho : ∀ e, e ∈ U → e.ok 3) : TermsOK (qnf (U.map QE.t)) := by
 have hk : ∀ t, t ∈ qnf (U.map QE.t) → 0 ≤ t.a ∧ 0 ≤ t.b ∧ 0 ≤ t.c ∧ t.a + t.b + t.c ≤ 30 := fun t ht => by
  obtain ⟨u, hu, e⟩ := qnf_key ht
  obtain ⟨x, hx, rfl⟩ := List.mem_map.1 hu
  have hv := hQ.2 x hx
  unfold QE.vt QE.w at hv
  simp only [QT.k, QE.t, Prod.mk.injEq] at e
  omega
 refine ⟨qn_ne (qnf_n _), fun t ht => ?_, hk, Nat.le_trans (qnf_len _) (by rw [List.length_map]; exact h8)⟩
 refine (qnf_ht (K := 3) (by decide) (fun u hu => ?_) t ht).mono (by rw [List.length_map]; omega)
 obtain ⟨x, hx, rfl⟩ := List.mem_map.1 hu
 exact Zc4 (ho x hx) (by decide)
theorem pexp_bad {X : List AV} {p : Int} (hv : PC Tryz.prog 21 [.sl X] (bV false)) : PC Tryz.prog 7 [.sl X, iV p] (.tup [.agg [iV 0, .sl []], iV 2]) := by
 refine Zam true Tryz.func7 rfl rfl rfl (Nat.le_of_ble_eq_true rfl) (Zah.agg Zav) Zah.tmp ?_
 refine goA ?_
 refine evG ggA (Zab (Zaa rfl) rfl rfl hv) ?_
 refine goA ?_
 exact rfl
theorem pexp_range {X : List AV} {p : Int} (hv : PC Tryz.prog 21 [.sl X] (bV true)) (hp : p < 0 ∨ p > 1000) : PC Tryz.prog 7 [.sl X, iV p] (.tup [.agg [iV 0, .sl []], iV 2]) := by
 by_cases h0 : p < 0
 ·have b1 : decide (p < 0) = true := decide_eq_true h0
  refine Zam true Tryz.func7 rfl rfl rfl (Nat.le_of_ble_eq_true rfl) (Zah.agg Zav) Zah.tmp ?_
  refine goA ?_
  refine evG ggA (Zab (Zaa rfl) rfl rfl hv) ?_
  refine goA ?_
  exact rfl
 ·have b1 : decide (p < 0) = false := decide_eq_false h0
  have b2 : decide (p > 1000) = true := decide_eq_true (by omega)
  refine Zam true Tryz.func7 rfl rfl rfl (Nat.le_of_ble_eq_true rfl) (Zah.agg Zav) Zah.tmp ?_
  refine goA ?_
  refine evG ggA (Zab (Zaa rfl) rfl rfl hv) ?_
  refine goA ?_
  exact rfl
theorem rexp_bad {X : List AV} {p : Int} (hc : PC Tryz.prog 28 [.sl X] (iV 2)) : PC Tryz.prog 8 [.sl X, iV p] (.tup [.agg [iV 0, .sl []], iV 2]) := by
 refine Zam true Tryz.func8 rfl rfl rfl (Nat.le_of_ble_eq_true rfl) (Zah.agg Zav) Zah.tmp ?_
 refine goA ?_
 refine evG ggA (Zab (Zaa rfl) rfl rfl hc) ?_
 refine goA ?_
 exact rfl
theorem rexp_range {X : List AV} {p : Int} (hc : PC Tryz.prog 28 [.sl X] (iV 0)) (hp : p < 0 ∨ p > 1000) : PC Tryz.prog 8 [.sl X, iV p] (.tup [.agg [iV 0, .sl []], iV 2]) := by
 by_cases h0 : p < 0
 ·have b1 : decide (p < 0) = true := decide_eq_true h0
  refine Zam true Tryz.func8 rfl rfl rfl (Nat.le_of_ble_eq_true rfl) (Zah.agg Zav) Zah.tmp ?_
  refine goA ?_
  refine evG ggA (Zab (Zaa rfl) rfl rfl hc) ?_
  refine goA ?_
  exact rfl
 ·have b1 : decide (p < 0) = false := decide_eq_false h0
  have b2 : decide (p > 1000) = true := decide_eq_true (by omega)
  refine Zam true Tryz.func8 rfl rfl rfl (Nat.le_of_ble_eq_true rfl) (Zah.agg Zav) Zah.tmp ?_
  refine goA ?_
  refine evG ggA (Zab (Zaa rfl) rfl rfl hc) ?_
  refine goA ?_
  exact rfl
theorem rexp_ok {X Y l : List AV} {s p : Int} (h0 : 0 ≤ p) (h1 : p ≤ 1000) (hc : PC Tryz.prog 28 [.sl X] (iV 0)) (hn : PC Tryz.prog 30 [.sl X] (.sl Y)) (hx : PC Tryz.prog 29 [.sl Y, iV p] (.agg [iV s, .sl l])) : PC Tryz.prog 8 [.sl X, iV p] (.tup [.agg [iV s, .sl l], iV 0]) := by
 have b1 : decide (p < 0) = false := decide_eq_false (by omega)
 have b2 : decide (p > 1000) = false := decide_eq_false (by omega)
 refine Zam true Tryz.func8 rfl rfl rfl (Nat.le_of_ble_eq_true rfl) (Zah.agg Zav) Zah.tmp ?_
 refine goA ?_
 refine evG ggA (Zab (Zaa rfl) rfl rfl hc) ?_
 refine goA ?_
 refine evG ggA (Zab (Zaa rfl) rfl rfl hn) ?_
 refine goA ?_
 refine evG ggA (Zab (Zaa rfl) rfl rfl hx) ?_
 refine goA ?_
 exact rfl
theorem Zgu {X l : List AV} {p s e : Int} (hg : PC Tryz.prog 5 [.sl X] (bV false)) (hp : ¬ (p > 12 ∧ p ≤ 1000)) (hx : PC Tryz.prog 7 [.sl X, iV p] (.tup [.agg [iV s, .sl l], iV e])) (hy : PC Tryz.prog 8 [.sl X, iV p] (.tup [.agg [iV s, .sl l], iV e]))
  (hs : PC Tryz.prog 9 [.agg [iV s, .sl l], .agg [iV s, .sl l]] (bV true)) : PC Tryz.prog 3 [.sl X, iV p] (bV true) := by
 have aw := q38awake_p
 have ee : (e == e) = true := by simp
 by_cases h1 : p > 12
 ·have b1 : decide (p > 12) = true := decide_eq_true h1
  have b2 : decide (p ≤ 1000) = false := decide_eq_false (by omega)
  refine Zag true Tryz.func3 rfl rfl rfl (Nat.le_of_ble_eq_true rfl) Zah.tmp ?_
  refine goA ?_
  refine evG ggA (Zab (Zaa rfl) rfl rfl hg) ?_
  refine goA ?_
  refine evG ggA (Zab (Zaa rfl) rfl rfl hx) ?_
  refine goA ?_
  refine evG ggA (Zab (Zaa rfl) rfl rfl hy) ?_
  refine goA ?_
  refine evG ggA (Zab (Zaa rfl) rfl rfl hs) ?_
  refine goA ?_
  refine evG ggA (Zab (Zaa rfl) rfl rfl aw) ?_
  refine goA ?_
  exact rfl
 ·have b1 : decide (p > 12) = false := decide_eq_false h1
  refine Zag true Tryz.func3 rfl rfl rfl (Nat.le_of_ble_eq_true rfl) Zah.tmp ?_
  refine goA ?_
  refine evG ggA (Zab (Zaa rfl) rfl rfl hg) ?_
  refine goA ?_
  refine evG ggA (Zab (Zaa rfl) rfl rfl hx) ?_
  refine goA ?_
  refine evG ggA (Zab (Zaa rfl) rfl rfl hy) ?_
  refine goA ?_
  refine evG ggA (Zab (Zaa rfl) rfl rfl hs) ?_
  refine goA ?_
  refine evG ggA (Zab (Zaa rfl) rfl rfl aw) ?_
  refine goA ?_
  exact rfl
theorem lexp_great {X : List AV} {p : Int} (hg : PC Tryz.prog 5 [.sl X] (bV true)) : PC Tryz.prog 3 [.sl X, iV p] (bV true) := by
 have aw := q38awake_p
 refine Zag true Tryz.func3 rfl rfl rfl (Nat.le_of_ble_eq_true rfl) Zah.tmp ?_
 refine goA ?_
 refine evG ggA (Zab (Zaa rfl) rfl rfl hg) ?_
 refine goA ?_
 refine evG ggA (Zab (Zaa rfl) rfl rfl aw) ?_
 refine goA ?_
 exact rfl
theorem lexp_prec {X : List AV} {p : Int} (hg : PC Tryz.prog 5 [.sl X] (bV false)) (hp : p > 12 ∧ p ≤ 1000) : PC Tryz.prog 3 [.sl X, iV p] (bV true) := by
 have aw := q38awake_p
 have b1 : decide (p > 12) = true := decide_eq_true hp.1
 have b2 : decide (p ≤ 1000) = true := decide_eq_true hp.2
 refine Zag true Tryz.func3 rfl rfl rfl (Nat.le_of_ble_eq_true rfl) Zah.tmp ?_
 refine goA ?_
 refine evG ggA (Zab (Zaa rfl) rfl rfl hg) ?_
 refine goA ?_
 refine evG ggA (Zab (Zaa rfl) rfl rfl aw) ?_
 refine goA ?_
 exact rfl
abbrev RTm := Int × Int × Int × RQ
def tmQ (r : RTm) : QE := ⟨r.1, r.2.1, r.2.2.1, r.2.2.2.1.1, r.2.2.2.1.2.map u32, r.2.2.2.2.1, r.2.2.2.2.2.map u32, ratO r.2.2.2⟩
def QpOK (s : List RTm) : Prop := ∀ r, r ∈ s → DigR r.2.2.2
theorem tmQ_ok {r : RTm} (h : DigR r.2.2.2) (hb : bigQ (tmQ r) = false) : (tmQ r).ok 3 := by
 unfold bigQ tmQ at hb
 simp only [Bool.or_eq_false_iff, decide_eq_false_iff_not, List.length_map] at hb
 exact isV_raw h (by omega) (by omega)
theorem Zel (s : List RTm) (o : QpOK s) (p : Int) (_ : -9223372036854775808 ≤ p) (_ : p ≤ 9223372036854775807) : PC Tryz.prog 3 [.sl ((s.map tmQ).map QE.av), iV p] (bV true) := by
 have hg := great38_p (s.map tmQ)
 have hU : ∀ e, e ∈ s.map tmQ → bigQ e = false → e.ok 3 := fun e he hb => by
  obtain ⟨r, hr, rfl⟩ := List.mem_map.1 he
  exact tmQ_ok (o r hr) hb
 generalize s.map tmQ = U at *
 cases hgr : greatQ U with
 | true => rw [hgr] at hg; exact lexp_great hg
 | false =>
 rw [hgr] at hg
 by_cases hp : p > 12 ∧ p ≤ 1000
 ·exact lexp_prec hg hp
 have s0 : PC Tryz.prog 9 [.agg [iV 0, .sl []], .agg [iV 0, .sl []]] (bV true) := sameQ_p (s := 0) (t := 0) (l := []) (m := []) (k := 1) (fun q h => (by cases h)) (by decide) (by decide)
 by_cases h4 : 400 < U.length
 ·exact Zgu hg hp (pexp_bad (qvalid_big (by rw [List.length_map]; exact h4))) (rexp_bad (rcheck38_big (by rw [List.length_map]; exact h4))) s0
 have h8 : U.length ≤ 8 := by
  unfold greatQ at hgr
  by_cases h : U.length > 8
  ·rw [if_pos h, decide_eq_false_iff_not] at hgr
   omega
  ·omega
 have ho : ∀ e, e ∈ U → e.ok 3 := fun e he => hU e he (by
  unfold greatQ at hgr
  rw [if_neg (by omega)] at hgr
  simpa using List.any_eq_false.1 hgr e he)
 have hv := qvalid_p (U := U) (by omega)
 have hc := rcheck38_p (U := U) (by omega)
 by_cases hQ : QV U
 ·rw [decide_eq_true hQ] at hv hc
  by_cases hr : p < 0 ∨ p > 1000
  ·exact Zgu hg hp (pexp_range hv hr) (rexp_range hc hr) s0
  obtain ⟨P, rfl⟩ : ∃ P : Nat, p = P := ⟨p.toNat, by omega⟩
  have hP : P ≤ 12 := by omega
  have ht := tidy_p' Zgn (U := U) (K := 3) (by omega) (by decide) (fun e he => (hQ.2 e he).sm) ho (by decide) (by decide)
  have hn := norm38_p (U := U) (K := 3) (by omega) ho (by decide)
  have hT := terms_ok hQ h8 ho
  have hS := xS_ok hP hT.len fun t ht => ⟨hT.ht t ht, qW_len (hT.ex t ht)⟩
  have hs := sameQ_p (s := (xS P (qnf (U.map QE.t))).1) (t := (xS P (qnf (U.map QE.t))).1) (l := (xS P (qnf (U.map QE.t))).2) (m := (xS P (qnf (U.map QE.t))).2) hS.2.2 (by decide) (by have := hS.1; have := hS.2.1; omega)
  rw [decide_eq_true ⟨rfl, rfl⟩] at hs
  exact Zgu hg hp (pexp_p hT hP hv ht) (rexp_ok (by omega) (by omega) hc hn (rexp_p hT hP)) hs
 ·rw [decide_eq_false hQ] at hv hc
  exact Zgu hg hp (pexp_bad hv) (rexp_bad hc) s0
end Ab
namespace Ab
open Go Go.RowKit Go.Proofs Hp Go.ChangeShapes Go.WideShapes
set_option maxRecDepth 100000
theorem sl_qpoly : Tryz.prog.underlying 23 = some (.slice 50) := by kernel_rfl
section
variable {H : Type} {enc : TypeId × Value → H} {w : World} {base : Nat} {spare : Nat → Bool} {held : Bool} {fuel : Nat} {cs : List Value} {x : DataW H × List MemPlace}
theorem open_term7 (h : DataW.trod enc Tryz.prog w base (fun _ => true) held fuel 50 cs = some x) : ∃ (a b c : Int) (c3 c4 c5 c6 : Value) (r : RQ), cs = [.int .i64 a, .int .i64 b, .int .i64 c, c3, c4, c5, c6] ∧ Rep w NoM (.p (.bool r.1.1)) c3 ∧ Rep w NoM (.sl (r.1.2.map u32)) c4 ∧ Rep w NoM (.p (.bool r.2.1)) c5 ∧ Rep w NoM (.sl (r.2.2.map u32)) c6 ∧ DigR r := by
  obtain ⟨y0, y1, y2, y3, n, -, hl, h0, h1, h2, h3⟩ := Go.Joins.trod_struct4 Tryz.underlying50 h
  have hl : cs.length = 7 := hl.trans (by kernel_rfl)
  match cs, hl with
  | [c0, c1, c2, c3, c4, c5, c6], _ =>
    have h0 : DataW.trod enc Tryz.prog w base (fun _ => true) held n 3 [c0] = some y0 := h0
    have h1 : DataW.trod enc Tryz.prog w base (fun _ => true) held n 3 [c1] = some y1 := h1
    have h2 : DataW.trod enc Tryz.prog w base (fun _ => true) held n 3 [c2] = some y2 := h2
    have h3 : DataW.trod enc Tryz.prog w base (fun _ => true) held n 48 [c3, c4, c5, c6] = some y3 := h3
    obtain ⟨a, e0, -, -⟩ := DataW.trod_int Zff h0
    obtain ⟨b, e1, -, -⟩ := DataW.trod_int Zff h1
    obtain ⟨c, e2, -, -⟩ := DataW.trod_int Zff h2
    obtain ⟨d0, d1, d2, d3, r, e, g0, g1, g2, g3, hr⟩ := open_rat4 h3
    injection e0 with e0
    injection e1 with e1
    injection e2 with e2
    simp only [List.cons.injEq, and_true] at e
    obtain ⟨rfl, rfl, rfl, rfl⟩ := e
    subst e0 e1 e2
    exact ⟨a, b, c, _, _, _, _, r, rfl, g0, g1, g2, g3, hr⟩
def tmA (r : RTm) : AV := (tmQ r).av
theorem open_terms (h : DataW.trod enc Tryz.prog w base (fun _ => true) held fuel 23 cs = some x) : ∃ (c : Value) (R : List RTm), cs = [c] ∧ Rep w NoM (.sl (R.map tmA)) c ∧ QpOK R := by
 rcases Go.Deep.open_slice sl_qpoly h with ⟨h1, -⟩ | ⟨a, len, cap, m, n, D, Pl, rfl, -, hl, hm, hmm, -, hx⟩
 ·exact ⟨_, [], h1, .emp _ _, fun d hd => by simp at hd⟩
 ·have hmm : m = cap := hmm
  have h7 : Tryz.prog.cellsOf 50 = 7 := by kernel_rfl
  rw [h7] at hx
  by_cases h0 : len = 0
  ·subst h0
   exact ⟨_, [], rfl, .emp _ _, fun d hd => by simp at hd⟩
  obtain ⟨cs0, hc0, -⟩ := hx 0 (by omega)
  obtain ⟨c, hc⟩ := plain_cells hc0 (by decide)
  rw [Nat.zero_mul] at hc
  obtain ⟨b, off, rfl⟩ := plain_at hc
  obtain ⟨G, hG⟩ := Go.Deep.choose_lt (α := RTm × (Nat → Value)) (n := m) (p := fun i g => DigR g.1.2.2.2 ∧ (∀ j, j < 7 → w.cell? ⟨b, off + i * 7 + j, none⟩ = some (g.2 j)) ∧ ∀ (j : Nat) c, (tmA g.1).cells[j]? = some c → Rep w NoM c (g.2 j)) (fun i hi => by
   obtain ⟨cs', hc', ht⟩ := hx i hi
   obtain ⟨ta, tb, tc, c3, c4, c5, c6, r, rfl, g0, g1, g2, g3, hr⟩ := open_term7 ht
   obtain ⟨_, -, hcell⟩ := World.cells?_some hc'
   refine ⟨((ta, tb, tc, r), fun j => [.int .i64 ta, .int .i64 tb, .int .i64 tc, c3, c4, c5, c6].getD j (.bool false)), hr, fun j hj => ?_, fun j c hjc => ?_⟩
   ·have := hcell j hj
    rw [Go.WideShapes.add_plain, Go.WideShapes.add_plain] at this
    rw [this]
    rcases j with _ | _ | _ | _ | _ | _ | _ | j
    ·rfl
    ·rfl
    ·rfl
    ·rfl
    ·rfl
    ·rfl
    ·rfl
    ·omega
   ·rcases j with _ | _ | _ | _ | _ | _ | _ | j
    ·simp [tmA, tmQ, QE.av, AV.cells] at hjc; subst hjc; exact .p _ rfl
    ·simp [tmA, tmQ, QE.av, AV.cells] at hjc; subst hjc; exact .p _ rfl
    ·simp [tmA, tmQ, QE.av, AV.cells] at hjc; subst hjc; exact .p _ rfl
    ·simp [tmA, tmQ, QE.av, AV.cells] at hjc; subst hjc; exact g0
    ·simp [tmA, tmQ, QE.av, AV.cells] at hjc; subst hjc; exact g1
    ·simp [tmA, tmQ, QE.av, AV.cells] at hjc; subst hjc; exact g2
    ·simp [tmA, tmQ, QE.av, AV.cells] at hjc; subst hjc; exact g3
    ·simp [tmA, tmQ, QE.av, AV.cells] at hjc)
  have hlen : (((List.range len).map fun i => (G i).1).map tmA).length = len := by simp
  have hget : ∀ (i : Nat) e, (((List.range len).map fun i => (G i).1).map tmA)[i]? = some e → i < len ∧ e = tmA (G i).1 := fun i e he => by
   have hi : i < len := by rw [← hlen]; exact (List.getElem?_eq_some_iff.1 he).1
   refine ⟨hi, ?_⟩
   simp [hi] at he
   exact he.symm
  refine ⟨_, (List.range len).map fun i => (G i).1, rfl, ?_, fun r hr => ?_⟩
  ·have := Rep.sl (w := w) (M := NoM) (((List.range len).map fun i => (G i).1).map tmA) b off cap 7 (fun i j => (G i).2 j) (by rw [hlen]; exact hl) (fun i j hi hj hm => hm) (fun e he => ?_) (fun e he c hc' => ?_) (fun i j hi hj => ?_) (fun i e j c he hj => ?_)
   ·rw [hlen] at this; exact this
   ·obtain ⟨i, hi⟩ := List.getElem?_of_mem he
    rw [(hget i e hi).2]; rfl
   ·obtain ⟨i, hi⟩ := List.getElem?_of_mem he
    rw [(hget i e hi).2] at hc'
    simp [tmA, tmQ, QE.av, AV.cells] at hc'
    rcases hc' with rfl | rfl | rfl | rfl | rfl | rfl | rfl <;> rfl
   ·rw [hlen] at hi
    exact (hG i (by omega)).2.1 j hj
   ·obtain ⟨hi, rfl⟩ := hget i e he
    exact (hG i (by omega)).2.2 j c hj
  ·obtain ⟨i, hi, rfl⟩ := List.mem_map.1 hr
   exact (hG i (by simp at hi; omega)).1
end
end Ab
namespace Go.Proofs.YtaeeifonadgmcaaGreatDoor
open Go.ChangeShapes Go.WideShapes Go.ChangeAt Go.RowKit Ab
set_option maxRecDepth 100000
theorem open_qp {H : Type} {enc : TypeId × Value → H} {w : World} {base b0 : Nat} {held : Bool} {r : Reach} {v : Value} {d : DataW H} {p : List MemPlace} (hv : Value.okWide Tryz.prog w r b0 23 v) (h : DataW.Trod enc Tryz.prog w base (fun _ => true) held 23 v d p) : ∃ R : List RTm, Rep w NoM (.sl ((R.map tmQ).map QE.av)) v ∧ QpOK R := by
 obtain ⟨a, len, cap, rfl⟩ := okWide_slice sl_qpoly hv
 obtain ⟨fuel, hf⟩ := h
 obtain ⟨c, R, hc, hR, hd⟩ := open_terms hf
 simp [Value.cells] at hc
 subst hc
 refine ⟨R, ?_, hd⟩
 rw [List.map_map]
 exact hR
theorem qpAgain {H : Type} {enc : TypeId × Value → H} {W W' : World} {v : Value} {d : DataW H} {ps : List MemPlace} (h : DataW.Trod enc Tryz.prog W 0 (fun _ => true) true 23 v d ps) (hb : Below W.heap.size W W') (hlt : ∀ x ∈ ps, x.block < W.heap.size) :
  DataW.Trod enc Tryz.prog W' 0 (fun b => decide (b < W.heap.size)) true 23 v d ps := Below.trod laidOut (by kernel_rfl) (of_decide_eq_true (by kernel_rfl)) h hb hlt
end Go.Proofs.YtaeeifonadgmcaaGreatDoor
