/- Expansions of polynomials in E2, E4, E6. -/
import Derived.Test.YtalcdpjpapojeaaGreatDoorQeD
import Derived.Test.YtalcdpjpapojeaaGreatDoorQD
import Derived.Test.YtalcdpjpapojeaaGreatDoorOCG
import Derived.Test.YtalcdpjpapojeaaGreatDoorLc
import Derived.Test.YtalcdpjpapojeaaGreatDoorLd
import Derived.Test.YtalcdpjpapojeaaGreatDoorLe
import Derived.Test.YtalcdpjpapojeaaGreatDoorLx
import Derived.Test.YtalcdpjpapojeaaGreatDoorFL
set_option linter.all false
namespace Ab
open Go Go.RowKit Go.Proofs Hp
set_option maxRecDepth 100000
def xstep (P : Nat) (acc : Int × List Rat) (t : QT) : Int × List Rat := (Zgf acc.1 acc.2 0 (tk (qX t.q (qW t)) P) 1).getD (0, [])
def xS (P : Nat) (A : List QT) : Int × List Rat := A.foldl (xstep P) ((P : Int), [])
def okXP (P K : Nat) (a : Int × List Rat) : Prop := 0 ≤ a.1 ∧ a.1 + (a.2.length : Nat) = P ∧ ∀ q, q ∈ a.2 → Ht q K
theorem comb_okXP {P K : Nat} {a : Int × List Rat} {g : Nat → Rat} (h : okXP P K a) (hK : 1 ≤ K) (hg : ∀ i, i < P → Ht (g i) K) (hP : P ≤ 12) : ∃ r, Zgf a.1 a.2 0 (tk g P) 1 = some r ∧ okXP P (2 * K + 2) r := by
 obtain ⟨s, l⟩ := a
 obtain ⟨h0, h1, h2⟩ := h
 simp only at h0 h1 h2
 have hc : cfr s l.length 0 (tk g P).length = 0 := by rw [tk_len]; unfold cfr cp; omega
 have hp : cp s l.length 0 (tk g P).length = P := by rw [tk_len]; unfold cp; omega
 have e : Zgf s l 0 (tk g P) 1 = nrm 0 (tk (comb s l 0 (tk g P) 1) P) := by
  unfold Zgf
  rw [Za2.2 ⟨oM, oM, oM⟩, Zcs dC oM, hc, hp]
  rw [show ((P : Int) - 0).toNat = P by omega]
  rfl
 have hht : ∀ q, q ∈ tk (comb s l 0 (tk g P) 1) P → Ht q (2 * K + 2) := fun q hq => by
  obtain ⟨i, -, rfl⟩ := Zfb hq
  exact sht_comb hK h2 (Ze1 hg) dC i
 have hml : (tk (comb s l 0 (tk g P) 1) P).length = P := tk_len _ _
 generalize tk (comb s l 0 (tk g P) 1) P = m at *
 have hle := Zc2 m
 refine ⟨_, by rw [e, Zeo dC dC oM], ?_, ?_, fun q hq => hht q (List.mem_of_mem_drop hq)⟩
 ·show (0 : Int) ≤ 0 + (lead m : Nat)
  omega
 ·show (0 : Int) + (lead m : Nat) + ((m.drop (lead m)).length : Nat) = P
  rw [List.length_drop, hml]
  omega
def KK : Nat → Nat
 | 0 => 94
 | n + 1 => 2 * KK n + 2
theorem KK_ge : ∀ n, 94 ≤ KK n
 | 0 => Nat.le_refl _
 | n + 1 => by have := KK_ge n; rw [KK]; omega
theorem KK_le : ∀ n, n ≤ 8 → KK n ≤ 30000 := dC
structure TermsOK (L : List QT) : Prop where
 ne : ∀ t, t ∈ L → t.q ≠ 0
 ht : ∀ t, t ∈ L → Ht t.q 33
 ex : ∀ t, t ∈ L → 0 ≤ t.a ∧ 0 ≤ t.b ∧ 0 ≤ t.c ∧ t.a + t.b + t.c ≤ 30
 len : L.length ≤ 8
theorem qW_len {t : QT} (h : 0 ≤ t.a ∧ 0 ≤ t.b ∧ 0 ≤ t.c ∧ t.a + t.b + t.c ≤ 30) : (qW t).length ≤ 30 := by
 unfold qW
 simp only [List.length_append, List.length_replicate]
 omega
theorem part_ht {t : QT} {l : List Nat} {P i : Nat} (ht : Ht t.q 33) (hl : Zdk l) (hll : l.length ≤ 30) (hP : P ≤ 12) (hi : i < P) : Ht (qX t.q l i) 94 := qX_ht dC ht hl hll oM
theorem xS_fold {P : Nat} (hP : P ≤ 12) : ∀ (A : List QT) (a : Int × List Rat) (n : Nat), okXP P (KK n) a → (∀ t, t ∈ A → Ht t.q 33 ∧ (qW t).length ≤ 30) → okXP P (KK (n + A.length)) (A.foldl (xstep P) a)
  | [], a, n, h, _ => h
  | t :: A, a, n, h, ht => by
    obtain ⟨h1, h2⟩ := ht t (List.mem_cons_self ..)
    obtain ⟨r, e, hr⟩ := comb_okXP (g := qX t.q (qW t)) h (by have := KK_ge n; omega) (fun i hi => (part_ht h1 (qW_all t) h2 hP hi).mono (KK_ge n)) hP
    have hx : xstep P a t = r := by unfold xstep; rw [e]; rfl
    rw [List.foldl_cons, hx, List.length_cons, show n + (A.length + 1) = (n + 1) + A.length by omega]
    exact xS_fold hP A r (n + 1) hr fun u hu => ht u (List.mem_cons_of_mem _ hu)
theorem xS_0 (P : Nat) : okXP P (KK 0) ((P : Int), []) := ⟨by simp, by simp, fun q h => (by cases h)⟩
theorem xS_ok {P : Nat} (hP : P ≤ 12) {A : List QT} (hA : A.length ≤ 8) (ht : ∀ t, t ∈ A → Ht t.q 33 ∧ (qW t).length ≤ 30) : okXP P 30000 (xS P A) := by
 have h := xS_fold hP A _ 0 (xS_0 P) ht
 rw [Nat.zero_add] at h
 exact ⟨h.1, h.2.1, fun q hq => (h.2.2 q hq).mono (KK_le _ hA)⟩
theorem xS_step {P : Nat} (hP : P ≤ 12) {A : List QT} {t : QT} (hA : A.length ≤ 8) (ht : ∀ u, u ∈ A ++ [t] → Ht u.q 33 ∧ (qW u).length ≤ 30) : Zgf (xS P A).1 (xS P A).2 0 (tk (qX t.q (qW t)) P) 1 = some (xS P (A ++ [t])) := by
 have h := xS_ok hP hA fun u hu => ht u (List.mem_append_left _ hu)
 obtain ⟨h1, h2⟩ := ht t (by simp)
 obtain ⟨r, e, -⟩ := comb_okXP (g := qX t.q (qW t)) h dC (fun i hi => (part_ht h1 (qW_all t) h2 hP hi).mono dC) hP
 have hx : xstep P (xS P A) t = r := by unfold xstep; rw [e]; rfl
 have hf : xS P (A ++ [t]) = xstep P (xS P A) t := by unfold xS; rw [List.foldl_append]; rfl
 rw [e, hf, hx]
theorem mon_tk {c : Rat} (hc : c ≠ 0) {P : Nat} (hP : P ≤ 1000) : monR c 0 P = some (0, tk (qX c []) P) := by
 unfold monR
 rw [show MV 0 P = true by unfold MV; simp; omega, if_pos rfl]
 by_cases h0 : P = 0
 ·subst h0
  rfl
 ·rw [if_neg oM]
  obtain ⟨k, rfl⟩ : ∃ k, P = k + 1 := ⟨P - 1, oM⟩
  have e : c :: List.replicate ((((k + 1 : Nat) : Int) - 0).toNat - 1) 0 = tk (qX c []) (k + 1) := by
   rw [qX_nil, tk_cons]
   congr 1
   exact (List.eq_replicate_iff.2 ⟨by rw [tk_len]; omega, fun b hb => by obtain ⟨i, -, rfl⟩ := Zfb hb; rfl⟩).symm
  rw [e]
  exact nrm_tk (by rw [qX_nil]; exact hc) dC oM
section
variable {L : List QT} {P : Nat}
abbrev xE (P k : Nat) : List AV := (eiL k P).map encQ
abbrev xF (P : Nat) (q : Rat) (l : List Nat) : List AV := (tk (qX q l) P).map encQ
abbrev xV (P : Nat) (A : List QT) : Int × List AV := ((xS P A).1, (xS P A).2.map encQ)
theorem terms_pre (h : TermsOK L) {A B : List QT} {t : QT} (e : L = A ++ t :: B) : A.length ≤ 8 ∧ ∀ u, u ∈ A ++ [t] → Ht u.q 33 ∧ (qW u).length ≤ 30 := by
 have hl := h.len
 rw [e] at hl
 simp only [List.length_append, List.length_cons] at hl
 refine ⟨oM, fun u hu => ?_⟩
 have hu : u ∈ L := by
  rw [e]
  rcases List.mem_append.1 hu with hu | hu
  ·exact List.mem_append_left _ hu
  ·rw [List.mem_singleton.1 hu]; simp
 exact ⟨h.ht u hu, qW_len (h.ex u hu)⟩
theorem both_add (h : TermsOK L) (hP : P ≤ 12) {A B : List QT} {t : QT} (e : L = A ++ t :: B) : Both (xS P A).1 ((xS P A).2.map encQ) 0 ((tk (qX t.q (qW t)) P).map encQ) 30000 (xS P A).2 (tk (qX t.q (qW t)) P) := by
 obtain ⟨h1, h2⟩ := terms_pre h e
 obtain ⟨h3, h4, h5⟩ := xS_ok hP h1 fun u hu => h2 u (List.mem_append_left _ hu)
 obtain ⟨h6, h7⟩ := h2 t (by simp)
 refine ⟨fun _ _ => ⟨Zbb h5, Zbb (Ze1 fun i hi => (part_ht h6 (qW_all t) h7 hP hi).mono dC)⟩, by simp, by simp, ⟨oM, oM, by rw [List.length_map]; omega⟩, Zgx dC dC oM⟩
set_option maxHeartbeats 4000000 in
theorem rexp_p (h : TermsOK L) (hP : P ≤ 12) : PC Tryz.prog 72 [.sl (PL L), iV (P : Nat)] (.agg [iV (xS P L).1, .sl ((xS P L).2.map encQ)]) := by
 refine rexp_core (Ef := xE P) (Ff := xF P) (Sf := xV P) oM (by have := h.len; omega) (empty_p' P) (rnorm34_p (k := 2) rfl oM) (rnorm34_p (k := 4) rfl oM) (rnorm34_p (k := 6) rfl oM) h.ex (fun t ht => ?_) (fun t ht l k hl hk hll => ?_) (fun t ht l hl hll => ?_) (fun A t B e => ?_)
 ·have m := rmonomial_p (a := encQ t.q) (c := t.q) (K := 33) (n := 0) (p := P) (Zad (h.ht t ht)) dC
  rw [mon_tk (h.ne t ht) oM] at m
  exact m
 ·have c := rmul33_p (M := 100) (both_tk (s := 0) (t := 0) (f := qX t.q l) (g := eiV k) (n := P) (m := P) (K := 94) (fun i hi => part_ht (h.ht t ht) hl oM hP hi) (fun i hi => (ei_ht (w246_ok hk) oM).1.mono dC) dC dC dC dC oM oM) dC dC dC (fun _ => by rw [tkE]; omega)
  rw [mulR_tk (qX_0 (h.ne t ht) hl) (Zf4 (w246_ok hk)) dC dC oM oM dC oM, qX_cons, Nat.min_self] at c
  exact c
 ·have c := rcut_p (s := 0) (p := P) (es := (tk (qX t.q l) P).map encQ) (l := tk (qX t.q l) P) (K := 94) (Zbb (Ze1 fun i hi => part_ht (h.ht t ht) hl hll hP hi)) dC (by rw [List.length_map]; exact Zcs dC oM) oM oM
  rw [cutR_tk (qX_0 (h.ne t ht) hl) dC oM oM, show min P ((P : Int) - 0).toNat = P by omega] at c
  exact c
 ·have c := radd33_p (both_add h hP e) dC
  obtain ⟨h1, h2⟩ := terms_pre h e
  rw [xS_step hP h1 h2] at c
  exact c
end
theorem qn_ne : ∀ {p : List QT}, QN p → ∀ t, t ∈ p → t.q ≠ 0
  | [], _, t, h => by cases h
  | u :: p, hn, t, h => by
    rcases List.mem_cons.1 h with rfl | h
    · exact hn.1
    · exact qn_ne hn.2.2 t h
theorem rexp_ok {X Y l : List AV} {s p : Int} (h0 : 0 ≤ p) (h1 : p ≤ 1000) (hc : PC Tryz.prog 71 [.sl X] (iV 0)) (hn : PC Tryz.prog 44 [.sl X] (.sl Y)) (hx : PC Tryz.prog 72 [.sl Y, iV p] (.agg [iV s, .sl l])) : PC Tryz.prog 39 [.sl X, iV p] (.tup [.agg [iV s, .sl l], iV 0]) := by
 have b1 : decide (p < 0) = false := decide_eq_false oM
 have b2 : decide (p > 1000) = false := decide_eq_false oM
 refine pb2 Tryz.func39 (Zac.agg Zaj) Zac.tmp ?_
 refine goA ?_
 refine clG hc ?_
 refine clG hn ?_
 refine clG hx ?_
 exact rfl
end Ab
namespace Ab
open Go Go.RowKit Go.Proofs Hp Go.ChangeShapes Go.WideShapes
set_option maxRecDepth 100000
section
variable {H : Type} {enc : TypeId × Value → H} {w : World} {base : Nat} {spare : Nat → Bool} {held : Bool} {fuel : Nat} {cs : List Value} {x : DataW H × List MemPlace}
end
end Ab
namespace Go.Proofs.YtalcdpjpapojeaaGreatDoor
open Go.ChangeShapes Go.WideShapes Go.ChangeAt Go.RowKit Ab
set_option maxRecDepth 100000
end Go.Proofs.YtalcdpjpapojeaaGreatDoor
