/- Valid and normalized polynomials in E2, E4, E6, on the program's side. The program's expansions of polynomials of many terms, as functions of the coefficients; sums, products, derivatives of series as such functions. The gate of the statements on expansions; polynomials of bounded weight, their sums, products, derivatives and expansions in the program. -/
import Derived.Test.YtmohfcpjgcgogaaGreatDoorQrJ
import Derived.Test.YtmohfcpjgcgogaaGreatDoorQA2
import Derived.Test.YtmohfcpjgcgogaaGreatDoorSRT
import Derived.Test.YtmohfcpjgcgogaaGreatDoorCmA
import Derived.Test.YtmohfcpjgcgogaaGreatDoorSeB
set_option linter.all false
namespace Ab
open Go Go.RowKit Go.Proofs Hp
set_option maxRecDepth 100000
theorem topQ_fold : ∀ (U : List QE) (m : Int), 0 ≤ m → m ≤ 1000 → (∀ e, e ∈ U → e.w ≤ 1000) → 0 ≤ U.foldl (fun m e => max m e.w) m ∧ U.foldl (fun m e => max m e.w) m ≤ 1000
  | [], m, h0, h1, _ => ⟨h0, h1⟩
  | e :: U, m, h0, h1, h => by
    have := h e (List.mem_cons_self ..)
    exact topQ_fold U (max m e.w) (by omega) (by omega) fun f hf => h f (List.mem_cons_of_mem _ hf)
theorem topQ_le {U : List QE} (h : ∀ e, e ∈ U → e.w ≤ 1000) : 0 ≤ topQ U ∧ topQ U ≤ 1000 := topQ_fold U 0 (by decide) (by decide) h
theorem topQ_same {w : Int} : ∀ (U : List QE) (m : Int), (∀ e, e ∈ U → e.w = w) → m ≤ w → U ≠ [] → U.foldl (fun m e => max m e.w) m = w
  | [], _, _, _, h => absurd rfl h
  | [e], m, h, h1, _ => by
    have := h e (List.mem_cons_self ..)
    show max m e.w = w
    omega
  | e :: f :: U, m, h, h1, _ => by
    have := h e (List.mem_cons_self ..)
    exact topQ_same (f :: U) (max m e.w) (fun x hx => h x (List.mem_cons_of_mem _ hx)) (by omega) (by simp)
theorem pur_top {e : QE} {U : List QE} (h : purQ (e :: U) = true) (h0 : 0 ≤ e.w) : topQ (e :: U) = e.w := topQ_same (e :: U) 0 (of_decide_eq_true h) h0 (by simp)
structure Vd (U : List QE) : Prop where
 q : QV U
 l : U.length ≤ 8
 o : ∀ e, e ∈ U → e.ok 3
structure Nz (R : List QT) : Prop where
 d : QD R
 n : QN R
 l : R.length ≤ 8
 h : ∀ t, t ∈ R → Ht t.q 33
 v : ∀ t, t ∈ R → (qe t).vt
theorem Vd.nz {U : List QE} (h : Vd U) : Nz (qnf (U.map QE.t)) := by
 refine ⟨qnf_d _, qnf_n _, Nat.le_trans (qnf_len _) (by rw [List.length_map]; exact h.l), fun t ht => ?_, fun t ht => ?_⟩
 ·refine (qnf_ht (K := 3) (by decide) (fun u hu => ?_) t ht).mono (by rw [List.length_map]; have := h.l; omega)
  obtain ⟨x, hx, rfl⟩ := List.mem_map.1 hu
  exact Zem (h.o x hx) (by decide)
 ·obtain ⟨u, hu, e⟩ := Zff ht
  obtain ⟨x, hx, rfl⟩ := List.mem_map.1 hu
  have hv := h.q.2 x hx
  unfold QE.vt QE.w at hv
  simp only [QT.k, QE.t, Prod.mk.injEq] at e
  obtain ⟨e1, e2, e3⟩ := e
  unfold QE.vt QE.w
  simp only [qe]
  rw [← e1, ← e2, ← e3]
  exact hv
theorem Nz.sm {R : List QT} (h : Nz R) : ∀ e, e ∈ R.map qe → e.sm := fun e he => by
 obtain ⟨t, ht, rfl⟩ := List.mem_map.1 he
 exact (h.v t ht).sm
theorem Nz.tn {R : List QT} (h : Nz R) : ∀ e, e ∈ R.map qe → e.t.tn := fun e he => by
 obtain ⟨t, ht, rfl⟩ := List.mem_map.1 he
 have := h.v t ht
 unfold QE.vt at this
 simp only [qe] at this
 rw [qe_t]
 unfold QT.tn
 omega
theorem Nz.ok {R : List QT} (h : Nz R) : ∀ e, e ∈ R.map qe → e.ok 33 := fun e he => by
 obtain ⟨t, ht, rfl⟩ := List.mem_map.1 he
 exact qe_ok (h.h t ht)
theorem Nz.top {R : List QT} (h : Nz R) : 0 ≤ topQ (R.map qe) ∧ topQ (R.map qe) ≤ 1000 := topQ_le fun e he => by
 obtain ⟨t, ht, rfl⟩ := List.mem_map.1 he
 have := (h.v t ht).2.2.2.2.2.2
 omega
theorem Vd.tidy {U : List QE} (h : Vd U) : PC Tryz.prog 29 [.sl (U.map QE.av)] (.sl (PL (qnf (U.map QE.t)))) := tidy_p' Zgx (K := 3) (by have := h.l; omega) (by decide) (fun e he => (h.q.2 e he).sm) h.o (by decide) (by decide)
section
variable {X T1 R : List AV} {k : Int} (hv : PC Tryz.prog 38 [.sl X] (bV true)) (ht : PC Tryz.prog 29 [.sl X] (.sl T1))
include hv ht
end
theorem qW_zero {X T1 : List AV} (hv : PC Tryz.prog 38 [.sl X] (bV true)) (ht : PC Tryz.prog 29 [.sl X] (.sl T1)) (h : T1.length = 0) : PC Tryz.prog 13 [.sl X] (.tup [iV 0, iV 5]) := by
 have b1 : ((T1.length : Int) == 0) = true := by simp [List.length_eq_zero_iff.1 h]
 refine Zas true Tryz.func13 rfl rfl rfl (Nat.le_of_ble_eq_true rfl) Zao.tmp Zao.tmp ?_
 refine goA ?_
 refine evG ggA (Zab (Zaa rfl) rfl rfl hv) ?_
 refine goA ?_
 refine evG ggA (Zab (Zaa rfl) rfl rfl ht) ?_
 refine goA ?_
 exact rfl
theorem qW_ok {X T1 : List AV} {k : Int} {b : Bool} (hv : PC Tryz.prog 38 [.sl X] (bV true)) (ht : PC Tryz.prog 29 [.sl X] (.sl T1)) (h : 0 < T1.length) (hp : PC Tryz.prog 39 [.sl T1] (.tup [iV k, bV b])) : PC Tryz.prog 13 [.sl X] (.tup [iV (if b then k else 0), iV (if b then 0 else 20)]) := by
  have b1 : ((T1.length : Int) == 0) = false := by simp; intro e; rw [e] at h; simp at h
  cases b with
  | true =>
    refine Zas true Tryz.func13 rfl rfl rfl (Nat.le_of_ble_eq_true rfl) Zao.tmp Zao.tmp ?_
    refine goA ?_
    refine evG ggA (Zab (Zaa rfl) rfl rfl hv) ?_
    refine goA ?_
    refine evG ggA (Zab (Zaa rfl) rfl rfl ht) ?_
    refine goA ?_
    refine evG ggA (Zab (Zaa rfl) rfl rfl hp) ?_
    refine goA ?_
    exact rfl
  | false =>
    refine Zas true Tryz.func13 rfl rfl rfl (Nat.le_of_ble_eq_true rfl) Zao.tmp Zao.tmp ?_
    refine goA ?_
    refine evG ggA (Zab (Zaa rfl) rfl rfl hv) ?_
    refine goA ?_
    refine evG ggA (Zab (Zaa rfl) rfl rfl ht) ?_
    refine goA ?_
    refine evG ggA (Zab (Zaa rfl) rfl rfl hp) ?_
    refine goA ?_
    exact rfl
section
variable {X Y T1 T2 R : List AV} {k l : Int} (hv : PC Tryz.prog 38 [.sl X] (bV true)) (hw : PC Tryz.prog 38 [.sl Y] (bV true)) (ht : PC Tryz.prog 29 [.sl X] (.sl T1)) (hu : PC Tryz.prog 29 [.sl Y] (.sl T2))
include hv hw ht hu
end
end Ab
namespace Ab
open Go Go.RowKit Go.Proofs Hp
set_option maxRecDepth 100000
theorem lf_ht {H n : Nat} (hH : 1 ≤ H) (hn : n ≤ 20) : ∀ A : List QT, (∀ t, t ∈ A → Ht t.q H ∧ (qW t).length ≤ 30) → Ht (qlf (xP n) A) (1 + A.length * (H + 62))
  | [], _ => ht0 (by simp)
  | t :: A, h => by
    have ih := lf_ht hH hn A fun u hu => h u (List.mem_cons_of_mem _ hu)
    obtain ⟨h1, h2⟩ := h t (List.mem_cons_self ..)
    have h3 : Ht (t.q * xP n t.k) (H + 61) := qX_ht hH h1 (qW_all t) h2 hn
    refine (Ze2 h3 ih).mono ?_
    rw [List.length_cons, Nat.add_mul]
    omega
def kG (H N : Nat) : Nat := 1 + N * (H + 62)
structure okG (P : Nat) (A : List QT) (a : Sr) : Prop where
 b : 0 ≤ a.1
 p : a.1 + (a.2.length : Nat) = P
 f : ∀ n : Nat, n < P → cf a.1 a.2 n = qlf (xP n) A
structure TG (H N : Nat) (L : List QT) : Prop where
 ne : ∀ t, t ∈ L → t.q ≠ 0
 ht : ∀ t, t ∈ L → Ht t.q H
 ex : ∀ t, t ∈ L → 0 ≤ t.a ∧ 0 ≤ t.b ∧ 0 ≤ t.c ∧ t.a + t.b + t.c ≤ 30
 len : L.length ≤ N
def tG (H : Nat) (A : List QT) : Prop := ∀ t, t ∈ A → Ht t.q H ∧ (qW t).length ≤ 30
theorem okG.ht {P H N : Nat} {A : List QT} {a : Sr} (h : okG P A a) (hH : 1 ≤ H) (hP : P ≤ 20) (hA : A.length ≤ N) (ht : tG H A) : ∀ q, q ∈ a.2 → Ht q (kG H N) := fun q hq => by
 obtain ⟨n, hn, rfl⟩ := cf_mem (u := a.1) hq
 have hp := h.p
 have hb := h.b
 by_cases h0 : n < 0
 ·rw [Zf7 (by omega)]
  exact ht0 (by unfold kG; omega)
 ·obtain ⟨m, rfl⟩ : ∃ m : Nat, n = m := ⟨n.toNat, by omega⟩
  rw [h.f m (by omega)]
  exact (lf_ht hH (by omega) A ht).mono (by unfold kG; have := Nat.mul_le_mul_right (H + 62) hA; omega)
theorem okG.v {P : Nat} {A : List QT} {a : Sr} (h : okG P A a) (hP : P ≤ 20) : Zav a.1 a.2.length = true := by
 have hp := h.p
 have hb := h.b
 exact Zbd.2 ⟨by omega, by omega, by omega⟩
theorem okG.step {P H N : Nat} {A : List QT} {a : Sr} {t : QT} (h : okG P A a) (hH : 1 ≤ H) (hP : P ≤ 20) (hA : A.length < N) (hA' : tG H A) (ht : Ht t.q H ∧ (qW t).length ≤ 30) : ∃ r : Sr, combR a.1 a.2 0 (tk (qX t.q (qW t)) P) 1 = some r ∧ okG P (A ++ [t]) r := by
 have hh := h.ht hH hP (Nat.le_of_lt hA) hA'
 have hp := h.p
 have hb := h.b
 have v2 : Zav 0 (tk (qX t.q (qW t)) P).length = true := Zgn (s := 0) (by decide) (by omega)
 have hN : H + 62 ≤ N * (H + 62) := Nat.le_mul_of_pos_left _ (by omega)
 have o := comb_out (c := 1) (K := kG H N) (h.v hP) v2 (by decide) (by unfold kG; omega) hh (fun q hq => by
  obtain ⟨i, hi, rfl⟩ := tk_mem hq
  exact (qX_ht hH ht.1 (qW_all t) ht.2 (by omega)).mono (by unfold kG; omega))
 obtain ⟨s, l, e, h1, h2, h3, h4, h5, -, h7⟩ := o
 rw [tk_len] at h2
 refine ⟨(s, l), e, ?_, ?_, fun n hn => ?_⟩
 ·show 0 ≤ s
  omega
 ·show s + (l.length : Int) = P
  omega
 ·show cf s l n = _
  rw [h5 n (by rw [tk_len]; omega)]
  show cf a.1 a.2 n + ((1 : Int) : Rat) * cf 0 (tk (qX t.q (qW t)) P) n = _
  rw [h.f n hn, cf_tk (by omega) (by omega), qlf_app]
  show qlf (xP n) A + (1 : Rat) * (t.q * qE (qW t) ((n : Int) - 0).toNat) = qlf (xP n) A + (t.q * xP n t.k + 0)
  rw [Rat.one_mul, Rat.add_zero, show ((n : Int) - 0).toNat = n by omega]
  rfl
theorem xG_fold {P H N : Nat} (hH : 1 ≤ H) (hP : P ≤ 20) : ∀ (B A : List QT) (a : Sr), okG P A a → (A ++ B).length ≤ N → tG H (A ++ B) → okG P (A ++ B) (B.foldl (xstep P) a)
  | [], A, a, h, _, _ => by rw [List.append_nil]; exact h
  | t :: B, A, a, h, hl, ht => by
    have e : A ++ t :: B = (A ++ [t]) ++ B := by simp
    have hl' : A.length < N := by rw [List.length_append, List.length_cons] at hl; omega
    obtain ⟨r, e1, h1⟩ := h.step hH hP hl' (fun u hu => ht u (List.mem_append_left _ hu)) (ht t (by simp))
    have hx : xstep P a t = r := by unfold xstep; rw [e1]; rfl
    rw [e] at hl ht ⊢
    rw [List.foldl_cons, hx]
    exact xG_fold hH hP B (A ++ [t]) r h1 hl ht
theorem xG_ok {P H N : Nat} {A : List QT} (hH : 1 ≤ H) (hP : P ≤ 20) (hA : A.length ≤ N) (ht : tG H A) : okG P A (xS P A) :=
 xG_fold hH hP A [] ((P : Int), []) ⟨by show (0 : Int) ≤ P; omega, by simp, fun n hn => by rw [Zf7 (show (n : Int) < (P : Int) by omega)]; rfl⟩ hA ht
theorem xG_step {P H N : Nat} {A : List QT} {t : QT} (hH : 1 ≤ H) (hP : P ≤ 20) (hA : A.length < N) (ht : tG H (A ++ [t])) : combR (xS P A).1 (xS P A).2 0 (tk (qX t.q (qW t)) P) 1 = some (xS P (A ++ [t])) := by
 have h := xG_ok hH hP (Nat.le_of_lt hA) fun u hu => ht u (List.mem_append_left _ hu)
 obtain ⟨r, e, -⟩ := h.step hH hP hA (fun u hu => ht u (List.mem_append_left _ hu)) (ht t (by simp))
 have hx : xstep P (xS P A) t = r := by unfold xstep; rw [e]; rfl
 have hf : xS P (A ++ [t]) = xstep P (xS P A) t := by unfold xS; rw [List.foldl_append]; rfl
 rw [e, hf, hx]
section
variable {L : List QT} {P H N : Nat}
theorem TG.t (h : TG H N L) : tG H L := fun t ht => ⟨h.ht t ht, qW_len (h.ex t ht)⟩
theorem TG.pre (h : TG H N L) {A B : List QT} {t : QT} (e : L = A ++ t :: B) : A.length < N ∧ tG H (A ++ [t]) := by
 have hl := h.len
 rw [e] at hl
 simp only [List.length_append, List.length_cons] at hl
 refine ⟨by omega, fun u hu => h.t u ?_⟩
 rw [e]
 rcases List.mem_append.1 hu with hu | hu
 ·exact List.mem_append_left _ hu
 ·rw [List.mem_singleton.1 hu]; simp
theorem kG_le (hH : 1 ≤ H ∧ H ≤ 100000) (hN : N ≤ 400) : 1 ≤ kG H N ∧ kG H N ≤ 41000000 := by
 have h1 : N * (H + 62) ≤ 400 * (100000 + 62) := Nat.mul_le_mul hN (by omega)
 unfold kG
 omega
set_option maxHeartbeats 4000000 in
theorem pexpG {X : List AV} (h : TG H N L) (hH : 1 ≤ H ∧ H ≤ 100000) (hN : N ≤ 400) (hP : P ≤ 20) (hv : PC Tryz.prog 38 [.sl X] (bV true)) (ht : PC Tryz.prog 29 [.sl X] (.sl (PL L))) : PC Tryz.prog 15 [.sl X, iV (P : Nat)] (.tup [.agg [iV (xS P L).1, .sl ((xS P L).2.map encQ)], iV 0]) := by
 have c0 := Zee 0 (by decide) (by decide)
 have m0 := monomial_p (a := encQ 0) (c := 0) (K := 1) (n := 0) (p := P) (Zap (ht0 (by decide))) (by decide)
 rw [mon_zero (by omega)] at m0
 have kk := kG_le hH hN
 refine pexp_core (Ef := xE P) (Ff := xF P) (Sf := xV P) (by omega) (by have := h.len; omega) hv ht c0 m0 (enorm_p bq_ok (k := 2) rfl (by omega)) (enorm_p bq_ok (k := 4) rfl (by omega)) (enorm_p bq_ok (k := 6) rfl (by omega)) h.ex (fun t ht => ?_) (fun t ht l k hl hk hll => ?_) (fun A t B e => ?_)
 ·have m := monomial_p (a := encQ t.q) (c := t.q) (K := H) (n := 0) (p := P) (Zap (h.ht t ht)) ⟨hH.1, by omega⟩
  rw [mon_tk (h.ne t ht) (by omega)] at m
  exact m
 ·have c := mul_p (both_tk (s := 0) (t := 0) (f := qX t.q l) (g := eiV k) (n := P) (m := P) (K := H + 61) (fun i hi => qX_ht hH.1 (h.ht t ht) hl (by omega) (by omega)) (fun i hi => (ei_ht (w246_ok hk) (by omega)).1.mono (by omega)) (by decide) (by decide) (by decide) (by decide) (by omega) (by omega)) ⟨by omega, by omega⟩
  rw [mulR_tk (qX_0 (h.ne t ht) hl) (eiV_ne (w246_ok hk)) (by decide) (by decide) (by omega) (by omega) (by decide) (by omega), qX_cons, Nat.min_self] at c
  exact c
 ·obtain ⟨h1, h2⟩ := h.pre e
  have hA := xG_ok (P := P) hH.1 hP (Nat.le_of_lt h1) fun u hu => h2 u (List.mem_append_left _ hu)
  have hq := hA.ht hH.1 hP (Nat.le_of_lt h1) fun u hu => h2 u (List.mem_append_left _ hu)
  obtain ⟨h6, h7⟩ := h2 t (by simp)
  have hN1 : H + 62 ≤ N * (H + 62) := Nat.le_mul_of_pos_left _ (by omega)
  have hb := hA.b
  have hp := hA.p
  have c := add_p (s := (xS P A).1) (t := 0) (es := (xS P A).2.map encQ) (fs := (tk (qX t.q (qW t)) P).map encQ) (l := (xS P A).2) (m := tk (qX t.q (qW t)) P) (K := kG H N) ⟨fun _ _ => ⟨Zct hq, Zct (ht_tk fun i hi => (qX_ht hH.1 h6 (qW_all t) h7 (by omega)).mono (by unfold kG; omega))⟩, by simp, by simp, ⟨by omega, by omega, by rw [List.length_map]; omega⟩, inR_tk (by decide) (by decide) (by omega)⟩ ⟨kk.1, by omega⟩
  rw [xG_step hH.1 hP h1 h2] at c
  exact c
structure EX (X : List AV) (P : Nat) (f : Nat → Rat) (K : Nat) (y : Sr) : Prop where
 c : PC Tryz.prog 15 [.sl X, iV (P : Nat)] (.tup [serA y.1 (y.2.map encQ), iV 0])
 o : SOK y P 0 K
 f : ∀ n : Nat, n < P → cf y.1 y.2 n = f n
theorem expH {X : List AV} (h : TG H N L) (hH : 1 ≤ H ∧ H ≤ 100000) (hN : N ≤ 400) (hP : P ≤ 20) (hv : PC Tryz.prog 38 [.sl X] (bV true)) (ht : PC Tryz.prog 29 [.sl X] (.sl (PL L))) : EX X P (fun n => qlf (xP n) L) (kG H N) (xS P L) := by
 have o := xG_ok (P := P) hH.1 hP h.len h.t
 exact ⟨pexpG h hH hN hP hv ht, ⟨o.v hP, o.p, o.b, o.ht hH.1 hP h.len h.t⟩, o.f⟩
end
theorem cv_nat {A B : Int → Rat} (ha : ∀ n, n < 0 → A n = 0) (hb : ∀ n, n < 0 → B n = 0) (n : Nat) : cv A B n = nc (fun i => A i) (fun i => B i) n := by
 unfold cv nc
 rw [show ((n : Int) + 201).toNat = 100 + ((n + 1) + 100) by omega, su_split, su_split]
 rw [Zcr (fun j hj => by rw [ha _ (by omega), Rat.zero_mul]), Zcr (n := 100) (fun j hj => by
  rw [hb _ (by omega), Rat.mul_zero]), Rat.zero_add, Rat.add_zero]
 refine Zay fun j hj => ?_
 rw [show (((100 + j : Nat) : Int) - 100) = (j : Int) by omega, show (n : Int) - (j : Int) = ((n - j : Nat) : Int) by omega]
structure FS (y : Sr) (P : Nat) (f : Nat → Rat) (K : Nat) : Prop where
 v : Zav y.1 y.2.length = true
 p : P ≤ y.1 + y.2.length
 b : 0 ≤ y.1
 h : ∀ q, q ∈ y.2 → Ht q K
 f : ∀ n : Nat, n < P → cf y.1 y.2 n = f n
theorem EX.s {X : List AV} {P : Nat} {f : Nat → Rat} {K : Nat} {y : Sr} (h : EX X P f K y) : FS y P f K := ⟨h.o.v, by have := h.o.p; omega, h.o.b, h.o.h, h.f⟩
theorem FS.mono {y : Sr} {P : Nat} {f : Nat → Rat} {K K' : Nat} (h : FS y P f K) (hK : K ≤ K') : FS y P f K' := ⟨h.v, h.p, h.b, fun q hq => (h.h q hq).mono hK, h.f⟩
theorem FS.both {x y : Sr} {P Q : Nat} {f g : Nat → Rat} {K : Nat} (hx : FS x P f K) (hy : FS y Q g K) : Both x.1 (x.2.map encQ) y.1 (y.2.map encQ) K x.2 y.2 := both_mk (Zct hx.h) (Zct hy.h) (inR_enc hx.v) (inR_enc hy.v)
theorem out_fs {x : Option Sr} {p b : Int} {f : Int → Rat} {K P : Nat} (h : Out x p f b K) (hb : 0 ≤ b) (hP : (P : Int) ≤ p) : ∃ y : Sr, x = some y ∧ FS y P (fun n => f n) K ∧ y.1 + y.2.length = p := by
 obtain ⟨s, l, h1, h2, h3, h4, h5, h6, h7, h8⟩ := h
 exact ⟨(s, l), h1, ⟨Zbd.2 ⟨h2, by show s ≤ 1000; omega, by show (l.length : Int) ≤ 1000 - s; omega⟩, by show (P : Int) ≤ s + l.length; omega, by show 0 ≤ s; omega, h7, fun n hn => h6 n (by omega)⟩, h3⟩
section
variable {x y : Sr} {P K : Nat} {f g : Nat → Rat}
theorem FS.add (hx : FS x P f K) (hy : FS y P g K) (hK : 1 ≤ K ∧ K ≤ 268435456) : ∃ z : Sr, PC Tryz.prog 43 [serA x.1 (x.2.map encQ), serA y.1 (y.2.map encQ)] (.tup [serA z.1 (z.2.map encQ), iV 0]) ∧ FS z P (fun n => f n + g n) (2 * K + 2) := by
 have c := add_p (hx.both hy) hK
 have o := comb_out (c := 1) hx.v hy.v (by decide) hK.1 hx.h hy.h
 have p1 := hx.p
 have p2 := hy.p
 have b1 := hx.b
 have b2 := hy.b
 obtain ⟨z, e, hz, -⟩ := out_fs (P := P) o (by omega) (by omega)
 rw [e] at c
 refine ⟨z, c, hz.v, hz.p, hz.b, hz.h, fun n hn => ?_⟩
 rw [hz.f n hn, hx.f n hn, hy.f n hn]
 show f n + (1 : Rat) * g n = _
 rw [Rat.one_mul]
theorem FS.mul {N : Nat} (hx : FS x P f K) (hy : FS y P g K) (hK : 1 ≤ K ∧ K ≤ 268435456) (hN : x.2.length ≤ N) (hU : min (x.1 + lead x.2 + (y.1 + y.2.length)) (y.1 + lead y.2 + (x.1 + x.2.length)) ≤ 1000) : ∃ z : Sr, PC Tryz.prog 42 [serA x.1 (x.2.map encQ), serA y.1 (y.2.map encQ)] (.tup [serA z.1 (z.2.map encQ), iV 0]) ∧ FS z P (nc f g) ((2 * K + 1) * N + 1) ∧ z.1 + z.2.length = min (x.1 + lead x.2 + (y.1 + y.2.length)) (y.1 + lead y.2 + (x.1 + x.2.length)) := by
 have c := mul_p (hx.both hy) hK
 have p1 := hx.p
 have p2 := hy.p
 have b1 := hx.b
 have b2 := hy.b
 have o := mul_out hx.v hy.v hK.1 hx.h hy.h hN (by omega) hU
 obtain ⟨z, e, hz, zp⟩ := out_fs (P := P) o (by omega) (by omega)
 rw [e] at c
 refine ⟨z, c, ⟨hz.v, hz.p, hz.b, hz.h, fun n hn => ?_⟩, zp⟩
 rw [hz.f n hn, cv_nat (fun n hn => Zf7 (by omega)) (fun n hn => Zf7 (by omega))]
 exact nc_cg (fun i hi => hx.f i (by omega)) fun i hi => hy.f i (by omega)
theorem FS.nor (hx : FS x P f K) (hK : 1 ≤ K ∧ K ≤ 268435456) : PC Tryz.prog 23 [serA x.1 (x.2.map encQ)] (.tup [serA (tdy x.1 x.2).1 ((tdy x.1 x.2).2.map encQ), iV 0]) ∧ FS (tdy x.1 x.2) P f K ∧ (tdy x.1 x.2).1 + (tdy x.1 x.2).2.length = x.1 + x.2.length := by
 have c := normal_p (s := x.1) (es := x.2.map encQ) (l := x.2) (K := K) (fun _ => Zct hx.h) (by simp) (inR_enc hx.v) hK
 rw [norR_eq hx.v] at c
 have o := tdy_ok (x := x) (p := x.1 + x.2.length) (b := 0) (K := K) ⟨hx.v, rfl, hx.b, hx.h⟩
 exact ⟨c, ⟨o.v, by rw [o.p]; exact hx.p, o.b, o.h, fun n hn => by rw [← hx.f n hn]; exact Zgl _ _ _ (Nat.le_refl _) _⟩, o.p⟩
end
end Ab
namespace Ab
open Go Go.RowKit Go.Proofs Hp
set_option maxRecDepth 100000
def Zgb (U : List QE) (m : Int) : Bool := !greatQ U && (decide (QV U) && U.all fun e => decide (e.w ≤ m))
theorem light_p (U : List QE) {m : Int} (hm : -1000 ≤ m ∧ m ≤ 1000) : PC Tryz.prog 12 [.sl (U.map QE.av), iV m] (bV (Zgb U m)) := by
  have hg := great38_p U
  have hl := Zdr U
  cases g : greatQ U with
  | true =>
    rw [g] at hg
    have e : Zgb U m = false := by unfold Zgb; rw [g]; rfl
    rw [e]
    generalize U.map QE.av = X at *
    refine Zam true Tryz.func12 rfl rfl rfl (Nat.le_of_ble_eq_true rfl) Zao.tmp ?_
    refine goA ?_
    refine evG ggA (Zab (Zaa rfl) rfl rfl hg) ?_
    refine goA ?_
    exact rfl
  | false =>
  rw [g] at hg
  by_cases hQ : QV U
  case neg =>
    have hc : PC Tryz.prog 37 [.sl (U.map QE.av)] (iV 2) := by
      by_cases h4 : 400 < U.length
      · exact rcheck38_big (by rw [List.length_map]; exact h4)
      · have hc := rcheck38_p (U := U) (by omega)
        rw [decide_eq_false hQ] at hc
        exact hc
    have e : Zgb U m = false := by unfold Zgb; rw [decide_eq_false hQ, Bool.false_and, Bool.and_false]
    rw [e]
    generalize U.map QE.av = X at *
    refine Zam true Tryz.func12 rfl rfl rfl (Nat.le_of_ble_eq_true rfl) Zao.tmp ?_
    refine goA ?_
    refine evG ggA (Zab (Zaa rfl) rfl rfl hg) ?_
    refine goA ?_
    refine evG ggA (Zab (Zaa rfl) rfl rfl hc) ?_
    refine goA ?_
    exact rfl
  have hU : U.length ≤ 400 := hQ.1
  have hc := rcheck38_p (U := U) (by omega)
  rw [decide_eq_true hQ] at hc
  have hc : PC Tryz.prog 37 [.sl (U.map QE.av)] (iV 0) := hc
  have el : Zgb U m = U.all fun e => decide (e.w ≤ m) := by unfold Zgb; rw [g, decide_eq_true hQ]; simp
  rw [el]
  obtain ⟨X, hX⟩ : ∃ X, X = U.map QE.av := ⟨_, rfl⟩
  rw [← hX] at hl hg hc ⊢
  refine Zam true Tryz.func12 rfl rfl rfl (Nat.le_of_ble_eq_true rfl) Zao.tmp ?_
  refine goA ?_
  refine evG ggA (Zab (Zaa rfl) rfl rfl hg) ?_
  refine goA ?_
  refine evG ggA (Zab (Zaa rfl) rfl rfl hc) ?_
  refine goA ?_
  refine T.loop (fun N s1 => ∃ A B : List QE, U = A ++ B ∧ N = B.length ∧ (A.all fun e => decide (e.w ≤ m)) = true ∧ s1 = mkS [(0, .v (.sl X)), (1, .v (iV m)), (4, .v (bV false)), (5, .v (iV A.length))] [] 41 true) U.length
    (s' := mkS [(0, .v (.sl X)), (1, .v (iV m)), (4, .v (bV false)), (5, .v (iV ((0 : Nat) : Int)))] [] 41 true) (by exact entA) ⟨[], U, rfl, rfl, rfl, rfl⟩ ?_
  rintro _ _ ⟨A, B, hAB, rfl, hA, rfl⟩
  have hlA : U.length = A.length + B.length := by rw [hAB]; simp
  rcases B with _ | ⟨e, B⟩
  · have b1 : decide ((A.length : Int) < (X.length : Int)) = false := decide_eq_false (by simp at hlA; omega)
    have hr : (U.all fun e => decide (e.w ≤ m)) = true := by rw [hAB, List.append_nil]; exact hA
    rw [hr]
    clear hg hc
    refine goA ?_
    exact rfl
  have b1 : decide ((A.length : Int) < (X.length : Int)) = true := decide_eq_true (by simp at hlA; omega)
  have hget : X[((A.length : Nat) : Int).toNat]? = some e.av := by rw [hX, hAB]; exact Zc3 (by omega)
  have hAB2 : U = (A ++ [e]) ++ B := by rw [hAB]; simp
  have hlB : B.length < (e :: B).length := by simp
  have hnx : ((A.length : Nat) : Int) + 1 = ((A ++ [e]).length : Nat) := by simp
  have hyes : ¬ e.w ≤ m → (U.all fun e => decide (e.w ≤ m)) = false := fun h => by rw [hAB, List.all_append, List.all_cons, decide_eq_false h]; simp
  have hno : e.w ≤ m → ((A ++ [e]).all fun e => decide (e.w ≤ m)) = true := fun h => by rw [List.all_append, hA, List.all_cons, decide_eq_true h]; rfl
  have hv := hQ.2 e (by rw [hAB]; simp)
  have hXl : X.length ≤ 400 := by omega
  simp only [List.length_cons] at hlA
  clear hAB hg hc el hX
  obtain ⟨ea, eb, ec, g, d, g', d', eq⟩ := e
  have hw : (QE.mk ea eb ec g d g' d' eq).w = 2 * ea + 4 * eb + 6 * ec := rfl
  rw [hw] at hyes hno
  unfold QE.vt at hv
  rw [hw] at hv
  simp only at hv
  have hget : X[((A.length : Nat) : Int).toNat]? = some (.agg [iV ea, iV eb, iV ec, .p (.bool g), .sl d, .p (.bool g'), .sl d']) := hget
  by_cases h1 : 2 * ea + 4 * eb + 6 * ec ≤ m
  · have b2 : decide (2 * ea + 4 * eb + 6 * ec > m) = false := decide_eq_false (by omega)
    have hn := hno h1
    refine goA ?_
    refine evG ggA (Zad (Zaa rfl) (Zac rfl) rfl rfl (by omega) hget rfl) ?_
    refine goA ?_
    refine evG ggA (Zad (Zaa rfl) (Zac rfl) rfl rfl (by omega) hget rfl) ?_
    refine goA ?_
    refine evG ggA (Zad (Zaa rfl) (Zac rfl) rfl rfl (by omega) hget rfl) ?_
    refine goA ?_
    rw [hnx]
    exact Zae (k := B.length) (s' := mkS [(0, .v (.sl X)), (1, .v (iV m)), (4, .v (bV false)), (5, .v (iV ((A ++ [(⟨ea, eb, ec, g, d, g', d', eq⟩ : QE)]).length : Nat)))] [] 41 true) hlB (by exact entA) ⟨A ++ [⟨ea, eb, ec, g, d, g', d', eq⟩], B, hAB2, rfl, hn, rfl⟩
  · have b2 : decide (2 * ea + 4 * eb + 6 * ec > m) = true := decide_eq_true (by omega)
    rw [hyes h1]
    refine goA ?_
    refine evG ggA (Zad (Zaa rfl) (Zac rfl) rfl rfl (by omega) hget rfl) ?_
    refine goA ?_
    refine evG ggA (Zad (Zaa rfl) (Zac rfl) rfl rfl (by omega) hget rfl) ?_
    refine goA ?_
    refine evG ggA (Zad (Zaa rfl) (Zac rfl) rfl rfl (by omega) hget rfl) ?_
    refine goA ?_
    exact rfl
theorem light_ok {U : List QE} {m : Int} (ho : U.length ≤ 8 → (∀ e, e ∈ U → bigQ e = false) → ∀ e, e ∈ U → e.ok 3) (h : Zgb U m = true) : Vd U ∧ ∀ e, e ∈ U → e.w ≤ m := by
 unfold Zgb at h
 rw [Bool.and_eq_true, Bool.and_eq_true, Bool.not_eq_true'] at h
 obtain ⟨h1, h2, h3⟩ := h
 have hQ := of_decide_eq_true h2
 have h8 : U.length ≤ 8 := by
  by_cases h8 : U.length > 8
  ·unfold greatQ at h1
   rw [if_pos h8] at h1
   have := of_decide_eq_false h1
   have := hQ.1
   omega
  ·omega
 have hb : ∀ e, e ∈ U → bigQ e = false := fun e he => by
  unfold greatQ at h1
  rw [if_neg (by omega)] at h1
  have := List.any_eq_false.1 h1 e he
  simpa using this
 exact ⟨⟨hQ, h8, ho h8 hb⟩, fun e he => of_decide_eq_true (List.all_eq_true.1 h3 e he)⟩
structure NP (R : List QT) (H N : Nat) (W : Int) : Prop where
 d : QD R
 h : ∀ t, t ∈ R → Ht t.q H
 l : R.length ≤ N
 v : ∀ t, t ∈ R → Nn t ∧ (qe t).w ≤ W
theorem key_v {t u : QT} (e : u.k = t.k) {W : Int} (h : Nn u ∧ (qe u).w ≤ W) : Nn t ∧ (qe t).w ≤ W := by
 simp only [QT.k, Prod.mk.injEq] at e
 obtain ⟨e1, e2, e3⟩ := e
 unfold Nn QE.w at *
 simp only [qe] at *
 rw [← e1, ← e2, ← e3]
 exact h
section
variable {R : List QT} {H N P : Nat} {W : Int} (h : NP R H N W)
include h
theorem NP.vt (hW : W ≤ 60) : ∀ t, t ∈ R → (qe t).vt := fun t ht => by
 obtain ⟨h1, h2⟩ := h.v t ht
 unfold Nn at h1
 unfold QE.vt
 unfold QE.w at h2 ⊢
 simp only [qe] at *
 omega
theorem NP.tn (hW : W ≤ 60) : ∀ t, t ∈ R → t.tn := fun t ht => by
 have := h.vt hW t ht
 unfold QE.vt at this
 simp only [qe] at this
 unfold QT.tn
 omega
theorem NP.tg (hH : 1 ≤ H) (hW : W ≤ 60) : TG H N (qnf R) where
 ne := qn_ne (qnf_n R)
 ht := nf_ht fun k => QD.co_ht hH k h.d h.h
 ex := fun t ht => by
  obtain ⟨u, hu, e⟩ := Zff ht
  obtain ⟨h1, h2⟩ := key_v e (h.v u hu)
  unfold Nn at h1
  unfold QE.w at h2
  simp only [qe] at h2
  omega
 len := Nat.le_trans (qnf_len R) h.l
theorem NP.valid (hN : N ≤ 400) (hW : W ≤ 60) : PC Tryz.prog 38 [.sl (PL R)] (bV true) := by
 have hl := h.l
 have c := qvalid_p (U := R.map qe) (by rw [List.length_map]; omega)
 rw [decide_eq_true (show QV (R.map qe) from ⟨by rw [List.length_map]; omega, fun e he => by obtain ⟨t, ht, rfl⟩ := List.mem_map.1 he; exact h.vt hW t ht⟩)] at c
 exact c
theorem NP.tidy (hH : 1 ≤ H ∧ H ≤ 100000) (hN : N ≤ 400) (hW : W ≤ 60) : PC Tryz.prog 29 [.sl (PL R)] (.sl (PL (qnf R))) :=
 Zge (sort_p 400 (by decide)) (K := H) (Nat.le_trans h.l hN) (by decide) (fun t ht => (h.tn hW t ht).sm) h.h hH.1 (by omega)
theorem NP.exp (hH : 1 ≤ H ∧ H ≤ 100000) (hN : N ≤ 400) (hW : W ≤ 60) (hP : P ≤ 20) : EX (PL R) P (fun n => qlf (xP n) R) (kG H N) (xS P (qnf R)) := by
 have e := expH (P := P) (h.tg hH.1 hW) hH hN hP (h.valid hN hW) (h.tidy hH hN hW)
 exact ⟨e.c, e.o, fun n hn => by rw [e.f n hn, qlf_nf]⟩
end
theorem Vd.np {U : List QE} (h : Vd U) {m : Int} (hw : ∀ e, e ∈ U → e.w ≤ m) : NP (qnf (U.map QE.t)) 33 8 m := by
 have z := h.nz
 refine ⟨z.d, z.h, z.l, fun t ht => ?_⟩
 obtain ⟨u, hu, e⟩ := Zff ht
 obtain ⟨x, hx, rfl⟩ := List.mem_map.1 hu
 refine key_v e ⟨?_, hw x hx⟩
 have := h.q.2 x hx
 unfold QE.vt at this
 exact ⟨this.1, this.2.1, this.2.2.1⟩
theorem Vd.exp {U : List QE} (h : Vd U) {P : Nat} (hP : P ≤ 20) : EX (U.map QE.av) P (fun n => qlf (xP n) (qnf (U.map QE.t))) (kG 33 8) (xS P (qnf (U.map QE.t))) := by
 have hv := qvalid_p (U := U) (by have := h.l; omega)
 rw [decide_eq_true h.q] at hv
 have z := h.nz
 refine expH ⟨qn_ne z.n, z.h, fun t ht => ?_, z.l⟩ (by decide) (by decide) hP hv h.tidy
 have := z.v t ht
 unfold QE.vt QE.w at this
 simp only [qe] at this
 omega
theorem dv_key {p : List QT} {u : QT} {W : Int} (hp : ∀ t, t ∈ p → Nn t ∧ (qe t).w ≤ W) (h : u ∈ qdv p) : Nn u ∧ (qe u).w ≤ W + 2 := by
 unfold qdv at h
 obtain ⟨t, ht, h⟩ := List.mem_flatMap.1 h
 obtain ⟨h1, h2⟩ := hp t ht
 obtain ⟨ta, tb, tc, tq⟩ := t
 unfold Nn at *
 unfold QE.w at *
 simp only [qe] at *
 unfold qd1 at h
 simp only [List.mem_append] at h
 rcases h with h | h | h | h | h | h <;> (obtain ⟨h0, rfl⟩ := qad_mem h; simp only at h0 ⊢; omega)
theorem NP.dv {R : List QT} {H N : Nat} {W : Int} (h : NP R H N W) (hH : 1 ≤ H) (hW : W ≤ 60) : NP (qnf (qdv R)) (4 * H + 11) (4 * N) (W + 2) := by
 refine ⟨qnf_d _, nf_ht fun k => dv_ht hH h.d (h.tn hW) h.h k, Nat.le_trans (qdv_len4 R) (by have := h.l; omega), fun t ht => ?_⟩
 obtain ⟨u, hu, e⟩ := Zff ht
 exact key_v e (dv_key h.v hu)
theorem NP.ml {R S : List QT} {H N K M : Nat} {W V : Int} (h : NP R H N W) (k : NP S K M V) (hH : 1 ≤ H) : NP (qnf (qml R S)) (1 + N * (H + K + 1)) (N * M) (W + V) := by
 refine ⟨qnf_d _, nf_ht fun y => (mul_htL hH k.d k.h y h.h).mono ?_, Nat.le_trans (qnf_len _) (by rw [qml_len]; exact Nat.mul_le_mul h.l k.l), fun t ht => ?_⟩
 ·have := Nat.mul_le_mul_right (H + K + 1) h.l
  omega
 ·obtain ⟨u, hu, e⟩ := Zff ht
  refine key_v e ?_
  obtain ⟨x, y, hx, hy, rfl⟩ := qml_mem hu
  obtain ⟨h1, h2⟩ := h.v x hx
  obtain ⟨k1, k2⟩ := k.v y hy
  unfold Nn QE.w at *
  simp only [qe, qpr] at *
  omega
theorem NP.sum {R S : List QT} {H N K M : Nat} {W : Int} (h : NP R H N W) (k : NP S K M W) (hH : 1 ≤ H) (hK : 1 ≤ K) : NP (qnf (R ++ S)) (H + K + 1) (N + M) W := by
 refine ⟨qnf_d _, nf_ht (sum_ht hH hK h.d k.d h.h k.h), Nat.le_trans (qnf_len _) (by rw [List.length_append]; have := h.l; have := k.l; omega), fun t ht => ?_⟩
 obtain ⟨u, hu, e⟩ := Zff ht
 refine key_v e ?_
 rcases List.mem_append.1 hu with hu | hu
 ·exact h.v u hu
 ·exact k.v u hu
section
variable {U V : List QE} (h : Vd U) (k : Vd V)
include h
theorem Vd.valid : PC Tryz.prog 38 [.sl (U.map QE.av)] (bV true) := by
 have hv := qvalid_p (U := U) (by have := h.l; omega)
 rw [decide_eq_true h.q] at hv
 exact hv
theorem Vd.derv : PC Tryz.prog 47 [.sl (PL (qnf (U.map QE.t)))] (.sl (PL (qnf (qdv (qnf (U.map QE.t)))))) := by
 have z := h.nz
 have c := qderive_p (sort_p 48 (by decide)) (U := (qnf (U.map QE.t)).map qe) (K := 33) (by rw [List.length_map]; have := z.l; omega) (by decide) z.tn z.ok (by decide) (by decide)
 rw [qe_map] at c
 exact c
include k
omit k
theorem Vd.qser (hw : ∀ e, e ∈ U → e.w ≤ 58) {k : Int} (hp : purQ ((qnf (U.map QE.t)).map qe) = true) (hk : topQ ((qnf (U.map QE.t)).map qe) = k) (hk2 : k ≤ 58) (h0 : 0 < (qnf (U.map QE.t)).length) :
  PC Tryz.prog 17 [.sl (U.map QE.av)] (.tup [.sl (PL (qnf (qnf (qdv (qnf (U.map QE.t))) ++ qnf (qml (qnf (U.map QE.t)) [⟨1, 0, 0, ((0 - k : Int) : Rat) / ((12 : Int) : Rat)⟩])))), iV 0]) := by
 have hz := h.nz
 have np := h.np hw
 have hv := h.valid
 have t1 := h.tidy
 have cd := h.derv
 clear h
 generalize qnf (U.map QE.t) = P at *
 have pl := hz.l
 have p1 := qpure_p (U := P.map qe) (by rw [List.length_map]; omega) hz.sm
 rw [hp, if_pos rfl, hk] at p1
 have b1 := hz.top
 rw [hk] at b1
 have nd := np.dv (by decide) (by decide)
 have hf := qfrac_p (n := 0 - k) (d := 12) (by omega) (by decide) (by decide)
 have hh : Ht (((0 - k : Int) : Rat) / ((12 : Int) : Rat)) 2 := ht_frac (by omega) (by decide)
 generalize ((0 - k : Int) : Rat) / ((12 : Int) : Rat) = f at *
 have n1 : NP [(⟨1, 0, 0, f⟩ : QT)] 2 1 2 := ⟨List.pairwise_singleton .., fun t ht => by rw [List.mem_singleton.1 ht]; exact hh, by simp, fun t ht => by rw [List.mem_singleton.1 ht]; unfold Nn QE.w; simp [qe]⟩
 have nw := np.ml n1 (by decide)
 have hwt := qtimes_p (sort_p 8 (by decide)) (U := P.map qe) (V := [qe ⟨1, 0, 0, f⟩]) (K := 33) (by rw [List.length_map]; simpa using pl) (by decide) (by rw [List.length_map]; omega) (by simp) hz.tn (fun e he => by rw [List.mem_singleton.1 he]; unfold QT.tn; rw [qe_t]; simp) hz.ok (fun e he => by rw [List.mem_singleton.1 he]; exact qe_ok (hh.mono (by decide))) (by decide) (by decide)
 rw [qe_map, show [qe ⟨1, 0, 0, f⟩].map QE.t = [(⟨1, 0, 0, f⟩ : QT)] from rfl] at hwt
 have dl := nd.l
 have wl := nw.l
 have hcc := concat_p ((qnf (qdv P)).map qe) ((qnf (qml P [⟨1, 0, 0, f⟩])).map qe) (by rw [List.length_map]; omega) (by rw [List.length_map]; omega)
 rw [← List.map_append] at hcc
 have hr := Zge (sort_p 40 (by decide)) (L := qnf (qdv P) ++ qnf (qml P [⟨1, 0, 0, f⟩])) (K := 400) (by rw [List.length_append]; omega) (by decide) (fun t ht => by
  rcases List.mem_append.1 ht with ht | ht
  ·exact (nd.tn (by decide) t ht).sm
  ·exact (nw.tn (by decide) t ht).sm) (fun t ht => by
  rcases List.mem_append.1 ht with ht | ht
  ·exact (nd.h t ht).mono (by decide)
  ·exact (nw.h t ht).mono (by decide)) (by decide) (by decide)
 exact qserre_core hv t1 p1 (by rw [Zft]; omega) (by omega) b1.1 hf hwt cd hcc hr
end
end Ab
