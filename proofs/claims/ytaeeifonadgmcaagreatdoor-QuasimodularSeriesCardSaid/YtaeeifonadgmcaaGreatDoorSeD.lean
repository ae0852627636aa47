/- The statement QuasimodularSeries: brackets answer the same on both sides, the walk of the law. -/
import Derived.Test.YtaeeifonadgmcaaGreatDoorSeB
import Derived.Test.YtaeeifonadgmcaaGreatDoorSeC
set_option linter.all false
namespace Ab
open Go Go.RowKit Go.Proofs Hp
set_option maxRecDepth 100000
abbrev eS (x : Sr) : Int × List AV := (x.1, x.2.map encQ)
theorem mon_zero' {p : Int} (h0 : -100 ≤ p) (h1 : p ≤ 1000) : monR 0 0 p = some (p, []) := by
 unfold monR
 rw [show MV 0 p = true by unfold MV; simp; omega, if_pos rfl]
 by_cases hp : (0 : Int) ≥ p
 ·rw [if_pos hp]
 ·rw [if_neg hp]
  have hz : ∀ n : Nat, ((0 : Rat) :: List.replicate n 0) = List.replicate (n + 1) 0 := fun n => rfl
  rw [hz]
  have hl : ∀ n : Nat, lead (List.replicate n (0 : Rat)) = n := by
   intro n
   induction n with
   | zero => rfl
   | succ n ih => rw [List.replicate_succ, lead, if_pos rfl, ih]
  have e : (p - 0).toNat - 1 + 1 = p.toNat := by omega
  rw [e]
  unfold nrm Zdc ncut
  have hc : ¬ (0 : Int) > 1000 := by decide
  simp only [if_neg hc]
  first | rw [List.take_of_length_le (by rw [List.length_replicate]; omega)] | skip
  rw [hl, if_neg (by omega)]
  refine congrArg some ?_
  refine Prod.ext ?_ ?_
  ·show (0 : Int) + (p.toNat : Int) = p
   omega
  ·show (List.replicate p.toNat (0 : Rat)).drop p.toNat = []
   rw [List.drop_eq_nil_iff, List.length_replicate]
   exact Nat.le_refl _
structure BBoth (a b : AV) (n : Int) : Prop where
 ex : ∃ (y : Int) (Y : List AV) (e : Int), PC Tryz.prog 13 [a, b, iV n] (.tup [serA y Y, iV e]) ∧ PC Tryz.prog 14 [a, b, iV n] (.tup [serA y Y, iV e]) ∧ PC Tryz.prog 9 [serA y Y, serA y Y] (bV true)
theorem same_0 : PC Tryz.prog 9 [serA 0 [], serA 0 []] (bV true) := sameQ_p (s := 0) (t := 0) (l := []) (m := []) (k := 1) (fun q h => (by cases h)) (by decide) (by decide)
theorem same_sok {y : Sr} {p b : Int} {K : Nat} (h : SOK y p b K) (hK : K ≤ 1000000) : PC Tryz.prog 9 [serA y.1 (y.2.map encQ), serA y.1 (y.2.map encQ)] (bV true) := by
 have hv := Zas.1 h.v
 have hs := sameQ_p (s := y.1) (t := y.1) (l := y.2) (m := y.2) h.h (by omega) (by omega)
 rw [decide_eq_true ⟨rfl, rfl⟩] at hs
 exact hs
section
variable {s t k l : Int} {es fs : List AV} {p m : List Rat} (ha : SIn s es p) (hb : SIn t fs m) (hk : 0 ≤ k ∧ k ≤ 60) (hl : 0 ≤ l ∧ l ≤ 60) {n : Nat} (hn : n ≤ 6)
include ha
theorem SIn.tok : SOK (tdy s p) (s + p.length) (tdy s p).1 8 ∧ lead (tdy s p).2 = 0 ∧ (tdy s p).2.length ≤ 10 := by
 have h := tdy_ok ha.ok
 refine ⟨⟨h.v, h.p, Int.le_refl _, h.h⟩, Zgv p, ?_⟩
 show (p.drop (lead p)).length ≤ 10
 rw [List.length_drop]
 have := ha.n
 omega
theorem SIn.nor : PC Tryz.prog 33 [serA s es] (.tup [serA (tdy s p).1 ((tdy s p).2.map encQ), iV 0]) := by
 have c1 := normal_p (s := s) (es := es) (l := p) (K := 8) (fun _ => ha.L) ha.len ha.r (by decide)
 rw [show norR s p = some (tdy s p) by unfold norR; rw [ha.v, if_pos rfl]] at c1
 exact c1
theorem SIn.chk : PC Tryz.prog 32 [serA s es] (iV 0) := by
 have d0 := Zfp (es := es) ha.r.lo ha.r.hi ha.r.len
 rw [show (if Zaq s es.length = true then (0 : Int) else 2) = 0 by rw [ha.len, ha.v]; rfl] at d0
 exact d0
def rawS (s : Int) (es : List AV) (p : List Rat) (i : Nat) : Int × List AV := if i = 0 then (s, es) else eS (thI i (s, p))
theorem raw_ok (i : Nat) (hi : i ≤ 6) : IsL (rawS s es p i).2 14 (thI i (s, p)).2 ∧ (rawS s es p i).1 = (thI i (s, p)).1 ∧ InR (rawS s es p i).1 (rawS s es p i).2.length ∧ (rawS s es p i).2.length = (thI i (s, p)).2.length := by
 unfold rawS
 by_cases h : i = 0
 ·subst h
  rw [if_pos rfl]
  exact ⟨ha.L.mono (by decide), rfl, ha.r, ha.len⟩
 ·rw [if_neg h]
  have o := Zf5 (by decide) ha.ok i
  exact ⟨Zbs fun q hq => (o.h q hq).mono (by omega), rfl, Zds o.v, List.length_map ..⟩
theorem raw_theta {i : Nat} (hi : i < 6) : PC Tryz.prog 43 [serA (rawS s es p i).1 (rawS s es p i).2] (.tup [serA (rawS s es p (i + 1)).1 (rawS s es p (i + 1)).2, iV 0]) := by
 obtain ⟨h1, h2, h3, h4⟩ := raw_ok ha i (by omega)
 have o := Zf5 (by decide) ha.ok i
 obtain ⟨t1, t2, -⟩ := thS_ok (by omega) o
 have c := rtheta_p (s := (rawS s es p i).1) (es := (rawS s es p i).2) (l := (thI i (s, p)).2) (K := 14) (fun _ => h1) h4 h3 (by decide) (by decide)
 rw [h2, t2] at c
 rw [h2]
 have e : rawS s es p (i + 1) = eS (thS (thI i (s, p))) := by unfold rawS; rw [if_neg (by omega)]; rfl
 rw [e]
 exact c
theorem prog_theta {i : Nat} (hi : i < 6) : PC Tryz.prog 34 [serA (eS (thI i (tdy s p))).1 (eS (thI i (tdy s p))).2] (.tup [serA (eS (thI (i + 1) (tdy s p))).1 (eS (thI (i + 1) (tdy s p))).2, iV 0]) := by
 have o := Zf5 (by decide) ha.tok.1 i
 obtain ⟨t1, t2, -⟩ := thS_ok (by omega) o
 have c := theta_p (s := (thI i (tdy s p)).1) (es := (thI i (tdy s p)).2.map encQ) (l := (thI i (tdy s p)).2) (K := 14) (fun _ => Zbs fun q hq => (o.h q hq).mono (by omega)) (by simp) (Zds o.v) (by decide)
 rw [t2] at c
 exact c
include hb
theorem whole_ok : (∃ y : Sr, mulR s p t m = some y ∧ SOK y (min 1000 (min ((tdy s p).1 + (t + m.length)) ((tdy t m).1 + (s + p.length)))) (-100) 171) ∧ -100 ≤ (tdy s p).1 + (tdy t m).1 ∨ mulR s p t m = none ∧ (tdy s p).1 + (tdy t m).1 < -100 := by
 obtain ⟨h1, h2, h3⟩ := ha.tok
 obtain ⟨k1, k2, k3⟩ := hb.tok
 have ms := mul_some (N := 10) (by decide) h1 k1 h2 k2 h3
 rw [mulR_l ha.v, mulR_r hb.v] at ms
 by_cases h : -100 ≤ (tdy s p).1 + (tdy t m).1
 ·obtain ⟨u, c, e, o⟩ := ms.1 h
  exact .inl ⟨⟨(u, c), e, o⟩, h⟩
 ·exact .inr ⟨ms.2 (by omega), by omega⟩
def pP (s t : Int) (p m : List Rat) (n r : Nat) : Sr := (sF (mulR (thI r (tdy s p)).1 (thI r (tdy s p)).2 (thI (n - r) (tdy t m)).1 (thI (n - r) (tdy t m)).2), sL (mulR (thI r (tdy s p)).1 (thI r (tdy s p)).2 (thI (n - r) (tdy t m)).1 (thI (n - r) (tdy t m)).2))
include hn
theorem pP_ok (h : -100 ≤ (tdy s p).1 + (tdy t m).1) {r : Nat} (hr : r ≤ n) : mulR (thI r (tdy s p)).1 (thI r (tdy s p)).2 (thI (n - r) (tdy t m)).1 (thI (n - r) (tdy t m)).2 = some (pP s t p m n r) ∧ ∃ p', min 1000 (min ((tdy s p).1 + (t + m.length)) ((tdy t m).1 + (s + p.length))) ≤ p' ∧ SOK (pP s t p m n r) p' (-100) 291 := by
 obtain ⟨h1, h2, h3⟩ := ha.tok
 obtain ⟨k1, k2, k3⟩ := hb.tok
 have o1 := (Zf5 (by decide) h1 r).mono (L := 14) (by omega)
 have o2 := (Zf5 (by decide) k1 (n - r)).mono (L := 14) (by omega)
 have l1 := thI_lead (by decide) h1 h2 r
 have l2 := thI_lead (by decide) k1 k2 (n - r)
 have b1 := o1.b
 have b2 := o2.b
 have p1 := o1.p
 have q1 := h1.p
 have ms := mul_some (N := 10) (by decide) o1 o2 l1 l2 (by omega)
 obtain ⟨u, c, e, o⟩ := ms.1 (by omega)
 have e2 : pP s t p m n r = (u, c) := by unfold pP; rw [e]; rfl
 rw [e2]
 exact ⟨e, _, by omega, o⟩
include hk hl
theorem both_bracketS : BBoth (wA s es k) (wA t fs l) n := by
 have cn1 := ha.nor
 have cn2 := hb.nor
 have cc1 := ha.chk
 have cc2 := hb.chk
 obtain ⟨h1, h2, h3⟩ := ha.tok
 obtain ⟨k1, k2, k3⟩ := hb.tok
 have cw := mul_p (s := (tdy s p).1) (t := (tdy t m).1) (es := (tdy s p).2.map encQ) (fs := (tdy t m).2.map encQ) (l := (tdy s p).2) (m := (tdy t m).2) (K := 8) (Ze2 h1 k1) (by decide)
 rw [mulR_l ha.v, mulR_r hb.v] at cw
 have dw := rmul33_p (s := s) (t := t) (es := es) (fs := fs) (l := p) (m := m) (K := 8) (M := 10) (both_mk ha.L hb.L ha.r hb.r) (by decide) (by decide) (by decide) (fun _ => by rw [ha.len]; exact ha.n)
 rcases whole_ok ha hb with ⟨⟨y, ey, oy⟩, hw⟩ | ⟨ey, -⟩
 case inr =>
  rw [ey] at cw dw
  exact ⟨0, [], 2, qbs_mul hn hk hl (f := eS (tdy s p)) (g := eS (tdy t m)) cn1 cn2 cw, rbs_mul hn hk hl cc1 cc2 dw, same_0⟩
 rw [ey] at cw dw
 obtain ⟨P, hP⟩ : ∃ P, P = min 1000 (min ((tdy s p).1 + (t + m.length)) ((tdy t m).1 + (s + p.length))) := ⟨_, rfl⟩
 rw [← hP] at oy
 obtain ⟨v0, v1, v2⟩ := Zas.1 oy.v
 have yp := oy.p
 have yb := oy.b
 have P0 : -100 ≤ P := by omega
 have P1 : P ≤ 1000 := by omega
 have cp := sprec_p (s := y.1) (es := y.2.map encQ) (Zds oy.v)
 have ev : Zaq y.1 (y.2.map encQ).length = true := by rw [List.length_map]; exact oy.v
 rw [ev, if_pos rfl, if_pos rfl, List.length_map, yp] at cp
 have dp := Zga (s := y.1) (es := y.2.map encQ) v0 v1 (by rw [List.length_map]; exact v2)
 rw [List.length_map, yp] at dp
 have c0 := Zep 0 (by decide) (by decide)
 rw [show ((0 : Int) : Rat) = 0 from rfl] at c0
 have cm := monomial_p (a := encQ 0) (c := 0) (K := 1) (n := 0) (p := P) (Zaj (ht0 (by decide))) (by decide)
 rw [mon_zero' P0 P1] at cm
 have de := empty_p' P
 have hpr : ∀ r, r < n + 1 → ∃ p', P ≤ p' ∧ SOK (pP s t p m n r) p' (-100) 291 := fun r hr => by rw [hP]; exact (pP_ok ha hb hn hw (by omega)).2
 have hfc : ∀ r, r < n + 1 → Ht ((fcI n r k l : Int) : Rat) 2 := fun r hr => ht_big (fcI_le hn (by omega) hk hl).2
 have bo := brO_ok (c := fun r => ((fcI n r k l : Int) : Rat)) (pr := pP s t p m n) (p := P) (K := 291) (C := 2) (n := n + 1) (by decide) (by decide) P0 P1 hfc hpr
 have bk : ∀ r, r ≤ n + 1 → brK (2 + 291) r ≤ 100000 := fun r hr => by
  have : ∀ r : Nat, r ≤ 7 → brK (2 + 291) r ≤ 100000 := by decide
  exact this r (by omega)
 have bs : ∀ r, r ≤ n → sclR ((fcI n r k l : Int) : Rat) (pP s t p m n r).1 (pP s t p m n r).2 = some (sF (sclR ((fcI n r k l : Int) : Rat) (pP s t p m n r).1 (pP s t p m n r).2), sL (sclR ((fcI n r k l : Int) : Rat) (pP s t p m n r).1 (pP s t p m n r).2)) ∧ SOK (sF (sclR ((fcI n r k l : Int) : Rat) (pP s t p m n r).1 (pP s t p m n r).2), sL (sclR ((fcI n r k l : Int) : Rat) (pP s t p m n r).1 (pP s t p m n r).2)) ((pP s t p m n r).1 + (pP s t p m n r).2.length) (-100) (2 + 291) ∧ Ze7 (brO (fun r => ((fcI n r k l : Int) : Rat)) (pP s t p m n) P r).1 (brO (fun r => ((fcI n r k l : Int) : Rat)) (pP s t p m n) P r).2 (sF (sclR ((fcI n r k l : Int) : Rat) (pP s t p m n r).1 (pP s t p m n r).2)) (sL (sclR ((fcI n r k l : Int) : Rat) (pP s t p m n r).1 (pP s t p m n r).2)) 1 = some (brO (fun r => ((fcI n r k l : Int) : Rat)) (pP s t p m n) P (r + 1)) := fun r hr => (bo (n + 1) (Nat.le_refl _)).2 r (by omega)
 have bO : ∀ r, r ≤ n + 1 → SOK (brO (fun r => ((fcI n r k l : Int) : Rat)) (pP s t p m n) P r) P (-100) 100000 := fun r hr => (bo r hr).1.mono (bk r hr)
 generalize hzz : (fun r => (sF (sclR ((fcI n r k l : Int) : Rat) (pP s t p m n r).1 (pP s t p m n r).2), sL (sclR ((fcI n r k l : Int) : Rat) (pP s t p m n r).1 (pP s t p m n r).2))) = Z at *
 have bs : ∀ r, r ≤ n → sclR ((fcI n r k l : Int) : Rat) (pP s t p m n r).1 (pP s t p m n r).2 = some (Z r) ∧ SOK (Z r) ((pP s t p m n r).1 + (pP s t p m n r).2.length) (-100) (2 + 291) ∧ Ze7 (brO (fun r => ((fcI n r k l : Int) : Rat)) (pP s t p m n) P r).1 (brO (fun r => ((fcI n r k l : Int) : Rat)) (pP s t p m n) P r).2 (Z r).1 (Z r).2 1 = some (brO (fun r => ((fcI n r k l : Int) : Rat)) (pP s t p m n) P (r + 1)) := fun r hr => by
  have := bs r hr
  rw [← hzz]
  exact this
 generalize hO : brO (fun r => ((fcI n r k l : Int) : Rat)) (pP s t p m n) P = O at *
 have O0 : O 0 = (P, []) := by rw [← hO]; rfl
 refine ⟨(O (n + 1)).1, (O (n + 1)).2.map encQ, 0, ?_, ?_, same_sok (bO (n + 1) (Nat.le_refl _)) (by decide)⟩
 ·refine qbs_core hn (f := fun i => eS (thI i (tdy s p))) (g := fun i => eS (thI i (tdy t m))) (o := fun r => eS (O r)) (m := fun r => eS (pP s t p m n r)) (z := fun r => eS (Z r)) (b1 := fun r => bnG ((n : Int) + k - 1) (n - r)) (b2 := fun r => bnG ((n : Int) + l - 1) r) (q := fun r => ((fcI n r k l : Int) : Rat))
   hk hl cn1 cn2 cw cp (fun i hi => prog_theta ha (by omega)) (fun i hi => prog_theta hb (by omega)) c0 (by rw [O0]; exact cm)
   (fun r hr => by
    have c := qbin_p (m := (n : Int) + k - 1) (s := n - r) (by omega) (by omega) (by omega)
    rw [show ((n - r : Nat) : Int) = (n : Int) - r by omega] at c
    exact c) (fun r hr => qbin_p (m := (n : Int) + l - 1) (s := r) (by omega) (by omega) (by omega))
   (fun r hr => (fcI_le hn hr hk hl).1) (fun r hr => by
    have := (fcI_le (m := n) (r := r) (k := k) (l := l) hn hr hk hl).2
    exact Zep (fcI n r k l) (by omega) (by omega)) (fun r hr => ?_) (fun r hr => ?_) (fun r hr => ?_)
  ·have o1 := (Zf5 (by decide) h1 r).mono (L := 14) (by omega)
   have o2 := (Zf5 (by decide) k1 (n - r)).mono (L := 14) (by omega)
   have c := mul_p (s := (thI r (tdy s p)).1) (t := (thI (n - r) (tdy t m)).1) (es := (thI r (tdy s p)).2.map encQ) (fs := (thI (n - r) (tdy t m)).2.map encQ) (l := (thI r (tdy s p)).2) (m := (thI (n - r) (tdy t m)).2) (K := 14) (Ze2 o1 o2) (by decide)
   rw [(pP_ok ha hb hn hw hr).1] at c
   exact c
  ·obtain ⟨p', -, o⟩ := (pP_ok ha hb hn hw hr).2
   have c := scale_p (a := encQ ((fcI n r k l : Int) : Rat)) (s := (pP s t p m n r).1) (es := (pP s t p m n r).2.map encQ) (l := (pP s t p m n r).2) (k := 2) (K := 291) (Zaj (hfc r (by omega))) (fun _ => Zbs o.h) (by simp) (Zds o.v) (by decide) (by decide) (by decide)
   rw [(bs r hr).1] at c
   exact c
  ·have c := add_p (s := (O r).1) (t := (Z r).1) (es := (O r).2.map encQ) (fs := (Z r).2.map encQ) (l := (O r).2) (m := (Z r).2) (K := 100000) (Ze2 (bO r (by omega)) ((bs r hr).2.1.mono (by decide))) (by decide)
   rw [(bs r hr).2.2] at c
   exact c
 ·refine rbs_core hn (f := rawS s es p) (g := rawS t fs m) (o := fun r => eS (O r)) (m := fun r => eS (pP s t p m n r)) (z := fun r => eS (Z r)) (q := fun r => ((fcI n r k l : Int) : Rat))
   hk hl rfl rfl cc1 cc2 dw dp (by rw [O0]; exact de) (fun i hi => raw_theta ha (by omega)) (fun i hi => raw_theta hb (by omega)) (fun r hr => rFac_p hn hr hk hl) (fun r hr => ?_) (fun r hr => ?_) (fun r hr => ?_)
  ·obtain ⟨a1, a2, a3, a4⟩ := raw_ok ha r (by omega)
   obtain ⟨b1, b2, b3, b4⟩ := raw_ok hb (n - r) (by omega)
   have o1 := Zf5 (by decide) ha.ok r
   have c := rmul33_p (s := (rawS s es p r).1) (t := (rawS t fs m (n - r)).1) (es := (rawS s es p r).2) (fs := (rawS t fs m (n - r)).2) (l := (thI r (s, p)).2) (m := (thI (n - r) (t, m)).2) (K := 14) (M := 1200) (both_mk a1 b1 a3 b3) (by decide) (by decide) (by decide) (fun _ => by
    have := Zas.1 o1.v
    rw [a4]
    omega)
   rw [a2, b2, ← thI_mul (by decide) ha.ok hb.ok r (n - r), (pP_ok ha hb hn hw hr).1] at c
   rw [a2, b2]
   exact c
  ·obtain ⟨p', -, o⟩ := (pP_ok ha hb hn hw hr).2
   have c := rscale_p (a := encQ ((fcI n r k l : Int) : Rat)) (s := (pP s t p m n r).1) (es := (pP s t p m n r).2.map encQ) (l := (pP s t p m n r).2) (k := 2) (K := 291) (Zaj (hfc r (by omega))) (fun _ => Zbs o.h) (by simp) (Zds o.v) (by decide) (by decide) (by decide)
   rw [(bs r hr).1] at c
   exact c
  ·have c := radd33_p (s := (O r).1) (t := (Z r).1) (es := (O r).2.map encQ) (fs := (Z r).2.map encQ) (l := (O r).2) (m := (Z r).2) (K := 100000) (Ze2 (bO r (by omega)) ((bs r hr).2.1.mono (by decide))) (by decide)
   rw [(bs r hr).2.2] at c
   exact c
end
set_option maxHeartbeats 4000000 in
theorem lser_core {s t k l n y z e e' : Int} {es fs Y Z : List AV} (hx : PC Tryz.prog 10 [iV 10, serA s es] (bV false)) (hy : PC Tryz.prog 10 [iV 10, serA t fs] (bV false))
  (p1 : PC Tryz.prog 11 [serA s es, iV k] (.tup [serA y Y, iV e])) (q1 : PC Tryz.prog 12 [serA s es, iV k] (.tup [serA y Y, iV e])) (s1 : PC Tryz.prog 9 [serA y Y, serA y Y] (bV true))
  (p2 : PC Tryz.prog 13 [wA s es k, wA t fs l, iV n] (.tup [serA z Z, iV e'])) (q2 : PC Tryz.prog 14 [wA s es k, wA t fs l, iV n] (.tup [serA z Z, iV e'])) (s2 : PC Tryz.prog 9 [serA z Z, serA z Z] (bV true)) :
  PC Tryz.prog 4 [wA s es k, wA t fs l, iV n] (bV true) := by
 have aw := q38awake_p
 have n1 : (e == e) = true := by simp
 have n2 : (e' == e') = true := by simp
 refine Zaf true Tryz.func4 rfl rfl rfl (Nat.le_of_ble_eq_true rfl) Zah.tmp ?_
 refine goA ?_
 refine evG ggA (Zab (Zaa rfl) rfl rfl hx) ?_
 refine goA ?_
 refine evG ggA (Zab (Zaa rfl) rfl rfl hy) ?_
 refine goA ?_
 refine evG ggA (Zab (Zaa rfl) rfl rfl p1) ?_
 refine goA ?_
 refine evG ggA (Zab (Zaa rfl) rfl rfl q1) ?_
 refine goA ?_
 refine evG ggA (Zab (Zaa rfl) rfl rfl p2) ?_
 refine goA ?_
 refine evG ggA (Zab (Zaa rfl) rfl rfl q2) ?_
 refine goA ?_
 refine evG ggA (Zab (Zaa rfl) rfl rfl s1) ?_
 refine goA ?_
 refine evG ggA (Zab (Zaa rfl) rfl rfl s2) ?_
 refine goA ?_
 refine evG ggA (Zab (Zaa rfl) rfl rfl aw) ?_
 refine goA ?_
 exact rfl
theorem lser_aw {s t k l n : Int} {es fs : List AV} {b c : Bool} (hx : PC Tryz.prog 10 [iV 10, serA s es] (bV b)) (hy : PC Tryz.prog 10 [iV 10, serA t fs] (bV c)) (h : b = true ∨ c = true) :
    PC Tryz.prog 4 [wA s es k, wA t fs l, iV n] (bV true) := by
  have aw := q38awake_p
  cases b with
  | true =>
    refine Zaf true Tryz.func4 rfl rfl rfl (Nat.le_of_ble_eq_true rfl) Zah.tmp ?_
    refine goA ?_
    refine evG ggA (Zab (Zaa rfl) rfl rfl hx) ?_
    refine goA ?_
    refine evG ggA (Zab (Zaa rfl) rfl rfl aw) ?_
    refine goA ?_
    exact rfl
  | false =>
    obtain rfl : c = true := by simpa using h
    refine Zaf true Tryz.func4 rfl rfl rfl (Nat.le_of_ble_eq_true rfl) Zah.tmp ?_
    refine goA ?_
    refine evG ggA (Zab (Zaa rfl) rfl rfl hx) ?_
    refine goA ?_
    refine evG ggA (Zab (Zaa rfl) rfl rfl hy) ?_
    refine goA ?_
    refine evG ggA (Zab (Zaa rfl) rfl rfl aw) ?_
    refine goA ?_
    exact rfl
theorem in_cases {s : Int} {R : List RQ} (hd : ∀ r, r ∈ R → DigR r) (hr : InR s (R.map rawA).length) (h : brB s (R.map rawA) = false) : SIn s (R.map rawA) (R.map ratO) ∨ (PC Tryz.prog 33 [serA s (R.map rawA)] (.tup [serA 0 [], iV 2]) ∧ PC Tryz.prog 32 [serA s (R.map rawA)] (iV 2)) := by
  have d0 := Zfp (s := s) (es := R.map rawA) hr.lo hr.hi hr.len
  cases hv : Zaq s (R.map rawA).length with
  | false =>
    have c1 := normal_p (s := s) (es := R.map rawA) (l := R.map ratO) (K := 8) (fun h => by rw [hv] at h; cases h) (by simp) hr (by decide)
    have hv2 : Zaq s (R.map ratO).length = false := by rw [List.length_map] at hv ⊢; exact hv
    rw [show norR s (R.map ratO) = none by unfold norR; rw [hv2]; rfl] at c1
    rw [hv] at d0
    exact .inr ⟨c1, d0⟩
  | true =>
    unfold brB at h
    rw [hv, Bool.true_and, Bool.or_eq_false_iff, decide_eq_false_iff_not, List.length_map] at h
    refine .inl ⟨isL_raw fun r hr => ?_, by rw [List.length_map] at hv ⊢; exact hv, by rw [List.length_map]; omega⟩
    have := List.any_eq_false.1 h.2 (rawA r) (List.mem_map.2 ⟨r, hr, rfl⟩)
    simp [big8, rawA] at this
    exact ⟨hd r hr, by omega, by omega⟩
structure WT where
 s : Int
 R : List RQ
 k : Int
def wtO (a : WT) : AV := wA a.s (a.R.map rawA) a.k
structure WtOK (a : WT) : Prop where
 lo : -9223372036854775808 ≤ a.s
 hi : a.s ≤ 9223372036854775807
 dig : ∀ r, r ∈ a.R → DigR r
 len : a.R.length ≤ maxN
theorem Zf3 (a : WT) (oa : WtOK a) (b : WT) (ob : WtOK b) (n : Int) (_ : -9223372036854775808 ≤ n) (_ : n ≤ 9223372036854775807) : PC Tryz.prog 4 [wtO a, wtO b, iV n] (bV true) := by
 obtain ⟨s, R, k⟩ := a
 obtain ⟨t, Q, l⟩ := b
 have ra : InR s (R.map rawA).length := ⟨oa.lo, oa.hi, by rw [List.length_map]; exact oa.len⟩
 have rb : InR t (Q.map rawA).length := ⟨ob.lo, ob.hi, by rw [List.length_map]; exact ob.len⟩
 have da : ∀ r, r ∈ R → DigR r := oa.dig
 have db : ∀ r, r ∈ Q → DigR r := ob.dig
 have hx := broad_p (s := s) (es := R.map rawA) (fun e he => by obtain ⟨r, -, rfl⟩ := List.mem_map.1 he; exact c4_raw r) ra
 have hy := broad_p (s := t) (es := Q.map rawA) (fun e he => by obtain ⟨r, -, rfl⟩ := List.mem_map.1 he; exact c4_raw r) rb
 show PC _ _ [wA s (R.map rawA) k, wA t (Q.map rawA) l, iV n] _
 cases h1 : brB s (R.map rawA) with
 | true => rw [h1] at hx; exact lser_aw hx hy (.inl rfl)
 | false =>
 cases h2 : brB t (Q.map rawA) with
 | true => rw [h2] at hy; exact lser_aw hx hy (.inr rfl)
 | false =>
 rw [h1] at hx
 rw [h2] at hy
 have ca := in_cases da ra h1
 have cb := in_cases db rb h2
 generalize R.map rawA = es at *
 generalize R.map ratO = p at *
 generalize Q.map rawA = fs at *
 generalize Q.map ratO = m at *
 -- Serre's derivative
 obtain ⟨y, Y, e, p1, q1, s1⟩ : ∃ (y : Int) (Y : List AV) (e : Int), PC Tryz.prog 11 [serA s es, iV k] (.tup [serA y Y, iV e]) ∧ PC Tryz.prog 12 [serA s es, iV k] (.tup [serA y Y, iV e]) ∧ PC Tryz.prog 9 [serA y Y, serA y Y] (bV true) := by
  rcases ca with ca | ⟨c1, c2⟩
  ·by_cases hk : 0 ≤ k ∧ k ≤ 60
   ·obtain ⟨y, h1, h2, h3⟩ := serreS_both ca hk
    exact ⟨_, _, 0, h1, h2, same_sok h3 (by decide)⟩
   ·exact ⟨0, [], 2, qss_bad2 ca.nor (by omega), rss_bad2 ca.chk (by omega), same_0⟩
  ·exact ⟨0, [], 2, qss_bad1 c1, rss_bad1 c2, same_0⟩
 obtain ⟨z, Z, e', p2, q2, s2⟩ : ∃ (z : Int) (Z : List AV) (e' : Int), PC Tryz.prog 13 [wA s es k, wA t fs l, iV n] (.tup [serA z Z, iV e']) ∧ PC Tryz.prog 14 [wA s es k, wA t fs l, iV n] (.tup [serA z Z, iV e']) ∧ PC Tryz.prog 9 [serA z Z, serA z Z] (bV true) := by
  rcases ca with ca | ⟨c1, c2⟩
  ·rcases cb with cb | ⟨d1, d2⟩
   ·by_cases hr : k < 0 ∨ 60 < k ∨ l < 0 ∨ 60 < l ∨ n < 0 ∨ 6 < n
    ·exact ⟨0, [], 2, qbs_bad ca.nor cb.nor (.inr (.inr hr)), rbs_range ca.chk cb.chk hr, same_0⟩
    ·obtain ⟨N, rfl⟩ : ∃ N : Nat, n = N := ⟨n.toNat, by omega⟩
     exact (both_bracketS ca cb (by omega) (by omega) (n := N) (by omega)).ex
   ·exact ⟨0, [], 2, qbs_bad ca.nor d1 (.inr (.inl (by decide))), rbs_bad2 ca.chk d2, same_0⟩
  ·rcases cb with cb | ⟨d1, d2⟩
   ·exact ⟨0, [], 2, qbs_bad c1 cb.nor (.inl (by decide)), rbs_bad1 c2, same_0⟩
   ·exact ⟨0, [], 2, qbs_bad c1 d1 (.inl (by decide)), rbs_bad1 c2, same_0⟩
 exact lser_core hx hy p1 q1 s1 p2 q2 s2
end Ab
