/- Serre's derivative of a series: both sides answer the same. -/
import Derived.Test.YtaeeifonadgmcaaGreatDoorSeA
set_option linter.all false
namespace Ab
open Go Go.RowKit Go.Proofs Hp
set_option maxRecDepth 100000
structure SIn (s : Int) (es : List AV) (l : List Rat) : Prop where
 L : IsL es 8 l
 v : Zaq s l.length = true
 n : l.length ≤ 10
theorem SIn.ht {s : Int} {es : List AV} {l : List Rat} (h : SIn s es l) : ∀ q, q ∈ l → Ht q 8 := Zdk h.L (by decide)
theorem SIn.len {s : Int} {es : List AV} {l : List Rat} (h : SIn s es l) : es.length = l.length := h.L.get.1
theorem SIn.r {s : Int} {es : List AV} {l : List Rat} (h : SIn s es l) : InR s es.length := by
 obtain ⟨a0, a1, a2⟩ := Zas.1 h.v
 rw [h.len]
 exact ⟨by omega, by omega, by omega⟩
theorem SIn.ok {s : Int} {es : List AV} {l : List Rat} (h : SIn s es l) : SOK (s, l) (s + l.length) (-100) 8 := ⟨h.v, rfl, (Zas.1 h.v).1, h.ht⟩
theorem Ze2 {x y : Sr} {p b p' b' : Int} {K : Nat} (hx : SOK x p b K) (hy : SOK y p' b' K) : Both x.1 (x.2.map encQ) y.1 (y.2.map encQ) K x.2 y.2 := both_mk (Zbs hx.h) (Zbs hy.h) (Zds hx.v) (Zds hy.v)
theorem out_sok {x : Option Sr} {p b : Int} {f : Int → Rat} {K : Nat} (h : Out x p f b K) : ∃ y : Sr, x = some y ∧ SOK y p (-100) K ∧ lead y.2 = 0 ∧ ∀ n, n < p → cf y.1 y.2 n = f n := by
 obtain ⟨s, l, h1, h2, h3, h4, h5, h6, h7, h8⟩ := h
 exact ⟨(s, l), h1, ⟨Zas.2 ⟨h2, by show s ≤ 1000; omega, by show (l.length : Int) ≤ 1000 - s; omega⟩, h3, h2, h7⟩, h8, h6⟩
theorem ei2_ok {N : Nat} (hN : N ≤ 1000) : SOK (0, eiL 2 N) N (-100) 8 := by
 refine ⟨valid_tk (s := 0) (by decide) (by omega), by show (0 : Int) + ((eiL 2 N).length : Int) = _; unfold eiL; rw [tk_len]; omega, by show (-100 : Int) ≤ 0; decide, fun q hq => (eiL_htG (k := 2) (p := N) rfl (.inr ⟨rfl, hN⟩) q hq).mono (by decide)⟩
theorem Zf2 (N : Nat) : lead (eiL 2 N) = 0 := lead_tk (eiV_ne rfl)
theorem e2_mul {s : Int} {l : List Rat} (hx : SOK (s, l) (s + l.length) (-100) 8) (hl : l.length ≤ 10) : ∃ y : Sr, mulR 0 (eiL 2 1000) s l = some y ∧ mulR 0 (eiL 2 (l.length - lead l)) s l = some y ∧ SOK y (s + l.length) (-100) 17001 := by
 have hle := Zb7 l
 obtain ⟨a0, a1, a2⟩ := Zas.1 hx.v
 have e1 := ei2_ok (N := 1000) (by decide)
 have e2 := ei2_ok (N := l.length - lead l) (by omega)
 have n1 : (eiL 2 1000).length = 1000 := tk_len _ _
 have n2 : (eiL 2 (l.length - lead l)).length = l.length - lead l := tk_len _ _
 have o1 := mul_out (s := 0) (t := s) (l := eiL 2 1000) (m := l) (K := 8) (N := 1000) e1.v hx.v (by decide) e1.h hx.h (by omega) (by rw [Zf2]; simp only at a0; omega) (by rw [Zf2, n1]; simp only at a2; omega)
 have o2 := mul_out (s := 0) (t := s) (l := eiL 2 (l.length - lead l)) (m := l) (K := 8) (N := 1000) e2.v hx.v (by decide) e2.h hx.h (by omega) (by rw [Zf2]; simp only at a0; omega) (by rw [Zf2, n2]; simp only at a2; omega)
 rw [Zf2, n1] at o1
 rw [Zf2, n2] at o2
 have o2 := o2.congr (p' := s + l.length) (f' := cv (cf 0 (eiL 2 1000)) (cf s l)) (by omega) (fun n hn => cv_left fun i => by
  by_cases i0 : i < 0
  ·rw [Ze0 i0, Ze0 i0]; exact .inl rfl
  by_cases i1 : i < ((l.length - lead l : Nat) : Int)
  ·refine .inl ?_
   unfold eiL
   rw [cf_tk (by omega) (by omega), cf_tk (by omega) (by omega)]
  ·exact .inr (cf_ord (by omega))) (Int.le_refl _) (Nat.le_refl _)
 have o1 := o1.congr (p' := s + l.length) (f' := cv (cf 0 (eiL 2 1000)) (cf s l)) (by omega) (fun n hn => rfl) (Int.le_refl _) (Nat.le_refl _)
 have e := Out.eq o2 o1
 obtain ⟨y, h1, h2, -, -⟩ := out_sok o1
 exact ⟨y, h1, by rw [e, h1], h2⟩
set_option maxHeartbeats 2000000 in
theorem serreS_both {s k : Int} {es : List AV} {l : List Rat} (h : SIn s es l) (hk : 0 ≤ k ∧ k ≤ 60) : ∃ y : Sr, PC Tryz.prog 11 [serA s es, iV k] (.tup [serA y.1 (y.2.map encQ), iV 0]) ∧ PC Tryz.prog 12 [serA s es, iV k] (.tup [serA y.1 (y.2.map encQ), iV 0]) ∧ SOK y (s + l.length) (-100) 40010 := by
 have hx := h.ok
 have hle := Zb7 l
 have h10 := h.n
 obtain ⟨a0, a1, a2⟩ := Zas.1 h.v
 have hT := tdy_ok hx
 -- the program's
 have c1 := normal_p (s := s) (es := es) (l := l) (K := 8) (fun _ => h.L) h.len h.r (by decide)
 rw [show norR s l = some (tdy s l) by unfold norR; rw [h.v, if_pos rfl]] at c1
 have c1 : PC Tryz.prog 33 [serA s es] (.tup [serA (tdy s l).1 ((tdy s l).2.map encQ), iV 0]) := c1
 obtain ⟨t1, t2, -⟩ := thS_ok (by decide) hT
 obtain ⟨t3, t4, -⟩ := thS_ok (x := (s, l)) (by decide) hx
 have te : thS (tdy s l) = thS (s, l) := thS_tdy (x := (s, l)) (by decide) hx
 have c2 := theta_p (s := (tdy s l).1) (es := (tdy s l).2.map encQ) (l := (tdy s l).2) (K := 8) (fun _ => Zbs hT.h) (by simp) (Zds hT.v) (by decide)
 rw [t2, te] at c2
 have c2 : PC Tryz.prog 34 [serA (tdy s l).1 ((tdy s l).2.map encQ)] (.tup [serA (thS (s, l)).1 ((thS (s, l)).2.map encQ), iV 0]) := c2
 have c3 := enormG_p bq_ok (k := 2) (p := 1000) rfl (.inr ⟨rfl, by decide⟩)
 have c3 : PC Tryz.prog 24 [iV 2, iV 1000] (.tup [serA 0 ((eiL 2 1000).map encQ), iV 0]) := c3
 obtain ⟨y, m1, m2, hy⟩ := e2_mul hx h.n
 have c4 := mul_p (s := 0) (t := (tdy s l).1) (es := (eiL 2 1000).map encQ) (fs := (tdy s l).2.map encQ) (l := eiL 2 1000) (m := (tdy s l).2) (K := 8) (Ze2 (ei2_ok (N := 1000) (by decide)) hT) (by decide)
 rw [mulR_r h.v, m1] at c4
 have c4 : PC Tryz.prog 26 [serA 0 ((eiL 2 1000).map encQ), serA (tdy s l).1 ((tdy s l).2.map encQ)] (.tup [serA y.1 (y.2.map encQ), iV 0]) := c4
 have c5 := qfrac_p (n := k) (d := 12) (by omega) (by decide) (by decide)
 have hf : Ht ((k : Rat) / ((12 : Int) : Rat)) 2 := ht_frac (by omega) (by decide)
 have o1 := scl_out (c := (k : Rat) / ((12 : Int) : Rat)) hy.v hf (by decide) (by decide) hy.h
 obtain ⟨z, z1, z2, -, z4⟩ := out_sok o1
 have c6 := scale_p (a := encQ ((k : Rat) / ((12 : Int) : Rat))) (s := y.1) (es := y.2.map encQ) (l := y.2) (k := 2) (K := 17001) (Zaj hf) (fun _ => Zbs hy.h) (by simp) (Zds hy.v) (by decide) (by decide) (by decide)
 rw [z1] at c6
 have c6 : PC Tryz.prog 35 [encQ ((k : Rat) / ((12 : Int) : Rat)), serA y.1 (y.2.map encQ)] (.tup [serA z.1 (z.2.map encQ), iV 0]) := c6
 have c7 := sub_p (s := (thS (s, l)).1) (t := z.1) (es := (thS (s, l)).2.map encQ) (fs := z.2.map encQ) (l := (thS (s, l)).2) (m := z.2) (K := 20000) (Ze2 (t3.mono (by decide)) (z2.mono (by decide))) (by decide)
 -- the document's
 have d0 := Zfp (es := es) h.r.lo h.r.hi h.r.len
 rw [show (if Zaq s es.length = true then (0 : Int) else 2) = 0 by rw [h.len, h.v]; rfl] at d0
 have d1 := Zga (s := s) (es := es) a0 a1 (by rw [h.len]; exact a2)
 have d2 := rord_p (s := s) h.L (by decide) a0 a1 (by rw [h.len]; exact a2)
 rw [h.len] at d1
 have d3 := rnorm34_p (k := 2) (p := l.length - lead l) rfl (by omega)
 rw [show ((l.length - lead l : Nat) : Int) = min 1000 (s + l.length - (s + lead l)) by omega] at d3
 have d3 : PC Tryz.prog 38 [iV 2, iV (min 1000 (s + l.length - (s + lead l)))] (.tup [serA 0 ((eiL 2 (l.length - lead l)).map encQ), iV 0]) := d3
 have e2 := ei2_ok (N := l.length - lead l) (by omega)
 have d4 := rmul33_p (s := 0) (t := s) (es := (eiL 2 (l.length - lead l)).map encQ) (fs := es) (l := eiL 2 (l.length - lead l)) (m := l) (K := 8) (M := 1000) (both_mk (Zbs e2.h) h.L (Zds e2.v) h.r) (by decide) (by decide) (by decide) (fun _ => by rw [List.length_map]; show (tk _ _).length ≤ _; rw [tk_len]; omega)
 rw [m2] at d4
 have d4 : PC Tryz.prog 41 [serA 0 ((eiL 2 (l.length - lead l)).map encQ), serA s es] (.tup [serA y.1 (y.2.map encQ), iV 0]) := d4
 have d5 := Zfn (n := 0 - k) (d := 12) (by unfold Bn; omega) (by decide) (by unfold Bn; omega)
 rw [Rat.divInt_eq_div] at d5
 have hg : Ht (((0 - k : Int) : Rat) / ((12 : Int) : Rat)) 2 := ht_frac (by omega) (by decide)
 have o2 := scl_out (c := ((0 - k : Int) : Rat) / ((12 : Int) : Rat)) hy.v hg (by decide) (by decide) hy.h
 obtain ⟨w, w1, w2, -, w4⟩ := out_sok o2
 have d6 := rscale_p (a := encQ (((0 - k : Int) : Rat) / ((12 : Int) : Rat))) (s := y.1) (es := y.2.map encQ) (l := y.2) (k := 2) (K := 17001) (Zaj hg) (fun _ => Zbs hy.h) (by simp) (Zds hy.v) (by decide) (by decide) (by decide)
 rw [w1] at d6
 have d6 : PC Tryz.prog 42 [encQ (((0 - k : Int) : Rat) / ((12 : Int) : Rat)), serA y.1 (y.2.map encQ)] (.tup [serA w.1 (w.2.map encQ), iV 0]) := d6
 have d7 := rtheta_p (s := s) (es := es) (l := l) (K := 8) (fun _ => h.L) h.len h.r (by decide) (by decide)
 rw [show thR s l = some (thS (s, l)) from t4] at d7
 have d7 : PC Tryz.prog 43 [serA s es] (.tup [serA (thS (s, l)).1 ((thS (s, l)).2.map encQ), iV 0]) := d7
 have d8 := radd33_p (s := (thS (s, l)).1) (t := w.1) (es := (thS (s, l)).2.map encQ) (fs := w.2.map encQ) (l := (thS (s, l)).2) (m := w.2) (K := 20000) (Ze2 (t3.mono (by decide)) (w2.mono (by decide))) (by decide)
 -- the same
 have q1 := comb_out (s := (thS (s, l)).1) (t := z.1) (c := -1) (l := (thS (s, l)).2) (m := z.2) (K := 20000) t3.v z2.v (by decide) (by decide) (fun q hq => (t3.h q hq).mono (by decide)) (fun q hq => (z2.h q hq).mono (by decide))
 have q2 := comb_out (s := (thS (s, l)).1) (t := w.1) (c := 1) (l := (thS (s, l)).2) (m := w.2) (K := 20000) t3.v w2.v (by decide) (by decide) (fun q hq => (t3.h q hq).mono (by decide)) (fun q hq => (w2.h q hq).mono (by decide))
 have hyp := hy.p
 have p1 := t3.p
 have p2 := z2.p
 have p3 := w2.p
 have q2 := q2.congr (p' := min ((thS (s, l)).1 + (thS (s, l)).2.length) (z.1 + z.2.length)) (f' := fun n => cf (thS (s, l)).1 (thS (s, l)).2 n + ((-1 : Int) : Rat) * cf z.1 z.2 n) (by rw [p2, p3]) (fun n hn => by
  have hn2 : n < y.1 + y.2.length := by rw [p2] at hn; omega
  rw [z4 n hn2, w4 n hn2]
  have n1 : ((-1 : Int) : Rat) = -1 := rfl
  have n2 : ((1 : Int) : Rat) = 1 := rfl
  have n3 : ((0 - k : Int) : Rat) = -(k : Rat) := by rw [Int.zero_sub, Rat.intCast_neg]
  rw [n1, n2, n3]
  grind) (Int.le_refl _) (Nat.le_refl _)
 have e := Out.eq q2 q1
 obtain ⟨x, x1, x2, -, -⟩ := out_sok q1
 rw [x1] at c7
 rw [e, x1] at d8
 have c7 : PC Tryz.prog 37 [serA (thS (s, l)).1 ((thS (s, l)).2.map encQ), serA z.1 (z.2.map encQ)] (.tup [serA x.1 (x.2.map encQ), iV 0]) := c7
 have d8 : PC Tryz.prog 44 [serA (thS (s, l)).1 ((thS (s, l)).2.map encQ), serA w.1 (w.2.map encQ)] (.tup [serA x.1 (x.2.map encQ), iV 0]) := d8
 refine ⟨x, qss_core hk c1 c2 c3 c4 c5 c6 c7, rss_core hk (by omega) d0 d1 d2 d3 d4 d5 d6 d7 d8, ?_⟩
 have hp : min ((thS (s, l)).1 + (thS (s, l)).2.length) (z.1 + z.2.length) = s + l.length := by
  rw [p1, p2, hyp, Int.min_self]
 rw [hp] at x2
 exact x2.mono (by decide)
end Ab
