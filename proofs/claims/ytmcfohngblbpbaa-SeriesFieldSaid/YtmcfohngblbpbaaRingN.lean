/- The axioms of a ring for series with few coefficients; plain. -/
import Derived.Test.YtmcfohngblbpbaaRingM
namespace Ab
open Hp
theorem cf_ord {s : Int} {l : List Rat} {n : Int} (h : n < s + lead l) : cf s l n = 0 := by
  rw [← cf_drop s l (lead l) (Nat.le_refl _), cf_lt h]
/-- what the gate lets in, plain -/
structure In12 (s : Int) (l : List Rat) : Prop where
  v : ValidP s l.length = true
  lo : -8 ≤ s
  hi : s ≤ 40
  n : l.length ≤ 12
  ht : ∀ q, q ∈ l → Ht q 4
/-- a series with bounds: order at least a, precision at most b, at most 12 coefficients behind the order -/
structure Bd (s : Int) (l : List Rat) (a b : Int) (K : Nat) : Prop where
  v : ValidP s l.length = true
  o : a ≤ s + lead l
  op : s + lead l ≤ s + l.length
  p : s + l.length ≤ b
  s0 : -100 ≤ s
  ht : ∀ q, q ∈ l → Ht q K
  n : l.length ≤ 12
theorem In12.bd {s : Int} {l : List Rat} (h : In12 s l) : Bd s l (-8) 52 4 := by
  have := lead_le l
  obtain ⟨h1, h2, h3, h4, h5⟩ := h
  exact ⟨h1, by omega, by omega, by omega, by omega, h5, h4⟩
theorem Bd.mono {s : Int} {l : List Rat} {a b : Int} {K K' : Nat} (h : Bd s l a b K) (hK : K ≤ K') : Bd s l a b K' := ⟨h.v, h.o, h.op, h.p, h.s0, fun q hq => (h.ht q hq).mono hK, h.n⟩
/-- a product -/
structure Mu (s : Int) (l : List Rat) (t : Int) (m : List Rat) (u : Int) (c : List Rat) : Prop where
  e : mulR s l t m = some (u, c)
  o : u = s + lead l + (t + lead m)
  p : u + c.length = min (s + lead l + (t + m.length)) (t + lead m + (s + l.length))
  f : ∀ n, n < u + c.length → cf u c n = cv (cf s l) (cf t m) n
  z : lead c = 0
theorem Mu.p1 {s t u : Int} {l m c : List Rat} (h : Mu s l t m u c) : u + c.length ≤ s + lead l + (t + m.length) := by have := h.p; omega
theorem Mu.p2 {s t u : Int} {l m c : List Rat} (h : Mu s l t m u c) : u + c.length ≤ t + lead m + (s + l.length) := by have := h.p; omega
theorem mul_mu {s t : Int} {l m : List Rat} {a b a' b' : Int} {K : Nat} (ha : Bd s l a b K) (hb : Bd t m a' b' K) (hK : 1 ≤ K) (h1 : -100 ≤ a + a') (h2 : b + b' ≤ 1000) : ∃ u c, Mu s l t m u c ∧ Bd u c (a + a') (b + b') ((2 * K + 1) * 12 + 1) := by
  obtain ⟨va, oa, opa, pa, sa, hta, na⟩ := ha
  obtain ⟨vb, ob, opb, pb, sb, htb, nb⟩ := hb
  obtain ⟨u, c, e, g, p, q, lb, f, k, z⟩ := mul_out (N := 12) va vb hK hta htb na (by omega) (by omega)
  have o := mul_ord sa sb lb p rfl f
  have la := lead_le l
  have lm := lead_le m
  exact ⟨u, c, ⟨e, o, p, fun n hn => f n (by omega), z⟩, ⟨Out.v g p q, by rw [z]; omega, by rw [z]; omega, by omega, g, k, by omega⟩⟩
structure Co (s : Int) (l : List Rat) (t : Int) (m : List Rat) (d : Int) (u : Int) (c : List Rat) : Prop where
  e : combR s l t m d = some (u, c)
  p : u + c.length = min (s + l.length) (t + m.length)
  f : ∀ n, n < u + c.length → cf u c n = cf s l n + (d : Rat) * cf t m n
  z : lead c = 0
theorem Co.p1 {s t d u : Int} {l m c : List Rat} (h : Co s l t m d u c) : u + c.length ≤ s + l.length := by have := h.p; omega
theorem Co.p2 {s t d u : Int} {l m c : List Rat} (h : Co s l t m d u c) : u + c.length ≤ t + m.length := by have := h.p; omega
theorem comb_co {s t d : Int} {l m : List Rat} {a b b' : Int} {K : Nat} (ha : Bd s l a b K) (hb : Bd t m a b' K) (hK : 1 ≤ K) (hd : d.natAbs < 4294967296) (h1 : -100 ≤ a) : ∃ u c, Co s l t m d u c ∧ Bd u c a b (2 * K + 2) := by
  obtain ⟨u, c, e, g, p, q, lb, f, k, z⟩ := comb_out (c := d) ha.v hb.v hd hK ha.ht hb.ht
  refine ⟨u, c, ⟨e, p, fun n hn => f n (by omega), z⟩, Out.v g p q, ?_, by rw [z]; omega, ?_, g, k, ?_⟩
  · rw [z]
    by_cases h : a ≤ u
    · omega
    · exfalso
      obtain ⟨va, oa, opa, pa, sa, hta, na⟩ := ha
      obtain ⟨vb, ob, opb, pb, sb, htb, nb⟩ := hb
      have hlen : 0 < c.length := by omega
      have hx : cf u c u = cf s l u + (d : Rat) * cf t m u := f u (by omega)
      have hy : cf u c u = c[0] := by unfold cf; rw [if_neg (by omega), Int.sub_self]; simp [hlen]
      rw [cf_ord (s := s) (by omega), cf_ord (s := t) (by omega), Rat.mul_zero, Rat.add_zero, hy] at hx
      exact lead_ne c c[0] (by rw [z]; exact List.getElem?_eq_getElem hlen) hx
  · have := ha.p
    omega
  · have := ha.n
    have := hb.n
    omega
/-- a result: it is there, valid, of small height -/
def Is (x : Option (Int × List Rat)) (u : Int) (c : List Rat) : Prop := x = some (u, c) ∧ ValidP u c.length = true ∧ ∀ q, q ∈ c → Ht q 3000
theorem Mu.comm {s t u u' : Int} {l m c c' : List Rat} (h : Mu s l t m u c) (h' : Mu t m s l u' c') : u = u' ∧ c = c' := by
  have p := h.p
  have p' := h'.p
  refine norm_eq h.z h'.z (by omega) fun n hn => ?_
  rw [h.f n hn, h'.f n (by omega), cv_comm]
theorem Mu.assoc {s t r u1 u2 u u' : Int} {l m k c1 c2 c c' : List Rat} (h1 : Mu s l t m u1 c1) (h2 : Mu t m r k u2 c2) (h : Mu u1 c1 r k u c) (h' : Mu s l u2 c2 u' c') (ha : -30 ≤ s) (hb : -30 ≤ t) (hc : -30 ≤ r) : u = u' ∧ c = c' := by
  have p1 := h1.p
  have p2 := h2.p
  have p := h.p
  have p' := h'.p
  have o1 := h1.o
  have o2 := h2.o
  rw [h1.z] at p
  rw [h2.z] at p'
  have pe : u + c.length = u' + c'.length := by omega
  refine norm_eq h.z h'.z pe fun n hn => ?_
  have hn' : n < u' + c'.length := by omega
  rw [h.f n hn, h'.f n hn']
  have b1 := h.p2
  have b2 := h'.p1
  have x1 : cv (cf u1 c1) (cf r k) n = cv (cv (cf s l) (cf t m)) (cf r k) n := cv_left fun i => by
    by_cases hi : i < u1 + c1.length
    · exact .inl (h1.f i hi)
    · exact .inr (cf_ord (by clear p1 p2 p p' pe b2; omega))
  have x2 : cv (cf s l) (cf u2 c2) n = cv (cf s l) (cv (cf t m) (cf r k)) n := cv_right fun i => by
    by_cases hi : i < u2 + c2.length
    · exact .inl (h2.f i hi)
    · exact .inr (cf_ord (by clear p1 p2 p p' pe b1; omega))
  rw [x1, x2, cv_assoc (low_cf ha) (low_cf hb) (low_cf hc)]
theorem Co.add {s t u : Int} {l m c : List Rat} (h : Co s l t m 1 u c) (n : Int) (hn : n < u + c.length) : cf u c n = cf s l n + cf t m n := by
  have := h.f n hn
  rw [this, Rat.intCast_one, Rat.one_mul]
theorem Co.sub {s t u : Int} {l m c : List Rat} (h : Co s l t m (-1) u c) (n : Int) (hn : n < u + c.length) : cf u c n = cf s l n - cf t m n := by
  have := h.f n hn
  rw [this, show ((-1 : Int) : Rat) = -1 by rfl]
  grind
theorem distrib {s t r u4 u1 u3 u6 u7 : Int} {l m k c4 c1 c3 c6 c7 : List Rat} (h4 : Co t m r k 1 u4 c4) (h1 : Mu s l t m u1 c1) (h3 : Mu s l r k u3 c3) (h6 : Mu s l u4 c4 u6 c6) (h7 : Co u1 c1 u3 c3 1 u7 c7) (n : Int) (n6 : n < u6 + c6.length) (n7 : n < u7 + c7.length) : cf u6 c6 n = cf u7 c7 n := by
  have b6 := h6.p1
  have b71 := h7.p1
  have b72 := h7.p2
  have x1 : cv (cf s l) (cf u4 c4) n = cv (cf s l) (fun i => cf t m i + cf r k i) n := cv_right fun i => by
    by_cases hi : i < u4 + c4.length
    · exact .inl (h4.add i hi)
    · exact .inr (cf_ord (by omega))
  rw [h6.f n n6, x1, cv_add, h7.add n n7, h1.f n (by omega), h3.f n (by omega)]
theorem ring {s t r : Int} {l m k : List Rat} (ha : In12 s l) (hb : In12 t m) (hc : In12 r k) :
    ∃ u1 c1 u2 c2 u3 c3 u4 c4 u5 c5 u6 c6 u7 c7 u8 c8, Is (mulR s l t m) u1 c1 ∧ Is (mulR t m s l) u1 c1 ∧ Is (mulR t m r k) u2 c2 ∧ Is (mulR s l r k) u3 c3 ∧ Is (combR t m r k 1) u4 c4 ∧
      Is (mulR u1 c1 r k) u5 c5 ∧ Is (mulR s l u2 c2) u5 c5 ∧ Is (mulR s l u4 c4) u6 c6 ∧ Is (combR u1 c1 u3 c3 1) u7 c7 ∧ Is (combR u4 c4 r k (-1)) u8 c8 ∧ agr u5 c5 u5 c5 = true ∧ agr u6 c6 u7 c7 = true ∧ agr u8 c8 t m = true := by
  have A := ha.bd
  have B := hb.bd
  have C := hc.bd
  have sm' : ∀ {c : List Rat} {K : Nat}, K ≤ 3000 → (∀ q, q ∈ c → Ht q K) → ∀ q, q ∈ c → Ht q 3000 := fun hK h q hq => (h q hq).mono hK
  obtain ⟨u1, c1, m1, d1⟩ := mul_mu A B (by decide) (by decide) (by decide)
  obtain ⟨u1', c1', m1', d1'⟩ := mul_mu B A (by decide) (by decide) (by decide)
  obtain ⟨rfl, rfl⟩ := m1.comm m1'
  obtain ⟨u2, c2, m2, d2⟩ := mul_mu B C (by decide) (by decide) (by decide)
  obtain ⟨u3, c3, m3, d3⟩ := mul_mu A C (by decide) (by decide) (by decide)
  obtain ⟨u4, c4, m4, d4⟩ := comb_co (d := 1) B C (by decide) (by decide) (by decide)
  obtain ⟨u5, c5, m5, d5⟩ := mul_mu d1 (C.mono (K' := 109) (by decide)) (by decide) (by decide) (by decide)
  obtain ⟨u5', c5', m5', d5'⟩ := mul_mu (A.mono (K' := 109) (by decide)) d2 (by decide) (by decide) (by decide)
  obtain ⟨rfl, rfl⟩ := m1.assoc m2 m5 m5' (by have := ha.lo; omega) (by have := hb.lo; omega) (by have := hc.lo; omega)
  obtain ⟨u6, c6, m6, d6⟩ := mul_mu (A.mono (K' := 10) (by decide)) d4 (by decide) (by decide) (by decide)
  obtain ⟨u7, c7, m7, d7⟩ := comb_co (d := 1) d1 d3 (by decide) (by decide) (by decide)
  obtain ⟨u8, c8, m8, d8⟩ := comb_co (d := -1) d4 (C.mono (K' := 10) (by decide)) (by decide) (by decide) (by decide)
  have e8 : ∀ n, n < u8 + c8.length → n < t + m.length → cf u8 c8 n = cf t m n := fun n n8 nt => by
    have b8 := m8.p1
    rw [m8.sub n n8, m4.add n (by omega)]
    grind
  exact ⟨u1, c1, u2, c2, u3, c3, u4, c4, u5, c5, u6, c6, u7, c7, u8, c8, ⟨m1.e, d1.v, sm' (by decide) d1.ht⟩, ⟨m1'.e, d1.v, sm' (by decide) d1.ht⟩, ⟨m2.e, d2.v, sm' (by decide) d2.ht⟩, ⟨m3.e, d3.v, sm' (by decide) d3.ht⟩, ⟨m4.e, d4.v, sm' (by decide) d4.ht⟩, ⟨m5.e, d5.v, sm' (by decide) d5.ht⟩, ⟨m5'.e, d5.v, sm' (by decide) d5.ht⟩, ⟨m6.e, d6.v, sm' (by decide) d6.ht⟩, ⟨m7.e, d7.v, sm' (by decide) d7.ht⟩, ⟨m8.e, d8.v, sm' (by decide) d8.ht⟩, agr_true d5.v d5.v fun _ _ _ => rfl, agr_true d6.v d7.v fun n => distrib m4 m1 m3 m6 m7 n, agr_true d8.v B.v e8⟩
end Ab
