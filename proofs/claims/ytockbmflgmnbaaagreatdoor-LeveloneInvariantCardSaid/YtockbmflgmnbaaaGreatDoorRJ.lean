/- The axioms of a ring, by coefficients; plain. The axioms of a ring for series with few coefficients; plain. Normal form and cutting of series, in abstract values. Contract, Expand, Sieve: coefficients of the results; plain. -/
import Derived.Test.YtockbmflgmnbaaaGreatDoorOCG
import Derived.Test.YtockbmflgmnbaaaGreatDoorIB
set_option linter.all false
namespace Ab
open Hp
def nc (a b : Nat → Rat) (k : Nat) : Rat := su (fun j => a j * b (k - j)) (k + 1)
theorem Zf2 (f : Nat → Rat) (n : Nat) : su f (n + 1) = f 0 + su (fun j => f (j + 1)) n := by
 rw [Nat.add_comm, su_split]
 show (0 : Rat) + f 0 + _ = _
 rw [Rat.zero_add]
 congr 1
 exact Za8 fun j _ => by rw [Nat.add_comm]
theorem su_rev (f : Nat → Rat) : ∀ n, su (fun j => f (n - 1 - j)) n = su f n
  | 0 => rfl
  | n + 1 => by
    rw [Zf2]
    show f (n + 1 - 1 - 0) + _ = su f n + f n
    rw [show n + 1 - 1 - 0 = n by omega, Rat.add_comm]
    congr 1
    rw [← su_rev f n]
    exact Za8 fun j _ => by rw [show n + 1 - 1 - (j + 1) = n - 1 - j by omega]
theorem nc_comm (a b : Nat → Rat) (k : Nat) : nc a b k = nc b a k := by
 unfold nc
 rw [← su_rev]
 refine Za8 fun j hj => ?_
 rw [show k + 1 - 1 - j = k - j by omega, show k - (k - j) = j by omega, Rat.mul_comm]
theorem tri (F : Nat → Nat → Rat) : ∀ n, su (fun i => su (fun j => F i j) (i + 1)) n = su (fun j => su (fun i => F (i + j) j) (n - j)) n
  | 0 => rfl
  | n + 1 => by
    show su _ n + su (fun j => F n j) (n + 1) = su _ n + su (fun i => F (i + n) n) (n + 1 - n)
    rw [tri F n, show n + 1 - n = 0 + 1 by omega]
    show _ + (su (fun j => F n j) n + F n n) = _ + ((0 : Rat) + F (0 + n) n)
    rw [Rat.zero_add, Nat.zero_add, ← Rat.add_assoc]
    congr 1
    rw [← su_add]
    refine Za8 fun j hj => ?_
    rw [show n + 1 - j = (n - j) + 1 by omega]
    show _ = su (fun i => F (i + j) j) (n - j) + F (n - j + j) j
    rw [show n - j + j = n by omega]
theorem su_mulr (c : Rat) (f : Nat → Rat) (n : Nat) : su f n * c = su (fun j => f j * c) n := by
 rw [Rat.mul_comm, ← su_mul]
 exact Za8 fun j _ => Rat.mul_comm _ _
theorem nc_assoc (a b c : Nat → Rat) (k : Nat) : nc (nc a b) c k = nc a (nc b c) k := by
 have h1 : nc (nc a b) c k = su (fun i => su (fun j => a j * b (i - j) * c (k - i)) (i + 1)) (k + 1) := Za8 fun i _ => su_mulr _ _ _
 have h2 : nc a (nc b c) k = su (fun j => su (fun i => a j * b (i + j - j) * c (k - (i + j))) (k + 1 - j)) (k + 1) := Za8 fun j hj => by
  unfold nc
  rw [← su_mul, show k + 1 - j = k - j + 1 by omega]
  refine Za8 fun i hi => ?_
  rw [show i + j - j = i by omega, show k - (i + j) = k - j - i by omega, Rat.mul_assoc]
 rw [h1, h2]
 exact tri (fun i j => a j * b (i - j) * c (k - i)) (k + 1)
def sq (A : Int → Rat) (j : Nat) : Rat := A ((j : Int) - 100)
theorem cv_nc {A B : Int → Rat} {n : Int} (h : -200 ≤ n) : cv A B n = nc (sq A) (sq B) (n + 200).toNat := by
 unfold cv nc
 rw [show (n + 201).toNat = (n + 200).toNat + 1 by omega]
 refine Za8 fun j hj => ?_
 unfold sq
 congr 2
 omega
theorem cv_low {A B : Int → Rat} {n : Int} (h : n < -200) : cv A B n = 0 := by
 unfold cv
 rw [show (n + 201).toNat = 0 by omega]
 rfl
theorem cv_comm (A B : Int → Rat) : cv A B = cv B A := funext fun n => by
 by_cases h : -200 ≤ n
 ·rw [cv_nc h, cv_nc h, nc_comm]
 ·rw [cv_low (by omega), cv_low (by omega)]
def Low (A : Int → Rat) : Prop := ∀ n, n < -30 → A n = 0
theorem nc_low {a b : Nat → Rat} (ha : ∀ j, j < 70 → a j = 0) (hb : ∀ j, j < 70 → b j = 0) {k : Nat} (hk : k < 100) : nc a b k = 0 := Zc4 fun j _ => by
 by_cases h : j < 70
 ·rw [ha j h, Rat.zero_mul]
 ·rw [hb (k - j) (by omega), Rat.mul_zero]
theorem Low.sq {A : Int → Rat} (h : Low A) : ∀ j, j < 70 → sq A j = 0 := fun j hj => h _ (by omega)
theorem nc_left {D c : Nat → Rat} (hD : ∀ j, j < 100 → D j = 0) (k : Nat) : nc D c (k + 100) = su (fun j => D (100 + j) * c (k - j)) (k + 1) := by
 have e : nc D c (k + 100) = su (fun j => D j * c (k + 100 - j)) (100 + (k + 1)) := by unfold nc; rw [show k + 100 + 1 = 100 + (k + 1) by omega]
 have z : su (fun j => D j * c (k + 100 - j)) 100 = 0 := Zc4 fun j hj => by rw [hD j hj, Rat.zero_mul]
 rw [e, su_split, z, Rat.zero_add]
 exact Za8 fun j hj => by rw [show k + 100 - (100 + j) = k - j by omega]
theorem nc_right {a D : Nat → Rat} (hD : ∀ j, j < 100 → D j = 0) (k : Nat) : nc a D (k + 100) = su (fun j => a j * D (k + 100 - j)) (k + 1) := by
 have e : nc a D (k + 100) = su (fun j => a j * D (k + 100 - j)) ((k + 1) + 100) := by unfold nc; rw [show k + 100 + 1 = (k + 1) + 100 by omega]
 have z : su (fun i => a (k + 1 + i) * D (k + 100 - (k + 1 + i))) 100 = 0 := Zc4 fun j hj => by rw [hD _ (by omega), Rat.mul_zero]
 rw [e, su_split, z, Rat.add_zero]
theorem cv_assoc {A B C : Int → Rat} (ha : Low A) (hb : Low B) (hc : Low C) : cv (cv A B) C = cv A (cv B C) := funext fun n => by
 by_cases h : -200 ≤ n
 ·have h1 : cv (cv A B) C n = nc (nc (sq A) (sq B)) (sq C) ((n + 200).toNat + 100) := by
   rw [cv_nc h, nc_left (fun j hj => nc_low ha.sq hb.sq hj)]
   refine Za8 fun j hj => ?_
   congr 1
   show cv A B ((j : Int) - 100) = _
   rw [cv_nc (by omega), show ((j : Int) - 100 + 200).toNat = 100 + j by omega]
  have h2 : cv A (cv B C) n = nc (sq A) (nc (sq B) (sq C)) ((n + 200).toNat + 100) := by
   rw [cv_nc h, nc_right (fun j hj => nc_low hb.sq hc.sq hj)]
   refine Za8 fun j hj => ?_
   congr 1
   show cv B C ((((n + 200).toNat - j : Nat) : Int) - 100) = _
   rw [cv_nc (by omega), show ((((n + 200).toNat - j : Nat) : Int) - 100 + 200).toNat = (n + 200).toNat + 100 - j by omega]
  rw [h1, h2, nc_assoc]
 ·rw [cv_low (by omega), cv_low (by omega)]
theorem cv_add (A B C : Int → Rat) (n : Int) : cv A (fun i => B i + C i) n = cv A B n + cv A C n := by
 unfold cv
 rw [← su_add]
 exact Za8 fun j _ => Rat.mul_add _ _ _
theorem cv_left {A A' B : Int → Rat} {n : Int} (h : ∀ i, A i = A' i ∨ B (n - i) = 0) : cv A B n = cv A' B n := Za8 fun j _ => by
 rcases h ((j : Int) - 100) with h | h <;> rw [h]
 rw [Rat.mul_zero, Rat.mul_zero]
theorem cv_right {A B B' : Int → Rat} {n : Int} (h : ∀ i, B i = B' i ∨ A (n - i) = 0) : cv A B n = cv A B' n := by
 rw [cv_comm A B, cv_comm A B']
 exact cv_left h
theorem low_cf {s : Int} {l : List Rat} (h : -30 ≤ s) : Low (cf s l) := fun n hn => Zc9 (by omega)
theorem norm_eq {s t : Int} {l m : List Rat} (h1 : lead l = 0) (h2 : lead m = 0) (hp : s + l.length = t + m.length) (hf : ∀ n, n < s + l.length → cf s l n = cf t m n) : s = t ∧ l = m := by
 have key : ∀ {s t : Int} {l m : List Rat}, lead m = 0 → s + l.length = t + m.length → (∀ n, n < s + l.length → cf s l n = cf t m n) → s ≤ t := fun {s t l m} h2 hp hf => by
  by_cases h : s ≤ t
  ·exact h
  ·exfalso
   have hlen : 0 < m.length := by omega
   have hx := hf t (by omega)
   rw [Zc9 (by omega)] at hx
   have hy : cf t m t = m[0] := by unfold cf; rw [if_neg (by omega), Int.sub_self]; simp [hlen]
   exact Zdq m m[0] (by rw [h2]; exact List.getElem?_eq_getElem hlen) (by rw [← hy, ← hx])
 have e : s = t := by
  have a := key h2 hp hf
  have b := key h1 hp.symm (fun n hn => (hf n (by omega)).symm)
  omega
 subst e
 have hl : l.length = m.length := by omega
 refine ⟨rfl, List.ext_getElem hl fun i h3 h4 => ?_⟩
 have := hf (s + i) (by omega)
 unfold cf at this
 rw [if_neg (by omega), if_neg (by omega), show (s + (i : Int) - s).toNat = i by omega] at this
 simpa [h3, h4] using this
theorem mul_ord {s t u p : Int} {l m c : List Rat} (hs : -100 ≤ s) (ht : -100 ≤ t) (hb : s + lead l + (t + lead m) ≤ u) (hp : u + c.length = p) (hp2 : p = min (s + lead l + (t + m.length)) (t + lead m + (s + l.length)))
  (hf : ∀ n, n < p → cf u c n = cv (cf s l) (cf t m) n) : u = s + lead l + (t + lead m) := by
 by_cases h : u = s + lead l + (t + lead m)
 ·exact h
 ·exfalso
  have hx := hf (s + lead l + (t + lead m)) (by omega)
  have la := Zbt l
  have lb := Zbt m
  rw [Zc9 (s := u) (by omega)] at hx
  have fa : cf (s + lead l) (l.drop (lead l)) = cf s l := funext fun n => Zfv s l _ (Nat.le_refl _) n
  have fb : cf (t + lead m) (m.drop (lead m)) = cf t m := funext fun n => Zfv t m _ (Nat.le_refl _) n
  rw [← fa, ← fb, cv_eq (by omega) (by omega), if_neg (by omega), show (s + lead l + (t + lead m) - (s + lead l) - (t + lead m)).toNat = 0 by omega] at hx
  have e : conv (l.drop (lead l)) (m.drop (lead m)) 0 = (l.drop (lead l)).getD 0 0 * (m.drop (lead m)).getD 0 0 := by
   show (0 : Rat) + _ = _
   rw [Rat.zero_add]
  have e1 : (l.drop (lead l)).getD 0 0 = l[lead l] := by simp [List.getD_eq_getElem?_getD, show lead l < l.length by omega]
  have e2 : (m.drop (lead m)).getD 0 0 = m[lead m] := by simp [List.getD_eq_getElem?_getD, show lead m < m.length by omega]
  have n1 := Zdq l l[lead l] (List.getElem?_eq_getElem (by omega))
  have n2 := Zdq m m[lead m] (List.getElem?_eq_getElem (by omega))
  rw [e, e1, e2] at hx
  rcases Rat.mul_eq_zero.1 hx.symm with h | h
  ·exact n1 h
  ·exact n2 h
end Ab
namespace Ab
open Hp
theorem cf_ord {s : Int} {l : List Rat} {n : Int} (h : n < s + lead l) : cf s l n = 0 := by
 rw [← Zfv s l (lead l) (Nat.le_refl _), Zc9 h]
structure In12 (s : Int) (l : List Rat) : Prop where
 v : Zai s l.length = true
 lo : -8 ≤ s
 hi : s ≤ 40
 n : l.length ≤ 12
 ht : ∀ q, q ∈ l → Ht q 4
structure Bd (s : Int) (l : List Rat) (a b : Int) (K : Nat) : Prop where
 v : Zai s l.length = true
 o : a ≤ s + lead l
 op : s + lead l ≤ s + l.length
 p : s + l.length ≤ b
 s0 : -100 ≤ s
 ht : ∀ q, q ∈ l → Ht q K
 n : l.length ≤ 12
theorem In12.bd {s : Int} {l : List Rat} (h : In12 s l) : Bd s l (-8) 52 4 := by
 have := Zbt l
 obtain ⟨h1, h2, h3, h4, h5⟩ := h
 exact ⟨h1, by omega, by omega, by omega, by omega, h5, h4⟩
theorem Bd.mono {s : Int} {l : List Rat} {a b : Int} {K K' : Nat} (h : Bd s l a b K) (hK : K ≤ K') : Bd s l a b K' := ⟨h.v, h.o, h.op, h.p, h.s0, fun q hq => (h.ht q hq).mono hK, h.n⟩
structure Mu (s : Int) (l : List Rat) (t : Int) (m : List Rat) (u : Int) (c : List Rat) : Prop where
 e : mulR s l t m = some (u, c)
 o : u = s + lead l + (t + lead m)
 p : u + c.length = min (s + lead l + (t + m.length)) (t + lead m + (s + l.length))
 f : ∀ n, n < u + c.length → cf u c n = cv (cf s l) (cf t m) n
 z : lead c = 0
theorem Mu.p1 {s t u : Int} {l m c : List Rat} (h : Mu s l t m u c) : u + c.length ≤ s + lead l + (t + m.length) := by have := h.p; omega
theorem Mu.p2 {s t u : Int} {l m c : List Rat} (h : Mu s l t m u c) : u + c.length ≤ t + lead m + (s + l.length) := by have := h.p; omega
theorem mul_mu {s t : Int} {l m : List Rat} {a b a' b' : Int} {K : Nat} (ha : Bd s l a b K) (hb : Bd t m a' b' K) (hK : 1 ≤ K) (h1 : -100 ≤ a + a') (h2 : b + b' ≤ 1000) : ∃ u c, Mu s l t m u c ∧ Bd u c (a + a') (b + b') ((2 * K + 1) * 12 + 1) := by
 obtain ⟨va, oa, opa, pa, sa, hta, na⟩ := ha
 obtain ⟨vb, ob, opb, pb, sb, htb, nb⟩ := hb
 obtain ⟨u, c, e, g, p, q, lb, f, k, z⟩ := mul_out (N := 12) va vb hK hta htb na (by omega) (by omega)
 have o := mul_ord sa sb lb p rfl f
 have la := Zbt l
 have lm := Zbt m
 exact ⟨u, c, ⟨e, o, p, fun n hn => f n (by omega), z⟩, ⟨Out.v g p q, by rw [z]; omega, by rw [z]; omega, by omega, g, k, by omega⟩⟩
structure Co (s : Int) (l : List Rat) (t : Int) (m : List Rat) (d : Int) (u : Int) (c : List Rat) : Prop where
 e : Zdt s l t m d = some (u, c)
 p : u + c.length = min (s + l.length) (t + m.length)
 f : ∀ n, n < u + c.length → cf u c n = cf s l n + (d : Rat) * cf t m n
 z : lead c = 0
theorem Co.p1 {s t d u : Int} {l m c : List Rat} (h : Co s l t m d u c) : u + c.length ≤ s + l.length := by have := h.p; omega
theorem Co.p2 {s t d u : Int} {l m c : List Rat} (h : Co s l t m d u c) : u + c.length ≤ t + m.length := by have := h.p; omega
theorem comb_co {s t d : Int} {l m : List Rat} {a b b' : Int} {K : Nat} (ha : Bd s l a b K) (hb : Bd t m a b' K) (hK : 1 ≤ K) (hd : d.natAbs < 4294967296) (h1 : -100 ≤ a) : ∃ u c, Co s l t m d u c ∧ Bd u c a b (2 * K + 2) := by
 obtain ⟨u, c, e, g, p, q, lb, f, k, z⟩ := Ze6 (c := d) ha.v hb.v hd hK ha.ht hb.ht
 refine ⟨u, c, ⟨e, p, fun n hn => f n (by omega), z⟩, Out.v g p q, ?_, by rw [z]; omega, ?_, g, k, ?_⟩
 ·rw [z]
  by_cases h : a ≤ u
  ·omega
  ·exfalso
   obtain ⟨va, oa, opa, pa, sa, hta, na⟩ := ha
   obtain ⟨vb, ob, opb, pb, sb, htb, nb⟩ := hb
   have hlen : 0 < c.length := by omega
   have hx : cf u c u = cf s l u + (d : Rat) * cf t m u := f u (by omega)
   have hy : cf u c u = c[0] := by unfold cf; rw [if_neg (by omega), Int.sub_self]; simp [hlen]
   rw [cf_ord (s := s) (by omega), cf_ord (s := t) (by omega), Rat.mul_zero, Rat.add_zero, hy] at hx
   exact Zdq c c[0] (by rw [z]; exact List.getElem?_eq_getElem hlen) hx
 ·have := ha.p
  omega
 ·have := ha.n
  have := hb.n
  omega
def Is (x : Option (Int × List Rat)) (u : Int) (c : List Rat) : Prop := x = some (u, c) ∧ Zai u c.length = true ∧ ∀ q, q ∈ c → Ht q 3000
theorem Mu.comm {s t u u' : Int} {l m c c' : List Rat} (h : Mu s l t m u c) (h' : Mu t m s l u' c') : u = u' ∧ c = c' := by
 have p := h.p
 have p' := h'.p
 refine norm_eq h.z h'.z (by omega) fun n hn => ?_
 rw [h.f n hn, h'.f n (by omega), cv_comm]
theorem Mu.assoc {s t r u1 u2 u u' : Int} {l m k c1 c2 c c' : List Rat} (h1 : Mu s l t m u1 c1) (h2 : Mu t m r k u2 c2) (h : Mu u1 c1 r k u c) (h' : Mu s l u2 c2 u' c') (ha : -30 ≤ s) (hb : -30 ≤ t) (hc : -30 ≤ r) : u = u' ∧ c = c' := by
 have p1 := h1.p
 have p2 := h2.p
 have p := h.p
 have p' := h'.p
 have o1 := h1.o
 have o2 := h2.o
 rw [h1.z] at p
 rw [h2.z] at p'
 have pe : u + c.length = u' + c'.length := by omega
 refine norm_eq h.z h'.z pe fun n hn => ?_
 have hn' : n < u' + c'.length := by omega
 rw [h.f n hn, h'.f n hn']
 have b1 := h.p2
 have b2 := h'.p1
 have x1 : cv (cf u1 c1) (cf r k) n = cv (cv (cf s l) (cf t m)) (cf r k) n := cv_left fun i => by
  by_cases hi : i < u1 + c1.length
  ·exact .inl (h1.f i hi)
  ·exact .inr (cf_ord (by clear p1 p2 p p' pe b2; omega))
 have x2 : cv (cf s l) (cf u2 c2) n = cv (cf s l) (cv (cf t m) (cf r k)) n := cv_right fun i => by
  by_cases hi : i < u2 + c2.length
  ·exact .inl (h2.f i hi)
  ·exact .inr (cf_ord (by clear p1 p2 p p' pe b1; omega))
 rw [x1, x2, cv_assoc (low_cf ha) (low_cf hb) (low_cf hc)]
theorem Co.add {s t u : Int} {l m c : List Rat} (h : Co s l t m 1 u c) (n : Int) (hn : n < u + c.length) : cf u c n = cf s l n + cf t m n := by
 have := h.f n hn
 rw [this, Rat.intCast_one, Rat.one_mul]
theorem Co.sub {s t u : Int} {l m c : List Rat} (h : Co s l t m (-1) u c) (n : Int) (hn : n < u + c.length) : cf u c n = cf s l n - cf t m n := by
 have := h.f n hn
 rw [this, show ((-1 : Int) : Rat) = -1 by rfl]
 grind
theorem distrib {s t r u4 u1 u3 u6 u7 : Int} {l m k c4 c1 c3 c6 c7 : List Rat} (h4 : Co t m r k 1 u4 c4) (h1 : Mu s l t m u1 c1) (h3 : Mu s l r k u3 c3) (h6 : Mu s l u4 c4 u6 c6) (h7 : Co u1 c1 u3 c3 1 u7 c7) (n : Int) (n6 : n < u6 + c6.length) (n7 : n < u7 + c7.length) : cf u6 c6 n = cf u7 c7 n := by
 have b6 := h6.p1
 have b71 := h7.p1
 have b72 := h7.p2
 have x1 : cv (cf s l) (cf u4 c4) n = cv (cf s l) (fun i => cf t m i + cf r k i) n := cv_right fun i => by
  by_cases hi : i < u4 + c4.length
  ·exact .inl (h4.add i hi)
  ·exact .inr (cf_ord (by omega))
 rw [h6.f n n6, x1, cv_add, h7.add n n7, h1.f n (by omega), h3.f n (by omega)]
theorem ring {s t r : Int} {l m k : List Rat} (ha : In12 s l) (hb : In12 t m) (hc : In12 r k) :
  ∃ u1 c1 u2 c2 u3 c3 u4 c4 u5 c5 u6 c6 u7 c7 u8 c8, Is (mulR s l t m) u1 c1 ∧ Is (mulR t m s l) u1 c1 ∧ Is (mulR t m r k) u2 c2 ∧ Is (mulR s l r k) u3 c3 ∧ Is (Zdt t m r k 1) u4 c4 ∧
   Is (mulR u1 c1 r k) u5 c5 ∧ Is (mulR s l u2 c2) u5 c5 ∧ Is (mulR s l u4 c4) u6 c6 ∧ Is (Zdt u1 c1 u3 c3 1) u7 c7 ∧ Is (Zdt u4 c4 r k (-1)) u8 c8 ∧ agr u5 c5 u5 c5 = true ∧ agr u6 c6 u7 c7 = true ∧ agr u8 c8 t m = true := by
 have A := ha.bd
 have B := hb.bd
 have C := hc.bd
 have sm' : ∀ {c : List Rat} {K : Nat}, K ≤ 3000 → (∀ q, q ∈ c → Ht q K) → ∀ q, q ∈ c → Ht q 3000 := fun hK h q hq => (h q hq).mono hK
 obtain ⟨u1, c1, m1, d1⟩ := mul_mu A B (by decide) (by decide) (by decide)
 obtain ⟨u1', c1', m1', d1'⟩ := mul_mu B A (by decide) (by decide) (by decide)
 obtain ⟨rfl, rfl⟩ := m1.comm m1'
 obtain ⟨u2, c2, m2, d2⟩ := mul_mu B C (by decide) (by decide) (by decide)
 obtain ⟨u3, c3, m3, d3⟩ := mul_mu A C (by decide) (by decide) (by decide)
 obtain ⟨u4, c4, m4, d4⟩ := comb_co (d := 1) B C (by decide) (by decide) (by decide)
 obtain ⟨u5, c5, m5, d5⟩ := mul_mu d1 (C.mono (K' := 109) (by decide)) (by decide) (by decide) (by decide)
 obtain ⟨u5', c5', m5', d5'⟩ := mul_mu (A.mono (K' := 109) (by decide)) d2 (by decide) (by decide) (by decide)
 obtain ⟨rfl, rfl⟩ := m1.assoc m2 m5 m5' (by have := ha.lo; omega) (by have := hb.lo; omega) (by have := hc.lo; omega)
 obtain ⟨u6, c6, m6, d6⟩ := mul_mu (A.mono (K' := 10) (by decide)) d4 (by decide) (by decide) (by decide)
 obtain ⟨u7, c7, m7, d7⟩ := comb_co (d := 1) d1 d3 (by decide) (by decide) (by decide)
 obtain ⟨u8, c8, m8, d8⟩ := comb_co (d := -1) d4 (C.mono (K' := 10) (by decide)) (by decide) (by decide) (by decide)
 have e8 : ∀ n, n < u8 + c8.length → n < t + m.length → cf u8 c8 n = cf t m n := fun n n8 nt => by
  have b8 := m8.p1
  rw [m8.sub n n8, m4.add n (by omega)]
  grind
 exact ⟨u1, c1, u2, c2, u3, c3, u4, c4, u5, c5, u6, c6, u7, c7, u8, c8, ⟨m1.e, d1.v, sm' (by decide) d1.ht⟩, ⟨m1'.e, d1.v, sm' (by decide) d1.ht⟩, ⟨m2.e, d2.v, sm' (by decide) d2.ht⟩, ⟨m3.e, d3.v, sm' (by decide) d3.ht⟩, ⟨m4.e, d4.v, sm' (by decide) d4.ht⟩, ⟨m5.e, d5.v, sm' (by decide) d5.ht⟩, ⟨m5'.e, d5.v, sm' (by decide) d5.ht⟩, ⟨m6.e, d6.v, sm' (by decide) d6.ht⟩, ⟨m7.e, d7.v, sm' (by decide) d7.ht⟩, ⟨m8.e, d8.v, sm' (by decide) d8.ht⟩, agr_true d5.v d5.v fun _ _ _ => rfl, agr_true d6.v d7.v fun n => distrib m4 m1 m3 m6 m7 n, agr_true d8.v B.v e8⟩
end Ab
namespace Ab
open Go Go.RowKit Go.Proofs Hp
set_option maxRecDepth 100000
def tdy (s : Int) (l : List Rat) : Int × List Rat := (s + lead l, l.drop (lead l))
def norR (s : Int) (l : List Rat) : Option (Int × List Rat) := if Zai s l.length then some (tdy s l) else none
theorem normal_p {s : Int} {es : List AV} {l : List Rat} {K : Nat} (h : Zai s es.length = true → IsL es K l) (hle : es.length = l.length) (hr : InR s es.length) (hK : 1 ≤ K ∧ K ≤ 268435456) : PC Tryz.prog 39 [serA s es] (serE (norR s l)) := by
  obtain ⟨i1, i2, i3⟩ := hr
  have hva := Zdn i1 i2 i3
  rw [Zbc]
  unfold norR
  rw [← hle]
  cases h1 : Zai s es.length with
  | false =>
    rw [h1] at hva
    refine pb2 Tryz.func39 (Zab.agg Zaf) Zab.tmp ?_
    refine goA ?_
    refine clG hva ?_
    exact rfl
  | true =>
    rw [h1] at hva
    obtain ⟨a0, a1, a2⟩ := Zan.1 h1
    have ht := tidy_p (h h1) (by omega) a0 a1 a2
    refine pb2 Tryz.func39 (Zab.agg Zaf) Zab.tmp ?_
    refine goA ?_
    refine clG hva ?_
    refine clG ht ?_
    exact rfl
def cutS (s : Int) (l : List Rat) (p : Int) : Int × List Rat := if s + l.length ≤ p then tdy s l else if p ≤ s then (p, []) else tdy s (l.take (p - s).toNat)
def cutR (s : Int) (l : List Rat) (p : Int) : Option (Int × List Rat) := if Zai s l.length && decide (-100 ≤ p) then some (cutS s l p) else none
end Ab
namespace Ab
open Hp
theorem ht_getD {l : List Rat} {K : Nat} (hK : 1 ≤ K) (h : ∀ q, q ∈ l → Ht q K) (i : Nat) : Ht (l.getD i 0) K := by
 rw [List.getD_eq_getElem?_getD]
 cases e : l[i]? with
 | none => exact ht0 hK
 | some q => exact h q (List.mem_of_getElem? e)
structure Msk (s : Int) (l : List Rat) (A : Int → Bool) (u : Int) (c : List Rat) : Prop where
 v : Zai u c.length = true
 p : u + c.length = s + l.length
 z : lead c = 0
 f : ∀ n, n < s + l.length → cf u c n = if A n then cf s l n else 0
theorem cf_mem {u : Int} {c : List Rat} {q : Rat} (hq : q ∈ c) : ∃ n, n < u + c.length ∧ cf u c n = q := by
 obtain ⟨i, hi, rfl⟩ := List.mem_iff_getElem.1 hq
 refine ⟨u + i, by omega, ?_⟩
 unfold cf
 rw [if_neg (by omega), show (u + (i : Int) - u).toNat = i by omega]
 simp [hi]
theorem Msk.ht {s : Int} {l : List Rat} {A : Int → Bool} {u : Int} {c : List Rat} {K : Nat} (h : Msk s l A u c) (hK : 1 ≤ K) (hl : ∀ q, q ∈ l → Ht q K) : ∀ q, q ∈ c → Ht q K := fun q hq => by
 obtain ⟨n, h1, rfl⟩ := cf_mem (u := u) hq
 rw [h.f n (by have := h.p; omega)]
 split
 ·exact ht_cf hK hl _
 ·exact ht0 hK
end Ab
