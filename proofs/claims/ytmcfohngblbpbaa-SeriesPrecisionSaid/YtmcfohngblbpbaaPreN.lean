/- Series that have been cut: sums, products and inverses agree as far as they are known; plain. -/
import Derived.Test.YtmcfohngblbpbaaRingN
import Derived.Test.YtmcfohngblbpbaaCut
namespace Ab
open Hp
/-- a cut series -/
structure Cu (s : Int) (l : List Rat) (u : Int) (c : List Rat) : Prop where
  b : Bd u c (-8) 52 4
  z : lead c = 0
  u0 : -8 ≤ u
  u1 : u ≤ 52
  p : u + c.length ≤ s + l.length
  f : ∀ n, n < u + c.length → cf u c n = cf s l n
theorem tdy_cu {s : Int} {l : List Rat} {t : Int} {m : List Rat} (h : Bd t m (-8) 52 4) (ht1 : t ≤ 52) (ht0 : -8 ≤ t) (hp : t + m.length ≤ s + l.length) (hf : ∀ n, n < t + m.length → cf t m n = cf s l n) : Cu s l (tdy t m).1 (tdy t m).2 := by
  have hl := lead_le m
  have hlen : ((m.drop (lead m)).length : Int) = m.length - lead m := by rw [List.length_drop]; omega
  obtain ⟨h1, h2, h3, h4, h5, h6, h7⟩ := h
  obtain ⟨a0, a1, a2⟩ := valid_iff.1 h1
  have hz := lead_drop m
  show Cu s l (t + lead m) (m.drop (lead m))
  refine ⟨⟨valid_iff.2 ⟨by omega, by omega, by omega⟩, ?_, ?_, by omega, by omega, fun q hq => h6 q (List.mem_of_mem_drop hq), by rw [List.length_drop]; omega⟩, hz, by omega, by omega, by omega, fun n hn => ?_⟩
  · rw [hz]; omega
  · rw [hz]; omega
  · rw [cf_drop t m _ (Nat.le_refl _)]; exact hf n (by omega)
theorem cut_cu {s p : Int} {l : List Rat} (h : In12 s l) (hp : -8 ≤ p) : Cu s l (cutS s l p).1 (cutS s l p).2 ∧ cutR s l p = some (cutS s l p) := by
  obtain ⟨hv, lo, hi, hn, ht⟩ := h
  obtain ⟨a0, a1, a2⟩ := valid_iff.1 hv
  have hlead := lead_le l
  refine ⟨?_, by unfold cutR; rw [hv]; simp; omega⟩
  unfold cutS
  by_cases h1 : s + l.length ≤ p
  · rw [if_pos h1]
    exact tdy_cu ⟨hv, by omega, by omega, by omega, by omega, ht, hn⟩ (by omega) lo (Int.le_refl _) fun n _ => rfl
  · rw [if_neg h1]
    by_cases h2 : p ≤ s
    · rw [if_pos h2]
      refine ⟨⟨valid_iff.2 ⟨by omega, by omega, by simp; omega⟩, by simp [lead]; omega, by simp [lead], by simp; omega, by omega, fun q hq => by simp at hq, by simp⟩, rfl, hp, by omega, by simp; omega, fun n hn => ?_⟩
      rw [cf_lt (by simpa using hn), cf_lt (by have : n < p := by simpa using hn
                                               omega)]
    · rw [if_neg h2]
      have hlen : (l.take (p - s).toNat).length = (p - s).toNat := by rw [List.length_take]; omega
      have hle := lead_le (l.take (p - s).toNat)
      refine tdy_cu ⟨valid_iff.2 ⟨a0, a1, by omega⟩, by omega, by omega, by omega, by omega, fun q hq => ht q (List.mem_of_mem_take hq), by omega⟩ (by omega) lo (by omega) fun n hn => ?_
      unfold cf
      by_cases h3 : n < s
      · rw [if_pos h3, if_pos h3]
      · rw [if_neg h3, if_neg h3, List.getD_eq_getElem?_getD, List.getD_eq_getElem?_getD, List.getElem?_take_of_lt (by omega)]
/-- the order of a cut series is at most the order -/
theorem Cu.ord {s u : Int} {l c : List Rat} (h : Cu s l u c) (hv : lead l ≤ l.length) : u + lead c ≤ s + lead l := by
  rw [h.z]
  by_cases h1 : u ≤ s + lead l
  · omega
  · exfalso
    have hp := h.p
    have hle := lead_le l
    have hlt : lead l < l.length := by
      by_cases h2 : lead l < l.length
      · exact h2
      · have : (c.length : Int) ≥ 0 := by omega
        omega
    have e1 := h.f (s + lead l) (by omega)
    rw [cf_lt (by omega)] at e1
    have e2 : cf s l (s + lead l) = l[lead l] := by
      unfold cf
      rw [if_neg (by omega), show (s + (lead l : Int) - s).toNat = lead l by omega]
      simp [hlt]
    exact lead_ne l l[lead l] (List.getElem?_eq_getElem hlt) (by rw [← e2, ← e1])
theorem Bd.mono' {s : Int} {l : List Rat} {a b a' b' : Int} {K : Nat} (h : Bd s l a b K) (ha : a' ≤ a) (hb : b ≤ b') : Bd s l a' b' K := ⟨h.v, by have := h.o; omega, h.op, by have := h.p; omega, h.s0, h.ht, h.n⟩
/-- products of cut series -/
theorem mu_cut {s t u w x1 x2 : Int} {l m c d e1 e2 : List Rat} (h : Cu s l u c) (h' : Cu t m w d) (g1 : Mu u c w d x1 e1) (g2 : Mu s l t m x2 e2) : x1 + e1.length ≤ x2 + e2.length ∧ ∀ n, n < x1 + e1.length → cf x1 e1 n = cf x2 e2 n := by
  have o1 := h.ord (lead_le l)
  have o2 := h'.ord (lead_le m)
  have z1 := h.z
  have z2 := h'.z
  rw [z1] at o1
  rw [z2] at o2
  have p1 := h.p
  have p2 := h'.p
  have q1 := g1.p1
  have q2 := g1.p2
  have hle : x1 + (e1.length : Int) ≤ x2 + e2.length := by
    have := g2.p
    rw [z1] at q1
    rw [z2] at q2
    omega
  refine ⟨hle, fun n hn => ?_⟩
  rw [g1.f n hn, g2.f n (by omega)]
  rw [z1] at q1
  rw [z2] at q2
  have s1 : cv (cf u c) (cf w d) n = cv (cf s l) (cf w d) n := cv_left fun i => by
    by_cases hi : i < u + c.length
    · exact .inl (h.f i hi)
    · exact .inr (cf_lt (by omega))
  have s2 : cv (cf s l) (cf w d) n = cv (cf s l) (cf t m) n := cv_right fun i => by
    by_cases hi : i < w + d.length
    · exact .inl (h'.f i hi)
    · refine .inr ?_
      have hni : n - i < u := by omega
      by_cases h3 : n - i < u + c.length
      · rw [← h.f (n - i) h3, cf_lt hni]
      · omega
  rw [s1, s2]
theorem co_cut {s t u w x1 x2 : Int} {l m c d e1 e2 : List Rat} (h : Cu s l u c) (h' : Cu t m w d) (g1 : Co u c w d 1 x1 e1) (g2 : Co s l t m 1 x2 e2) : x1 + e1.length ≤ x2 + e2.length ∧ ∀ n, n < x1 + e1.length → cf x1 e1 n = cf x2 e2 n := by
  have p1 := h.p
  have p2 := h'.p
  have q1 := g1.p1
  have q2 := g1.p2
  have hle : x1 + (e1.length : Int) ≤ x2 + e2.length := by have := g2.p; omega
  refine ⟨hle, fun n hn => ?_⟩
  rw [g1.f n hn, g2.f n (by omega), h.f n (by omega), h'.f n (by omega)]
/-- inverses look at the first coefficients alone -/
theorem iss_congr {A C X : List Rat} {k : Nat} : ∀ j, (∀ i, i ≤ j → A.getD i 0 = C.getD i 0) → iss A X k j = iss C X k j
  | 0, _ => rfl
  | j + 1, h => by
    show iss A X k j + _ = iss C X k j + _
    rw [iss_congr j (fun i hi => h i (by omega)), h (j + 1) (Nat.le_refl _)]
theorem ivs_congr {A C : List Rat} : ∀ n, (∀ i, i < n → A.getD i 0 = C.getD i 0) → ivs A n = ivs C n
  | 0, _ => rfl
  | 1, h => by rw [ivs, ivs, h 0 (by omega)]
  | n + 2, h => by
    rw [ivs, ivs, ivs_congr (n + 1) (fun i hi => h i (by omega)), h 0 (by omega), iss_congr (n + 1) (fun i hi => h i (by omega))]
theorem iv_ne {A : List Rat} {n : Nat} (hn : 0 < n) (h : A.getD 0 0 ≠ 0) : ∀ q, (ivs A n)[0]? = some q → q ≠ 0 := fun q hq => by
  have h1 := ivs_get A n 0 hn
  rw [List.getD_eq_getElem?_getD, hq, if_pos rfl] at h1
  have h1 : q = 1 / A.getD 0 0 := h1
  intro h4
  rw [h4, Rat.div_def, Rat.one_mul] at h1
  exact h (by rw [← Rat.inv_inv (A.getD 0 0), ← h1]; exact Rat.inv_zero)
theorem iv_lead {A : List Rat} {n : Nat} (hn : 0 < n) (h : A.getD 0 0 ≠ 0) : lead (ivs A n) = 0 := lead_eq (fun i hi => absurd hi (Nat.not_lt_zero _)) (iv_ne hn h) (Nat.zero_le _)
/-- the inverse of a series that is known to be not 0 -/
theorem inv_is {s : Int} {l : List Rat} (hv : ValidP s l.length = true) (h0 : lead l < l.length) (hb : s + lead l ≤ 100) (hn : (l.length : Int) - lead l ≤ 800) : invT s l = (-(s + lead l), ivs (l.drop (lead l)) (l.drop (lead l)).length, 0) := by
  obtain ⟨a0, a1, a2⟩ := valid_iff.1 hv
  have hA : l.drop (lead l) ≠ [] := by intro e; have := congrArg List.length e; simp at this; omega
  have hA0 : 0 < (l.drop (lead l)).length := List.length_pos_iff.2 hA
  have h2 : (l.drop (lead l))[0]? = some (l.drop (lead l))[0] := List.getElem?_eq_getElem hA0
  have hne : (l.drop (lead l)).getD 0 0 ≠ 0 := by
    rw [List.getD_eq_getElem?_getD, h2]
    exact lead_ne l _ (by rw [List.getElem?_drop] at h2; exact h2)
  have hlen := ivs_len (l.drop (lead l)) (l.drop (lead l)).length
  have hl0 := iv_lead hA0 hne
  have hdl : (l.drop (lead l)).length = l.length - lead l := List.length_drop
  unfold invT
  rw [hv, if_pos rfl, if_neg hA]
  have e : nrm (-(s + (lead l : Int))) (ivs (l.drop (lead l)) (l.drop (lead l)).length) = some (-(s + (lead l : Int)), ivs (l.drop (lead l)) (l.drop (lead l)).length) := by
    rw [nrm_valid (by omega) (by omega) (by omega), hl0]
    simp
  rw [e]
  rfl
theorem inv_cut {s u : Int} {l c : List Rat} (hl : In12 s l) (h : Cu s l u c) (hc : c ≠ []) : ∃ x1 e1 x2 e2, invT u c = (x1, e1, 0) ∧ invT s l = (x2, e2, 0) ∧ ValidP x1 e1.length = true ∧ ValidP x2 e2.length = true ∧ (∀ q, q ∈ e1 → Ht q (HB 4 12)) ∧ (∀ q, q ∈ e2 → Ht q (HB 4 12)) ∧ x1 + e1.length ≤ x2 + e2.length ∧ agr x1 e1 x2 e2 = true := by
  obtain ⟨hv, lo, hi, hn, ht⟩ := hl
  obtain ⟨a0, a1, a2⟩ := valid_iff.1 hv
  obtain ⟨b0, b1, b2⟩ := valid_iff.1 h.b.v
  have hz := h.z
  have hcl : 0 < c.length := List.length_pos_iff.2 hc
  have hpp := h.p
  have hu0 := h.u0
  have hu1 := h.u1
  have hcn := h.b.n
  have hle := lead_le l
  -- the leading coefficients are at the same place
  have hc0 : cf u c u ≠ 0 := by
    have e : cf u c u = c[0] := by unfold cf; rw [if_neg (by omega), Int.sub_self]; simp [hcl]
    rw [e]
    exact lead_ne c c[0] (by rw [hz]; exact List.getElem?_eq_getElem hcl)
  have o1 := h.ord hle
  rw [hz] at o1
  have ho : s + (lead l : Int) = u := by
    by_cases h1 : u < s + lead l
    · exfalso
      rw [h.f u (by omega), cf_ord h1] at hc0
      exact hc0 rfl
    · omega
  have hlt : lead l < l.length := by omega
  have i1 := inv_is h.b.v (by rw [hz]; exact hcl) (by rw [hz]; omega) (by omega)
  have i2 := inv_is hv hlt (by omega) (by omega)
  rw [hz] at i1
  simp only [List.drop_zero] at i1
  have hdl : (l.drop (lead l)).length = l.length - lead l := List.length_drop
  have hco : ∀ i, i < c.length → c.getD i 0 = (l.drop (lead l)).getD i 0 := fun i hi2 => by
    have e1 := h.f (u + i) (by omega)
    rw [← cf_drop s l (lead l) (Nat.le_refl _), ho] at e1
    unfold cf at e1
    rw [if_neg (by omega), if_neg (by omega), show (u + (i : Int) - u).toNat = i by omega] at e1
    exact e1
  have l1 := ivs_len c c.length
  have l2 := ivs_len (l.drop (lead l)) (l.drop (lead l)).length
  have v1 : ValidP (-(u + ((0 : Nat) : Int))) (ivs c c.length).length = true := by rw [l1]; exact valid_iff.2 ⟨by omega, by omega, by omega⟩
  have v2 : ValidP (-(s + (lead l : Int))) (ivs (l.drop (lead l)) (l.drop (lead l)).length).length = true := by rw [l2]; exact valid_iff.2 ⟨by omega, by omega, by omega⟩
  have hts : ∀ {A : List Rat}, (∀ q, q ∈ A → Ht q 4) → A.length ≤ 12 → ∀ q, q ∈ ivs A A.length → Ht q (HB 4 12) := fun {A} hA hA12 q hq => by
    obtain ⟨i, hi⟩ := List.getElem?_of_mem hq
    have hil : i < A.length := by have := (List.getElem?_eq_some_iff.1 hi).1; rw [ivs_len] at this; exact this
    have := ht_iv (by decide) hA A.length (by omega) i hil
    rw [List.getD_eq_getElem?_getD, hi] at this
    exact this.mono (HB_mono 4 (by omega))
  refine ⟨_, _, _, _, i1, i2, v1, v2, hts h.b.ht hcn, hts (fun q hq => ht q (List.mem_of_mem_drop hq)) (by omega), by rw [l1, l2]; omega, agr_true v1 v2 fun n h1 h2 => ?_⟩
  rw [l1] at h1
  rw [l2] at h2
  unfold cf
  rw [ho, Int.natCast_zero, Int.add_zero]
  by_cases h3 : n < -u
  · rw [if_pos h3, if_pos h3]
  · rw [if_neg h3, if_neg h3]
    obtain ⟨i, hi2⟩ : ∃ i : Nat, n - -u = i := ⟨(n - -u).toNat, by omega⟩
    rw [hi2, Int.toNat_natCast]
    have hic : i < c.length := by omega
    rw [ivs_get c _ i hic, ivs_get (l.drop (lead l)) _ i (by omega)]
    rw [hco 0 hcl, ivs_congr i (fun j hj => hco j (by omega)), iss_congr i (fun j hj => hco j (by omega))]
end Ab
