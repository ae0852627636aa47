/- Contract, Expand, Sieve: coefficients of the results; plain. -/
import Derived.Test.YtmcfohngblbpbaaRingN
import Derived.Test.YtmcfohngblbpbaaCut
namespace Ab
open Hp
/-- the least integer that is at least n/d -/
def upv (n d : Int) : Int := (n + d - 1) / d
theorem upv_spec {n d : Int} (hd : 1 ≤ d) : (upv n d - 1) * d < n ∧ n ≤ upv n d * d := by
  unfold upv
  have h1 := Int.mul_ediv_add_emod (n + d - 1) d
  have h2 := Int.emod_nonneg (n + d - 1) (show d ≠ 0 by omega)
  have h3 := Int.emod_lt_of_pos (n + d - 1) (show 0 < d by omega)
  generalize (n + d - 1) / d = u at *
  rw [Int.mul_comm] at h1
  rw [Int.sub_mul, Int.one_mul]
  omega
def conN (s : Int) (l : List Rat) (d : Int) : Nat := (upv (s + l.length) d - upv s d).toNat
def conF (s : Int) (l : List Rat) (d : Int) (i : Nat) : Rat := cf s l ((upv s d + i) * d)
def conR (s : Int) (l : List Rat) (d : Int) : Option (Int × List Rat) := if ValidP s l.length && (decide (1 ≤ d) && decide (d ≤ 1000)) then nrm (upv s d) (tk (conF s l d) (conN s l d)) else none
def expN (s : Int) (l : List Rat) (d : Int) : Nat := (min (d * ((l.drop (lead l)).length : Int)) (1000 - d * (s + lead l))).toNat
def expF (l : List Rat) (d : Int) (i : Nat) : Rat := if i % d.toNat = 0 then (l.drop (lead l)).getD (i / d.toNat) 0 else 0
def expR (s : Int) (l : List Rat) (d : Int) : Option (Int × List Rat) := if ValidP s l.length && (decide (1 ≤ d) && decide (d ≤ 1000)) then nrm (d * (s + lead l)) (tk (expF l d) (expN s l d)) else none
def sieF (s : Int) (l : List Rat) (m r : Int) (i : Nat) : Rat := if (s + i - r.tmod m).tmod m = 0 then l.getD i 0 else 0
def sieR (s : Int) (l : List Rat) (m r : Int) : Option (Int × List Rat) := if ValidP s l.length && (decide (1 ≤ m) && decide (m ≤ 1000)) then nrm s (tk (sieF s l m r) l.length) else none
theorem ht_getD {l : List Rat} {K : Nat} (hK : 1 ≤ K) (h : ∀ q, q ∈ l → Ht q K) (i : Nat) : Ht (l.getD i 0) K := by
  rw [List.getD_eq_getElem?_getD]
  cases e : l[i]? with
  | none => exact ht0 hK
  | some q => exact h q (List.mem_of_getElem? e)
theorem upv_iff {n d k : Int} (hd : 1 ≤ d) : upv n d ≤ k ↔ n ≤ k * d := by
  obtain ⟨h1, h2⟩ := upv_spec (n := n) hd
  constructor
  · intro h
    have := Int.mul_le_mul_of_nonneg_right h (show 0 ≤ d by omega)
    omega
  · intro h
    by_cases h3 : upv n d ≤ k
    · exact h3
    · exfalso
      have := Int.mul_le_mul_of_nonneg_right (show k ≤ upv n d - 1 by omega) (show 0 ≤ d by omega)
      omega
theorem upv_le {n m d : Int} (hd : 1 ≤ d) (h : n ≤ m) : upv n d ≤ upv m d := (upv_iff hd).2 (by have := (upv_spec (n := m) hd).2; omega)
theorem upv_lo {n d b : Int} (hd : 1 ≤ d) (h : b ≤ n) (hb : b ≤ 0) : b ≤ upv n d := by
  by_cases h1 : b ≤ upv n d
  · exact h1
  · exfalso
    have h2 := (upv_iff (n := n) (k := b - 1) hd).1 (by omega)
    have h3 : (b - 1) * d ≤ (b - 1) * 1 := Int.mul_le_mul_of_nonpos_left (by omega) hd
    omega
theorem upv_hi {n d b : Int} (hd : 1 ≤ d) (h : n ≤ b) (hb : 0 ≤ b) : upv n d ≤ b := (upv_iff hd).2 (by
  have : b * 1 ≤ b * d := Int.mul_le_mul_of_nonneg_left hd hb
  omega)
theorem con_out {s d : Int} {l : List Rat} {K : Nat} (hv : ValidP s l.length = true) (h0 : 1 ≤ d) (h1 : d ≤ 1000) (hK : 1 ≤ K) (hl : ∀ q, q ∈ l → Ht q K) : Out (conR s l d) (upv (s + l.length) d) (fun n => cf s l (n * d)) (upv s d) K := by
  obtain ⟨a0, a1, a2⟩ := valid_iff.1 hv
  have e : conR s l d = nrm (upv s d) (tk (conF s l d) (conN s l d)) := by unfold conR; rw [hv]; simp [h0, h1]
  have b1 := upv_lo (n := s) (b := -100) h0 a0 (by decide)
  have b2 := upv_hi (n := s + l.length) (b := 1000) h0 (by omega) (by decide)
  have b3 := upv_le (n := s) (m := s + l.length) h0 (by omega)
  have eN : upv s d + ((tk (conF s l d) (conN s l d)).length : Int) = upv (s + l.length) d := by rw [tk_len]; unfold conN; omega
  rw [e]
  have := nrm_out (s := upv s d) (l := tk (conF s l d) (conN s l d)) (K := K) b1 (by omega) (fun q hq => by obtain ⟨i, -, rfl⟩ := tk_mem hq; exact ht_cf hK hl _)
  refine this.congr eN (fun n hn => ?_) (Int.le_refl _) (Nat.le_refl _)
  by_cases h2 : n < upv s d
  · rw [cf_lt h2, cf_lt]
    have := mt (upv_iff (n := s) (k := n) h0).2 (by omega)
    omega
  · rw [cf_tk (by omega) (by rw [tk_len] at eN; omega)]
    unfold conF
    rw [show upv s d + ((n - upv s d).toNat : Int) = n by omega]
theorem exp_out {s d : Int} {l : List Rat} {K : Nat} (hv : ValidP s l.length = true) (h0 : 1 ≤ d) (h1 : d ≤ 1000) (hlo : -100 ≤ d * (s + lead l)) (hhi : d * (s + l.length) ≤ 1000) (hK : 1 ≤ K) (hl : ∀ q, q ∈ l → Ht q K) : Out (expR s l d) (d * (s + l.length)) (fun n => if n % d = 0 then cf s l (n / d) else 0) (d * (s + lead l)) K := by
  have ll := lead_le l
  have e : expR s l d = nrm (d * (s + lead l)) (tk (expF l d) (expN s l d)) := by unfold expR; rw [hv]; simp [h0, h1]
  have eL : ((l.drop (lead l)).length : Int) = l.length - lead l := by simp; omega
  have e1 : d * (l.length - lead l : Int) + d * (s + lead l) = d * (s + l.length) := by rw [← Int.mul_add]; congr 1; omega
  have e2 : 0 ≤ d * (l.length - lead l : Int) := Int.mul_nonneg (by omega) (by omega)
  have eN : (expN s l d : Int) = d * (l.length - lead l) := by unfold expN; rw [eL]; omega
  rw [e]
  have := nrm_out (s := d * (s + lead l)) (l := tk (expF l d) (expN s l d)) (K := K) hlo (by rw [tk_len]; omega) (fun q hq => by
    obtain ⟨i, -, rfl⟩ := tk_mem hq
    unfold expF
    split
    · exact ht_getD hK (fun q hq => hl q (List.mem_of_mem_drop hq)) _
    · exact ht0 hK)
  refine this.congr (by rw [tk_len]; omega) (fun n hn => ?_) (Int.le_refl _) (Nat.le_refl _)
  have m1 := Int.mul_ediv_add_emod n d
  have m2 := Int.emod_nonneg n (show d ≠ 0 by omega)
  have m3 := Int.emod_lt_of_pos n (show 0 < d by omega)
  by_cases h2 : n < d * (s + lead l)
  · rw [cf_lt h2]
    split
    · rename_i h3
      rw [cf_ord]
      by_cases h4 : n / d < s + lead l
      · exact h4
      · have := Int.mul_le_mul_of_nonneg_left (show s + lead l ≤ n / d by omega) (show 0 ≤ d by omega)
        omega
    · rfl
  · rw [cf_tk (by omega) (by omega)]
    unfold expF
    obtain ⟨D, rfl⟩ : ∃ D : Nat, d = D := ⟨d.toNat, by omega⟩
    obtain ⟨i, hi⟩ : ∃ i : Nat, n = D * (s + lead l) + i := ⟨(n - D * (s + lead l)).toNat, by omega⟩
    subst hi
    have q1 : ((D : Int) * (s + lead l) + i) % D = ((i % D : Nat) : Int) := by rw [Int.mul_add_emod_self_left]; rfl
    have q2 : ((D : Int) * (s + lead l) + i) / D = s + lead l + ((i / D : Nat) : Int) := by rw [Int.mul_add_ediv_left _ _ (by omega)]; rfl
    rw [q1, q2, show ((D : Int) * (s + lead l) + i - D * (s + lead l)).toNat = i by omega, Int.toNat_natCast]
    generalize hQ : i / D = Q
    generalize hR : i % D = R
    clear m1 m2 m3 q1 q2
    by_cases h3 : R = 0
    · rw [if_pos h3, if_pos (by omega)]
      unfold cf
      rw [if_neg (by omega), show (s + (lead l : Int) + (Q : Int) - s).toNat = lead l + Q by omega]
      simp [List.getD_eq_getElem?_getD]
    · rw [if_neg h3, if_neg (by omega)]
/-- a series with some coefficients made 0 -/
structure Msk (s : Int) (l : List Rat) (A : Int → Bool) (u : Int) (c : List Rat) : Prop where
  v : ValidP u c.length = true
  p : u + c.length = s + l.length
  z : lead c = 0
  f : ∀ n, n < s + l.length → cf u c n = if A n then cf s l n else 0
theorem cf_mem {u : Int} {c : List Rat} {q : Rat} (hq : q ∈ c) : ∃ n, n < u + c.length ∧ cf u c n = q := by
  obtain ⟨i, hi, rfl⟩ := List.mem_iff_getElem.1 hq
  refine ⟨u + i, by omega, ?_⟩
  unfold cf
  rw [if_neg (by omega), show (u + (i : Int) - u).toNat = i by omega]
  simp [hi]
theorem Msk.ht {s : Int} {l : List Rat} {A : Int → Bool} {u : Int} {c : List Rat} {K : Nat} (h : Msk s l A u c) (hK : 1 ≤ K) (hl : ∀ q, q ∈ l → Ht q K) : ∀ q, q ∈ c → Ht q K := fun q hq => by
  obtain ⟨n, h1, rfl⟩ := cf_mem (u := u) hq
  rw [h.f n (by have := h.p; omega)]
  split
  · exact ht_cf hK hl _
  · exact ht0 hK
theorem sie_msk {s m : Int} {r : Nat} {l : List Rat} {K : Nat} (hv : ValidP s l.length = true) (h0 : 1 ≤ m) (h1 : m ≤ 1000) (hr : (r : Int) < m) (hK : 1 ≤ K) (hl : ∀ q, q ∈ l → Ht q K) : ∃ u c, sieR s l m r = some (u, c) ∧ Msk s l (fun n => decide (n % m = r)) u c := by
  obtain ⟨a0, a1, a2⟩ := valid_iff.1 hv
  have e : sieR s l m r = nrm s (tk (sieF s l m r) l.length) := by unfold sieR; rw [hv]; simp [h0, h1]
  obtain ⟨u, c, g1, g2, g3, g4, g5, g6, g7, g8⟩ := nrm_out (s := s) (l := tk (sieF s l m r) l.length) (K := K) a0 (by rw [tk_len]; omega) (fun q hq => by
    obtain ⟨i, -, rfl⟩ := tk_mem hq
    unfold sieF
    split
    · exact ht_getD hK hl _
    · exact ht0 hK)
  rw [tk_len] at g3 g4 g6
  refine ⟨u, c, by rw [e, g1], Out.v g2 g3 (by omega), g3, g8, fun n hn => ?_⟩
  rw [g6 n hn]
  by_cases h2 : n < s
  · rw [cf_lt h2, cf_lt h2]; simp
  · rw [cf_tk (by omega) (by omega)]
    unfold sieF
    rw [show (s + ((n - s).toNat : Int)) = n by omega]
    have hrm : ((r : Int)).tmod m = r := Int.tmod_eq_of_lt (by omega) hr
    rw [hrm]
    have hiff : (n - (r : Int)).tmod m = 0 ↔ n % m = r := by
      rw [← Int.dvd_iff_tmod_eq_zero]
      constructor
      · rintro ⟨k, hk⟩
        have : n = r + m * k := by omega
        rw [this, Int.add_mul_emod_self_left]
        exact Int.emod_eq_of_lt (by omega) hr
      · intro h
        refine ⟨n / m, ?_⟩
        have := Int.mul_ediv_add_emod n m
        omega
    by_cases h3 : n % m = r
    · rw [if_pos (hiff.2 h3)]
      simp only [h3, decide_true, if_true]
      unfold cf
      rw [if_neg h2]
    · rw [if_neg (mt hiff.1 h3)]
      simp [h3]
theorem msk_add {s : Int} {l : List Rat} {A B : Int → Bool} {u w : Int} {c d : List Rat} {K : Nat} (h : Msk s l A u c) (h' : Msk s l B w d) (hd : ∀ n, A n = true → B n = false) (hK : 1 ≤ K) (hl : ∀ q, q ∈ l → Ht q K) : ∃ x e, combR u c w d 1 = some (x, e) ∧ Msk s l (fun n => A n || B n) x e := by
  obtain ⟨x, e, g1, g2, g3, g4, g5, g6, g7, g8⟩ := comb_out (c := 1) h.v h'.v (by decide) hK (h.ht hK hl) (h'.ht hK hl)
  have p1 := h.p
  have p2 := h'.p
  have g3 : x + (e.length : Int) = s + l.length := by rw [g3]; omega
  refine ⟨x, e, g1, Out.v g2 g3 (by have := (valid_iff.1 h.v).2.2; omega), g3, g8, fun n hn => ?_⟩
  rw [g6 n (by omega)]
  show cf u c n + _ * cf w d n = _
  rw [h.f n hn, h'.f n hn]
  cases ha : A n with
  | true => rw [hd n ha]; simp [Rat.add_zero]
  | false => cases hb : B n <;> simp [Rat.add_zero, Rat.zero_add]
theorem msk_all {s : Int} {l : List Rat} {A : Int → Bool} {u : Int} {c : List Rat} (h : Msk s l A u c) (hA : ∀ n, A n = true) : (u, c) = tdy s l := by
  have p := h.p
  obtain ⟨h1, h2⟩ := norm_eq (s := u) (t := s + lead l) (l := c) (m := l.drop (lead l)) h.z (lead_drop l) (by have := lead_le l; simp; omega) (fun n hn => by
    rw [h.f n (by omega), hA n, cf_drop s l _ (Nat.le_refl _)]; rfl)
  rw [h1, h2]; rfl
theorem norR_eq {s : Int} {l : List Rat} (hv : ValidP s l.length = true) : norR s l = some (tdy s l) := by unfold norR; rw [hv]; rfl
/-- contracting an expanded series gives the series -/
theorem con_exp {s d : Int} {l : List Rat} (h : In12 s l) (h0 : 1 ≤ d) (h1 : d ≤ 8) : ∃ u c, expR s l d = some (u, c) ∧ ValidP u c.length = true ∧ (∀ q, q ∈ c → Ht q 4) ∧ conR u c d = some (tdy s l) := by
  obtain ⟨hv, lo, hi, hn, ht⟩ := h
  have ll := lead_le l
  have b1 : -64 ≤ d * (s + lead l) := by
    have : d * (-8) ≤ d * (s + lead l) := Int.mul_le_mul_of_nonneg_left (by omega) (by omega)
    omega
  have b2 : d * (s + l.length) ≤ 416 := by
    have : d * (s + l.length) ≤ d * 52 := Int.mul_le_mul_of_nonneg_left (by omega) (by omega)
    omega
  obtain ⟨u, c, g1, g2, g3, g4, g5, g6, g7, g8⟩ := exp_out hv h0 (by omega) (by omega) (by omega) (by decide : 1 ≤ 4) ht
  have vc := Out.v g2 g3 (by omega)
  refine ⟨u, c, g1, vc, g7, ?_⟩
  obtain ⟨x, e, k1, k2, k3, k4, k5, k6, k7, k8⟩ := con_out (d := d) vc h0 (by omega) (by decide : 1 ≤ 4) g7
  have hup : upv (u + c.length) d = s + l.length := by
    rw [g3]
    have e1 := (upv_iff (n := d * (s + l.length)) (k := s + l.length) h0).2 (by rw [Int.mul_comm]; omega)
    have e2 := mt (upv_iff (n := d * (s + l.length)) (k := s + l.length - 1) h0).1 (by rw [Int.sub_mul, Int.one_mul, Int.mul_comm]; omega)
    omega
  rw [hup] at k3 k6
  obtain ⟨h2, h3⟩ := norm_eq (s := x) (t := s + lead l) (l := e) (m := l.drop (lead l)) k8 (lead_drop l) (by simp; omega) (fun n hn => by
    have hlt : n * d < d * (s + l.length) := by
      have := Int.mul_lt_mul_of_pos_right (show n < s + l.length by omega) (show 0 < d by omega)
      rw [Int.mul_comm d]; exact this
    rw [k6 n (by omega)]
    show cf u c (n * d) = _
    rw [g6 _ hlt, cf_drop s l _ (Nat.le_refl _)]
    show (if n * d % d = 0 then cf s l (n * d / d) else 0) = _
    rw [if_pos (Int.mul_emod_left n d), Int.mul_ediv_cancel _ (by omega)])
  rw [k1, h2, h3]; rfl
/-- expanding a contracted series sieves it -/
theorem exp_con {s d : Int} {l : List Rat} (h : In12 s l) (h0 : 1 ≤ d) (h1 : d ≤ 8) : ∃ u c w e x k, conR s l d = some (u, c) ∧ ValidP u c.length = true ∧ (∀ q, q ∈ c → Ht q 4) ∧ expR u c d = some (w, e) ∧ ValidP w e.length = true ∧ (∀ q, q ∈ e → Ht q 4) ∧
    sieR s l d 0 = some (x, k) ∧ ValidP x k.length = true ∧ (∀ q, q ∈ k → Ht q 4) ∧ agr w e x k = true := by
  obtain ⟨hv, lo, hi, hn, ht⟩ := h
  obtain ⟨u, c, g1, g2, g3, g4, g5, g6, g7, g8⟩ := con_out (d := d) hv h0 (by omega) (by decide : 1 ≤ 4) ht
  have vc := Out.v g2 g3 (by omega)
  have lc := lead_le c
  have sp1 := upv_spec (n := s) h0
  have sp2 := upv_spec (n := s + l.length) h0
  have b1 : -8 ≤ d * (u + lead c) := by
    have : d * upv s d ≤ d * (u + lead c) := Int.mul_le_mul_of_nonneg_left (by omega) (by omega)
    rw [Int.mul_comm] at this
    omega
  have b2 : d * (u + c.length) ≤ 60 := by
    rw [g3, Int.mul_comm]
    have := sp2.1
    rw [Int.sub_mul, Int.one_mul] at this
    omega
  obtain ⟨w, e, k1, k2, k3, k4, k5, k6, k7, k8⟩ := exp_out (d := d) vc h0 (by omega) (by omega) (by omega) (by decide : 1 ≤ 4) g7
  obtain ⟨x, k, m1, m2⟩ := sie_msk (r := 0) hv h0 (by omega) (by omega) (by decide : 1 ≤ 4) ht
  have ve := Out.v k2 k3 (by omega)
  refine ⟨u, c, w, e, x, k, g1, vc, g7, k1, ve, k7, m1, m2.v, m2.ht (by decide) ht, agr_true ve m2.v fun n h2 h3 => ?_⟩
  have mp := m2.p
  rw [k6 n (by omega), m2.f n (by omega)]
  show (if n % d = 0 then cf u c (n / d) else 0) = _
  by_cases h4 : n % d = 0
  · rw [if_pos h4]
    simp only [h4]
    have m1 := Int.mul_ediv_add_emod n d
    have hlt : n / d < upv (s + l.length) d := by
      have := mt (upv_iff (n := s + l.length) (k := n / d) h0).1 (by rw [Int.mul_comm]; omega)
      omega
    rw [g6 _ hlt]
    show cf s l (n / d * d) = _
    rw [Int.mul_comm, show d * (n / d) = n by omega]
    rfl
  · rw [if_neg h4]
    simp only [show decide (n % d = ((0 : Nat) : Int)) = false by simp [h4]]
    rfl
end Ab
