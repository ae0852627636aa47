/- The product of the exponents is the series; the logarithmic derivative; plain. -/
import Derived.Test.YtmcfohngblbpbaaGreatExp
import Derived.Test.YtmcfohngblbpbaaGreatRingM
namespace Ab
open Hp

/-- the sums and the exponents one by one -/
def bq (A : List Rat) (m : Nat) : Rat := -(exs A (exb A m) m m)
def cq (A : List Rat) (m : Nat) : Rat := exc (exq A m) m (bq A m) m / (((m : Int) + 1 : Int) : Rat)
theorem exb_tk (A : List Rat) : ∀ m, exb A m = tk (bq A) m
  | 0 => rfl
  | m + 1 => by rw [tk_succ, ← exb_tk A m]; rfl
theorem exq_tk (A : List Rat) : ∀ m, exq A m = tk (cq A) m
  | 0 => rfl
  | m + 1 => by rw [tk_succ, ← exq_tk A m]; rfl
theorem tk_get {f : Nat → Rat} {n i : Nat} (h : i < n) : (tk f n).getD i 0 = f i := by
  unfold tk
  rw [List.getD_eq_getElem?_getD, List.getElem?_map, List.getElem?_range h]
  rfl
theorem exb_get {A : List Rat} {m i : Nat} (h : i < m) : (exb A m).getD i 0 = bq A i := by rw [exb_tk, tk_get h]
theorem exq_get {A : List Rat} {m i : Nat} (h : i < m) : (exq A m).getD i 0 = cq A i := by rw [exq_tk, tk_get h]
theorem exs_su (A b : List Rat) (m : Nat) : ∀ j, exs A b m j = (((m : Int) + 1 : Int) : Rat) * A.getD (m + 1) 0 + su (fun i => b.getD i 0 * A.getD (m - i) 0) j
  | 0 => by rw [exs, su, Rat.add_zero]
  | j + 1 => by rw [exs, su, exs_su A b m j, Rat.add_assoc]
theorem iss_su (l x : List Rat) (k : Nat) : ∀ j, iss l x k j = su (fun i => l.getD (i + 1) 0 * x.getD (k - (i + 1)) 0) j
  | 0 => rfl
  | j + 1 => by rw [iss, su, iss_su l x k j]
theorem bq_eq (A : List Rat) (m : Nat) : bq A m = -((((m : Int) + 1 : Int) : Rat) * A.getD (m + 1) 0 + su (fun i => bq A i * A.getD (m - i) 0) m) := by
  unfold bq
  rw [exs_su]
  congr 2
  exact su_congr fun j hj => by rw [exb_get hj]; rfl
theorem exc_sg (c : List Rat) (m : Nat) (x : Rat) : ∀ j, exc c m x j = x - sg c m j
  | 0 => by rw [exc, sg]; grind
  | j + 1 => by
    rw [exc, sg]
    split
    · rw [exc_sg c m x j]; grind
    · exact exc_sg c m x j
theorem sg_congr {c c' : List Rat} {m : Nat} : ∀ j, (∀ i, i < j → c.getD i 0 = c'.getD i 0) → sg c m j = sg c' m j
  | 0, _ => rfl
  | j + 1, h => by rw [sg, sg, sg_congr j (fun i hi => h i (by omega)), h j (by omega)]
theorem ne_n (m : Nat) : (((m : Int) + 1 : Int) : Rat) ≠ 0 := fun e => by
  have := Rat.intCast_eq_zero_iff.1 e
  omega
theorem mul_dv {n x : Rat} (h : n ≠ 0) : n * (x / n) = x := by
  rw [Rat.div_def, Rat.mul_comm x, ← Rat.mul_assoc, Rat.mul_inv_cancel _ h, Rat.one_mul]
theorem dv_mul {n x : Rat} (h : n ≠ 0) : n * x / n = x := by
  rw [Rat.div_def, Rat.mul_comm n, Rat.mul_assoc, Rat.mul_inv_cancel _ h, Rat.mul_one]
theorem sums_eq (A : List Rat) (M : Nat) : sgs (exq A M) M = exb A M := by
  rw [exb_tk]
  unfold sgs tk
  refine List.map_congr_left fun i hi => ?_
  have hi : i < M := by simpa using hi
  show sg (exq A M) i (i + 1) = bq A i
  rw [sg, if_pos (Nat.mod_self _), exq_get hi]
  have e : sg (exq A i) i i = sg (exq A M) i i := sg_congr i fun j hj => by rw [exq_get hj, exq_get (by omega)]
  unfold cq
  rw [mul_dv (ne_n i), exc_sg, e]
  grind
theorem take_snoc {A : List Rat} {m : Nat} (h : m < A.length) : A.take m ++ [A.getD m 0] = A.take (m + 1) := by
  rw [List.take_add_one, List.getD_eq_getElem?_getD, List.getElem?_eq_getElem h]
  rfl
theorem getD_take {A : List Rat} {m i : Nat} (h : i < m) : (A.take m).getD i 0 = A.getD i 0 := by
  rw [List.getD_eq_getElem?_getD, List.getElem?_take, if_pos h, List.getD_eq_getElem?_getD]
theorem bq_sum {A : List Rat} (h1 : A.getD 0 0 = 1) (m : Nat) : su (fun i => bq A i * A.getD (m - i) 0) (m + 1) = -((((m : Int) + 1 : Int) : Rat) * A.getD (m + 1) 0) := by
  rw [su, Nat.sub_self, h1, bq_eq A m]
  grind
theorem prc_eq {A : List Rat} {M : Nat} (h1 : A.getD 0 0 = 1) (hM : M < A.length) : ∀ m, m ≤ M → prc (exb A M) m = A.take (m + 1)
  | 0, _ => by
    rw [← take_snoc (by omega), h1]
    rfl
  | m + 1, hm => by
    have ih := prc_eq h1 hM m (by omega)
    have key : iss (0 :: exb A M) (A.take (m + 1)) (m + 1) (m + 1) = -((((m : Int) + 1 : Int) : Rat) * A.getD (m + 1) 0) := by
      rw [iss_su, ← bq_sum h1 m]
      refine su_congr fun j hj => ?_
      show (exb A M).getD j 0 * _ = _
      rw [exb_get (by omega), getD_take (by omega), show m + 1 - (j + 1) = m - j by omega]
    rw [prc, ih, key, Rat.neg_neg, dv_mul (ne_n m)]
    exact take_snoc (by omega)
/-- h minus the sums -/
def logL (h : Int) (b : List Rat) : List Rat := (h : Rat) :: b.map fun x => -x
theorem su_neg (f : Nat → Rat) : ∀ n, su (fun j => -(f j)) n = -(su f n)
  | 0 => by rw [su, su]; rfl
  | n + 1 => by rw [su, su, su_neg f n]; grind
theorem neg_get {b : List Rat} (i : Nat) : (b.map fun x => -x).getD i 0 = -(b.getD i 0) := by
  rw [List.getD_eq_getElem?_getD, List.getElem?_map, List.getD_eq_getElem?_getD]
  cases b[i]? with
  | none => exact Rat.neg_zero.symm
  | some x => rfl
theorem log_nc {A : List Rat} {M : Nat} (h : Int) (h1 : A.getD 0 0 = 1) (n : Nat) (hn : n ≤ M) : nc (fun j => (logL h (exb A M)).getD j 0) (fun j => A.getD j 0) n = ((h + n : Int) : Rat) * A.getD n 0 := by
  unfold nc
  rw [su_front]
  show (h : Rat) * A.getD n 0 + su (fun j => ((exb A M).map fun x => -x).getD j 0 * A.getD (n - (j + 1)) 0) n = _
  have e : su (fun j => ((exb A M).map fun x => -x).getD j 0 * A.getD (n - (j + 1)) 0) n = (n : Rat) * A.getD n 0 := by
    cases n with
    | zero => rw [su]; simp
    | succ m =>
      have e2 : su (fun j => ((exb A M).map fun x => -x).getD j 0 * A.getD (m + 1 - (j + 1)) 0) (m + 1) = su (fun j => -(bq A j * A.getD (m - j) 0)) (m + 1) := su_congr fun j hj => by
        rw [neg_get, exb_get (by omega), show m + 1 - (j + 1) = m - j by omega]
        grind
      rw [e2, su_neg, bq_sum h1 m, Rat.neg_neg]
      congr 1
  rw [e, ← Rat.add_mul]
  congr 1
  rw [Rat.intCast_add]
  rfl
theorem inv_nc {A : List Rat} {N : Nat} (h1 : A.getD 0 0 = 1) (k : Nat) (hk : k < N) : nc (fun j => A.getD j 0) (fun j => (ivs A N).getD j 0) k = if k = 0 then 1 else 0 := by
  unfold nc
  rw [su_front]
  show A.getD 0 0 * (ivs A N).getD (k - 0) 0 + su (fun j => A.getD (j + 1) 0 * (ivs A N).getD (k - (j + 1)) 0) k = _
  rw [h1, Nat.sub_zero, ivs_get A N k hk, h1]
  by_cases h0 : k = 0
  · subst h0
    rw [if_pos rfl, if_pos rfl, su]
    grind
  · rw [if_neg h0, if_neg h0, iss_su]
    have e : su (fun i => A.getD (i + 1) 0 * (ivs A k).getD (k - (i + 1)) 0) k = su (fun j => A.getD (j + 1) 0 * (ivs A N).getD (k - (j + 1)) 0) k := su_congr fun j hj => by
      rw [ivs_get A k _ (by omega), ivs_get A N _ (by omega)]
    rw [e]
    grind
theorem quo_conv {A : List Rat} {M : Nat} (h : Int) (h1 : A.getD 0 0 = 1) (hM : M + 1 = A.length) (k : Nat) (hk : k < M + 1) : conv (tk (fun j => ((h + j : Int) : Rat) * A.getD j 0) (M + 1)) (ivs A (M + 1)) k = (logL h (exb A M)).getD k 0 := by
  have e1 : conv (tk (fun j => ((h + j : Int) : Rat) * A.getD j 0) (M + 1)) (ivs A (M + 1)) k = nc (nc (fun j => (logL h (exb A M)).getD j 0) (fun j => A.getD j 0)) (fun j => (ivs A (M + 1)).getD j 0) k := by
    unfold conv
    rw [cs_su]
    exact su_congr fun j hj => by rw [tk_get (by omega), log_nc h h1 j (by omega)]
  rw [e1, nc_assoc]
  unfold nc
  rw [su, su_zero]
  · show (0 : Rat) + _ * nc (fun j => A.getD j 0) (fun j => (ivs A (M + 1)).getD j 0) (k - k) = _
    rw [Nat.sub_self, inv_nc h1 0 (by omega), if_pos rfl, Rat.mul_one, Rat.zero_add]
  · intro j hj
    show _ * nc (fun j => A.getD j 0) (fun j => (ivs A (M + 1)).getD j 0) (k - j) = _
    rw [inv_nc h1 (k - j) (by omega), if_neg (by omega), Rat.mul_zero]
theorem lead0 {l : List Rat} (h : l.getD 0 0 ≠ 0) : lead l = 0 := by
  cases l with
  | nil => exact absurd rfl h
  | cons q r =>
    unfold lead
    rw [if_neg (show ¬ q = 0 from h)]
theorem cf_sa {h : Int} {A : List Rat} (n : Int) : cf h (tk (fun j => ((h + j : Int) : Rat) * A.getD j 0) A.length) n = (n : Rat) * cf h A n := by
  by_cases h1 : n < h
  · rw [cf_lt h1, cf_lt h1, Rat.mul_zero]
  · by_cases h2 : n < h + A.length
    · rw [cf_tk (by omega) h2]
      unfold cf
      rw [if_neg h1, show h + ((n - h).toNat : Int) = n by omega]
    · rw [cf_ge (by rw [tk_len]; omega), cf_ge (by omega), Rat.mul_zero]
theorem log_ht {A : List Rat} {h : Int} {M : Nat} (hA : ∀ q, q ∈ A → Ht q 4) (hM : M ≤ 11) (hh : h.natAbs < 4294967296) : ∀ q, q ∈ logL h (exb A M) → Ht q 104857600 := fun q hq => by
  rcases List.mem_cons.1 hq with rfl | hq
  · exact (ht_int hh).mono (by omega)
  · obtain ⟨x, hx, rfl⟩ := List.mem_map.1 hq
    obtain ⟨i, hi⟩ := List.getElem?_of_mem hx
    have hil : i < M := by rw [← exb_len A M]; exact (List.getElem?_eq_some_iff.1 hi).1
    have := (ht_ex hA M (by omega) i hil).1
    rw [List.getD_eq_getElem?_getD, hi] at this
    exact ht_neg (this.mono (Nat.le_trans (EB_mono (show i ≤ 10 by omega)) (Nat.le_of_ble_eq_true rfl)))
/-- the two products of the statement agree -/
theorem euler {s : Int} {l : List Rat} (hv : ValidP s l.length = true) (lo : -8 ≤ s) (hi : s ≤ 40) (hn : l.length ≤ 12) (ht : ∀ q, q ∈ l → Ht q 4) (hA : l.drop (lead l) ≠ []) (h1 : (l.drop (lead l)).getD 0 0 = 1) :
    ∃ (h : Int) (A : List Rat) (M : Nat), h = s + lead l ∧ A = l.drop (lead l) ∧ M + 1 = A.length ∧ M ≤ 11 ∧ -8 ≤ h ∧ h ≤ 52 ∧ (∀ q, q ∈ A → Ht q 4) ∧ prodR h (exq A M) = some (h, A) ∧ ValidP h A.length = true ∧
    ∃ u m v c, thR s l = some (u, m) ∧ ValidP u m.length = true ∧ (∀ q, q ∈ m → Ht q 5) ∧ m.length ≤ 24 ∧ quoT u m s l = (v, c, 0) ∧ nrm 0 (logL h (exb A M)) = some (v, c) ∧ ValidP v c.length = true ∧ (∀ q, q ∈ c → Ht q 104857600) := by
  obtain ⟨a0, a1, a2⟩ := valid_iff.1 hv
  have hla := lead_le l
  have hld : (l.drop (lead l)).length + lead l = l.length := by rw [List.length_drop]; omega
  have hlA : lead (l.drop (lead l)) = 0 := lead_drop l
  have hAh : ∀ q, q ∈ l.drop (lead l) → Ht q 4 := fun q hq => ht q (List.mem_of_mem_drop hq)
  have hcf : ∀ n, cf (s + lead l) (l.drop (lead l)) n = cf s l n := fun n => cf_drop s l _ (Nat.le_refl _) n
  have hinv : invT s l = nrmT (nrm (-(s + lead l)) (ivs (l.drop (lead l)) (l.drop (lead l)).length)) := by unfold invT; rw [hv]; simp [hA]
  obtain ⟨u, m, k1, k2, k3, k4, k5, k6, k7, k8⟩ := th_out hv (by decide) ht
  have hA0 : 0 < (l.drop (lead l)).length := List.length_pos_iff.2 hA
  generalize l.drop (lead l) = A at *
  generalize hh : s + (lead l : Int) = h at *
  obtain ⟨M, hM⟩ : ∃ M, M + 1 = A.length := ⟨A.length - 1, by omega⟩
  have hpr : prodR h (exq A M) = some (h, A) := by
    have e : PV h (exq A M).length = true := by rw [exq_len]; unfold PV; simp; omega
    unfold prodR
    rw [e, exq_len, sums_eq, prc_eq h1 (by omega) M (Nat.le_refl M), List.take_of_length_le (by omega)]
    simp only [if_true]
    rw [nrm_valid (by omega) (by omega) (by omega), hlA]
    simp
  have hI0 : (ivs A A.length).getD 0 0 = 1 := by
    rw [ivs_get A _ 0 hA0, if_pos rfl, h1]
    have e := Rat.mul_inv_cancel (1 : Rat) (by decide)
    rw [Rat.one_mul] at e
    rw [Rat.div_def, Rat.one_mul]
    exact e
  have hIl : lead (ivs A A.length) = 0 := lead0 (by rw [hI0]; decide)
  have hIn := ivs_len A A.length
  have hIh : ∀ q, q ∈ ivs A A.length → Ht q 638976 := mem_ht hIn fun i hi => (ht_iv (K := 4) (by decide) hAh A.length (by omega) i hi).mono (Nat.le_trans (HB_mono 4 (show i ≤ 12 by omega)) (Nat.le_of_ble_eq_true rfl))
  have hinv2 : invT s l = (-h, ivs A A.length, 0) := by
    rw [hinv, nrm_valid (by omega) (by omega) (by omega), hIl]
    simp [nrmT, sF, sL, sE]
  have hu : h ≤ u := by
    by_cases h2 : h ≤ u
    · exact h2
    · exfalso
      have hm0 : 0 < m.length := by omega
      have e := k6 u (by omega)
      simp only at e
      rw [← hcf u, cf_lt (s := h) (l := A) (n := u) (by omega), Rat.mul_zero] at e
      unfold cf at e
      rw [if_neg (by omega), Int.sub_self] at e
      have e : m.getD 0 0 = 0 := e
      exact lead_ne m (m[0]) (by rw [k8]; exact List.getElem?_eq_getElem hm0) (by rw [List.getD_eq_getElem?_getD, List.getElem?_eq_getElem hm0] at e; exact e)
  have hvu : ValidP u m.length = true := valid_iff.2 ⟨k2, by omega, by omega⟩
  have hvi : ValidP (-h) (ivs A A.length).length = true := valid_iff.2 ⟨by omega, by omega, by omega⟩
  have o1 := mul_out hvu hvi (K := 638976) (N := 24) (by decide) (fun q hq => (k7 q hq).mono (by decide)) hIh (by omega) (by rw [k8, hIl]; omega) (by rw [k8, hIl, hIn]; omega)
  have hmin : min (u + lead m + (-h + (ivs A A.length).length)) (-h + lead (ivs A A.length) + (u + m.length)) = 0 + ((logL h (exb A M)).length : Int) := by
    have : (logL h (exb A M)).length = M + 1 := by unfold logL; simp [exb_len]
    rw [k8, hIl, hIn, this]
    omega
  have hll : (logL h (exb A M)).length = M + 1 := by unfold logL; simp [exb_len]
  have o2 := nrm_out (s := 0) (l := logL h (exb A M)) (K := 104857600) (by decide) (by rw [hll]; omega) (log_ht hAh (by omega) (by omega))
  have o1' := o1.congr (p' := 0 + ((logL h (exb A M)).length : Int)) (f' := cf 0 (logL h (exb A M))) (b' := -1000) (K' := (2 * 638976 + 1) * 24 + 1) hmin (fun n hn => by
    rw [hll] at hn
    have e1 : cv (cf u m) (cf (-h) (ivs A A.length)) n = cv (cf h (tk (fun j => ((h + j : Int) : Rat) * A.getD j 0) A.length)) (cf (-h) (ivs A A.length)) n := cv_left fun i => by
      by_cases h2 : i < s + l.length
      · left
        rw [k6 i h2, cf_sa, hcf]
      · right
        exact cf_lt (by omega)
    rw [e1, cv_eq (by omega) (by omega)]
    by_cases h2 : n < h + -h
    · rw [if_pos h2, cf_lt (by omega)]
    · rw [if_neg h2, ← hM]
      rw [quo_conv h h1 hM _ (by omega)]
      unfold cf
      rw [if_neg (by omega)]
      congr 2
      omega) (by rw [k8, hIl]; omega) (Nat.le_refl _)
  have heq := o1'.eq o2
  obtain ⟨v, c, r1, r2, r3, r4, r5, r6, r7, r8⟩ := o2
  refine ⟨h, A, M, rfl, rfl, hM, by omega, by omega, by omega, hAh, hpr, valid_iff.2 ⟨by omega, by omega, by omega⟩, u, m, v, c, k1, hvu, k7, by omega, ?_, r1, valid_iff.2 ⟨r2, by omega, by omega⟩, r7⟩
  unfold quoT
  rw [hvu, hinv2]
  simp only [if_true]
  rw [heq, r1]
  rfl
end Ab
