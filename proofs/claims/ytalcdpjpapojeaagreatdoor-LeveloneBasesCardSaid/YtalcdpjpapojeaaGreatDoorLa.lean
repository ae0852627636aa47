/- Delta and its inverse, as plain arithmetic. -/
import Derived.Test.YtalcdpjpapojeaaGreatDoorVA
import Derived.Test.YtalcdpjpapojeaaGreatDoorZJ
import Derived.Test.YtalcdpjpapojeaaGreatDoorOCG
set_option linter.all false
namespace Ab
open Go Go.RowKit Go.Proofs Hp
set_option maxRecDepth 100000
def htB (n : Nat) (q : Rat) : Bool := Nat.blt q.num.natAbs (4294967296 ^ n) && Nat.blt q.den (4294967296 ^ n)
theorem Zf2 {n : Nat} {q : Rat} (h : htB n q = true) : Ht q n := by
 unfold htB at h
 rw [Bool.and_eq_true] at h
 have h1 : q.num.natAbs < 4294967296 ^ n := Nat.le_of_ble_eq_true h.1
 have h2 : q.den < 4294967296 ^ n := Nat.le_of_ble_eq_true h.2
 exact ⟨by rw [pw_nat]; exact Int.ofNat_lt.2 h1, by rw [pw_nat]; exact Int.ofNat_lt.2 h2⟩
theorem Zc3 {n : Nat} {l : List Rat} (h : l.all (htB n) = true) : ∀ q, q ∈ l → Ht q n := fun q hq => Zf2 (List.all_eq_true.1 h q hq)
theorem take_getD {l : List Rat} {n i : Nat} (h : i < n) : (l.take n).getD i 0 = l.getD i 0 := by
 rw [List.getD_eq_getElem?_getD, List.getD_eq_getElem?_getD, List.getElem?_take, if_pos h]
theorem sg_congr {c c' : List Rat} (i : Nat) : ∀ d, (∀ j, j < d → c.getD j 0 = c'.getD j 0) → dsg c i d = dsg c' i d
  | 0, _ => rfl
  | d + 1, h => by
    rw [dsg, dsg, sg_congr i d fun j hj => h j oM, h d oM]
theorem sgs_getD {c : List Rat} {k i : Nat} (h : i < k) : (sgs c k).getD i 0 = dsg c i (i + 1) := by
 unfold sgs tk
 simp [List.getD_eq_getElem?_getD, h]
theorem iss_congr {l l' x x' : List Rat} {k : Nat} (hx : ∀ i, i < k → x.getD i 0 = x'.getD i 0) : ∀ j, j ≤ k → (∀ i, 1 ≤ i → i ≤ j → l.getD i 0 = l'.getD i 0) → iss l x k j = iss l' x' k j
  | 0, _, _ => rfl
  | j + 1, hj, h => by
    rw [iss, iss, iss_congr hx j oM fun i h1 h2 => h i h1 oM, h (j + 1) oM oM, hx (k - (j + 1)) oM]
theorem prc_congr {L L' : List Rat} : ∀ m, (∀ i, i < m → L.getD i 0 = L'.getD i 0) → prc L m = prc L' m
  | 0, _ => rfl
  | m + 1, h => by
    rw [prc, prc, prc_congr m fun i hi => h i oM]
    have e := iss_congr (l := 0 :: L) (l' := 0 :: L') (x := prc L' m) (x' := prc L' m) (k := m + 1) (fun _ _ => rfl) (m + 1) (Nat.le_refl _) (fun i h1 h2 => by
      obtain ⟨i, rfl⟩ : ∃ j, i = j + 1 := ⟨i - 1, oM⟩
      exact h i oM)
    rw [e]
theorem prc_take (L : List Rat) : ∀ M m, m ≤ M → (prc L M).take (m + 1) = prc L m
  | 0, m, h => by
    obtain rfl : m = 0 := oM
    rfl
  | M + 1, m, h => by
    have hl := prc_len L M
    by_cases h1 : m = M + 1
    · subst h1
      rw [List.take_of_length_le (by rw [prc_len]; omega)]
    · rw [prc, List.take_append_of_le_length oM]
      exact prc_take L M m oM
theorem ivs_take (A : List Rat) : ∀ M m, m ≤ M → (ivs A M).take m = ivs A m
  | 0, m, h => by
    obtain rfl : m = 0 := oM
    rfl
  | 1, m, h => by
    by_cases h1 : m = 1
    · subst h1; rfl
    · obtain rfl : m = 0 := oM
      rfl
  | M + 2, m, h => by
    have hl := Zgb A (M + 1)
    by_cases h1 : m = M + 2
    · subst h1
      rw [List.take_of_length_le (by rw [Zgb]; omega)]
    · rw [ivs, List.take_append_of_le_length oM]
      exact ivs_take A (M + 1) m oM
theorem Zgw {A A' : List Rat} : ∀ k, (∀ i, i < k → A.getD i 0 = A'.getD i 0) → ivs A k = ivs A' k
  | 0, _ => rfl
  | 1, h => by rw [ivs, ivs, h 0 oM]
  | n + 2, h => by
    rw [ivs, ivs, Zgw (n + 1) fun i hi => h i oM, h 0 oM]
    rw [iss_congr (fun _ _ => rfl) (n + 1) (Nat.le_refl _) (fun i h1 h2 => h i oM)]
theorem rep_getD {N i : Nat} (h : i < N) : (List.replicate N (24 : Rat)).getD i 0 = 24 := by
 rw [List.getD_eq_getElem?_getD, List.getElem?_replicate, if_pos h]; rfl
def c24 : List Rat := List.replicate 152 24
def dL : List Rat := prc (sgs c24 150) 150
theorem dL_len : dL.length = 151 := prc_len _ _
theorem del_sgs {N i : Nat} (h : i < N) (hN : N ≤ 150) : (sgs (List.replicate N 24) N).getD i 0 = (sgs c24 150).getD i 0 := by
 rw [sgs_getD h, sgs_getD oM]
 refine sg_congr i _ fun j hj => ?_
 unfold c24
 rw [rep_getD oM, rep_getD oM]
theorem del_prc {N m : Nat} (h : m ≤ N) (hN : N ≤ 150) : prc (sgs (List.replicate N 24) N) m = dL.take (m + 1) := by
 unfold dL
 rw [prc_take _ 150 m oM]
 exact prc_congr m fun i hi => del_sgs oM hN
theorem dL_ht : ∀ q, q ∈ dL → Ht q 2 := Zc3 (by decide +kernel)
theorem s24_ht : ∀ q, q ∈ sgs c24 150 → Ht q 1 := Zc3 (by decide +kernel)
theorem sgsD_ht {N : Nat} (hN : N ≤ 150) : ∀ q, q ∈ sgs (List.replicate N 24) N → Ht q 1 := fun q hq => by
 obtain ⟨i, hi⟩ := List.getElem?_of_mem hq
 have hil : i < N := by have := (List.getElem?_eq_some_iff.1 hi).1; rwa [sgs_len] at this
 have e := del_sgs hil hN
 rw [List.getD_eq_getElem?_getD, hi] at e
 have e : q = _ := e
 rw [e]
 exact Zcl dC s24_ht i
theorem prcD_ht {N m : Nat} (h : m ≤ N) (hN : N ≤ 150) : ∀ q, q ∈ prc (sgs (List.replicate N 24) N) m → Ht q 2 := fun q hq => by
 rw [del_prc h hN] at hq
 exact dL_ht q (List.mem_of_mem_take hq)
def iL : List Rat := ivs dL 40
theorem iL_ht : ∀ q, q ∈ iL → Ht q 3 := Zc3 (by decide +kernel)
def sgm (k n : Nat) : Nat → Nat
 | 0 => 0
 | j + 1 => if n % (j + 1) = 0 then sgm k n j + (j + 1) ^ k else sgm k n j
def bnm (n : Nat) : Nat → Int
 | 0 => 1
 | k + 1 => bnm n k * ((n : Int) - k) / ((k : Int) + 1)
def bnOK : Bool := (List.range 16).all fun n => (List.range 17).all fun k => decide ((bnm n k * ((n : Int) - k)) % ((k : Int) + 1) = 0) && decide ((bnm n k).natAbs < 4294967296)
theorem bn_ok : bnOK = true := by decide +kernel
theorem bn_get {n k : Nat} (hn : n < 16) (hk : k < 17) : (bnm n k * ((n : Int) - k)) % ((k : Int) + 1) = 0 ∧ (bnm n k).natAbs < pw 1 := by
 have h := List.all_eq_true.1 (List.all_eq_true.1 bn_ok n (List.mem_range.2 hn)) k (List.mem_range.2 hk)
 simp only [Bool.and_eq_true, decide_eq_true_eq] at h
 refine ⟨h.1, ?_⟩
 have e1 : pw 1 = 4294967296 := dC
 rw [e1]
 omega
def bnR (n k : Nat) : Rat := ((bnm n k : Int) : Rat)
def bsm (m : Nat) (l : List Rat) : Nat → Rat
 | 0 => 0
 | k + 1 => bsm m l k + bnR m k * l.getD k 0
def bnL : Nat → List Rat
 | 0 => [1]
 | m + 1 => bnL m ++ [bsm (m + 2) (bnL m) (m + 1) / ((-((m : Int) + 1) - 1 : Int) : Rat)]
@[simp] theorem bnL_len : ∀ m, (bnL m).length = m + 1
 | 0 => rfl
 | m + 1 => by rw [bnL, List.length_append, bnL_len m]; rfl
def plB (n k : Nat) : Rat := bnR n k * (bnL n).getD (n - k) 0
def plL (n : Nat) : List Rat := tk (plB n) (n + 1)
def hrn (f : List Rat) (x : Rat) : Nat → Rat
 | 0 => 0
 | j + 1 => hrn f x j * x + f.getD (f.length - 1 - j) 0
def bqP (k : Nat) : Rat := hrn (plL k) 1 (k + 1)
def bhOK : Bool := (List.range 15).all fun m => (List.range 17).all fun k => htB 2 (bsm (m + 2) (bnL m) k) && htB 2 (plB m k) && htB 2 (hrn (plL m) 1 k) && (bnL m).all (htB 1)
theorem bh_ok : bhOK = true := by decide +kernel
theorem bh_get {m k : Nat} (hm : m < 15) (hk : k < 17) : Ht (bsm (m + 2) (bnL m) k) 2 ∧ Ht (plB m k) 2 ∧ Ht (hrn (plL m) 1 k) 2 ∧ ∀ q, q ∈ bnL m → Ht q 1 := by
 have h := List.all_eq_true.1 (List.all_eq_true.1 bh_ok m (List.mem_range.2 hm)) k (List.mem_range.2 hk)
 simp only [Bool.and_eq_true] at h
 exact ⟨Zf2 h.1.1.1, Zf2 h.1.1.2, Zf2 h.1.2, Zc3 h.2⟩
theorem pl_top : ∀ m, m < 15 → plB m m ≠ 0 := by decide +kernel
def dbc (m : Nat) : Nat → Rat
 | 0 => 1
 | j + 1 => dbc m j * Rat.divInt ((m : Int) - j) ((j : Int) + 1)
def dbs (m : Nat) (l : List Rat) : Nat → Rat
 | 0 => 0
 | j + 1 => dbs m l j + dbc m j * l.getD j 0
def dbL : Nat → List Rat
 | 0 => [1]
 | m + 1 => dbL m ++ [dbs (m + 2) (dbL m) (m + 1) * Rat.divInt (-1) ((m : Int) + 1 + 1)]
@[simp] theorem dbL_len : ∀ m, (dbL m).length = m + 1
 | 0 => rfl
 | m + 1 => by rw [dbL, List.length_append, dbL_len m]; rfl
def dpl (k : Nat) (l : List Rat) (x : Rat) : Nat → Rat
 | 0 => 0
 | j + 1 => dpl k l x j * x + dbc k j * l.getD j 0
def bqD (k : Nat) : Rat := dpl k (dbL k) 1 (k + 1)
def dhOK : Bool := (List.range 15).all fun m => (List.range 17).all fun k => htB 2 (dbs (m + 2) (dbL m) k) && htB 2 (dbc m k) && htB 2 (dpl m (dbL m) 1 k) && (dbL m).all (htB 1)
theorem dh_ok : dhOK = true := by decide +kernel
theorem dh_get {m k : Nat} (hm : m < 15) (hk : k < 17) : Ht (dbs (m + 2) (dbL m) k) 2 ∧ Ht (dbc m k) 2 ∧ Ht (dpl m (dbL m) 1 k) 2 ∧ ∀ q, q ∈ dbL m → Ht q 1 := by
 have h := List.all_eq_true.1 (List.all_eq_true.1 dh_ok m (List.mem_range.2 hm)) k (List.mem_range.2 hk)
 simp only [Bool.and_eq_true] at h
 exact ⟨Zf2 h.1.1.1, Zf2 h.1.1.2, Zf2 h.1.2, Zc3 h.2⟩
theorem bq_eq : ∀ k, k < 15 → 2 ≤ k → bqD k = bqP k := by decide +kernel
theorem bq_ne : ∀ k, k < 15 → k % 2 = 0 → bqP k ≠ 0 := by decide +kernel
theorem bq_ht {k : Nat} (hk : k < 15) : Ht (bqP k) 2 := (bh_get hk (k := k + 1) oM).2.2.1
theorem sgm_le (k n : Nat) : ∀ j, j ≤ n → sgm k n j ≤ j * n ^ k
  | 0, _ => by simp [sgm]
  | j + 1, h => by
    have ih := sgm_le k n j oM
    have h1 : (j + 1) ^ k ≤ n ^ k := Nat.pow_le_pow_left h k
    rw [sgm, Nat.add_mul, Nat.one_mul]
    split <;> omega
theorem sgm_lt {k n j : Nat} (hk : k ≤ 13) (hn : n ≤ 60) (hj : j ≤ n) : (((sgm k n j : Nat) : Int)).natAbs < pw 3 := by
 rcases Nat.eq_zero_or_pos n with e | e
 ·subst e
  obtain rfl : j = 0 := oM
  simp only [sgm]
  decide
 have h1 := sgm_le k n j hj
 have h2 : n ^ k ≤ n ^ 13 := Nat.pow_le_pow_right e hk
 have h3 : n ^ 13 ≤ 60 ^ 13 := Nat.pow_le_pow_left hn 13
 have h4 : j * n ^ k ≤ 60 * 60 ^ 13 := Nat.mul_le_mul oM oM
 have e3 : pw 3 = 79228162514264337593543950336 := dC
 rw [e3]
 omega
def clV (k n : Nat) : Rat := if n = 0 then bqP k / ((-2 * (k : Int) : Int) : Rat) else ((sgm (k - 1) n n : Nat) : Int)
def clL (k p : Nat) : List Rat := tk (clV k) p
def eiV (k n : Nat) : Rat := (((-2 * (k : Int) : Int) : Rat) / bqP k) * clV k n
def eiL (k p : Nat) : List Rat := tk (eiV k) p
theorem Zda {f : Nat → Rat} {n i : Nat} (h : i < n) : (tk f n).getD i 0 = f i := tk_get' h
theorem Zc6 {f g : Nat → Rat} {n : Nat} (h : ∀ i, i < n → f i = g i) : tk f n = tk g n := List.map_congr_left fun i hi => h i (List.mem_range.1 hi)
theorem tk_take (f : Nat → Rat) {n m : Nat} (h : m ≤ n) : (tk f n).take m = tk f m := by
 unfold tk
 rw [← List.map_take, List.take_range, Nat.min_eq_left h]
theorem tk_of (l : List Rat) : l = tk (fun i => l.getD i 0) l.length := by
 apply List.ext_getElem
 ·simp
 ·intro i h1 h2
  simp [tk, h1]
theorem tk_of' {l : List Rat} {n : Nat} (h : n ≤ l.length) : l.take n = tk (fun i => l.getD i 0) n := by
 conv => lhs; rw [tk_of l]
 exact tk_take _ h
theorem Zeh {f : Nat → Rat} {n : Nat} (h : f 0 ≠ 0) : lead (tk f n) = 0 := by
 cases n with
 | zero => rfl
 | succ n => exact lead00 (by rw [Zda oM]; exact h)
theorem Ze1 {f : Nat → Rat} {n K : Nat} (h : ∀ i, i < n → Ht (f i) K) : ∀ q, q ∈ tk f n → Ht q K := fun q hq => by
 obtain ⟨i, hi, rfl⟩ := Zfb hq
 exact h i hi
theorem Zcs {s : Int} {f : Nat → Rat} {n : Nat} (h0 : -100 ≤ s) (h1 : s + n ≤ 1000) : Zap s (tk f n).length = true := Za2.2 ⟨h0, oM, by rw [tk_len]; omega⟩
theorem nrm_tk {s : Int} {f : Nat → Rat} {n : Nat} (h : f 0 ≠ 0) (h0 : -100 ≤ s) (h1 : s + n ≤ 1000) : nrm s (tk f n) = some (s, tk f n) := by
 rw [Zeo h0 oM (by rw [tk_len]; omega), Zeh h, List.drop_zero]
 simp
theorem conv_tk {f g : Nat → Rat} {n m k : Nat} (h1 : k < n) (h2 : k < m) : conv (tk f n) (tk g m) k = nc f g k := by
 unfold conv
 rw [cs_su]
 unfold nc
 exact Zbk fun j hj => by rw [Zda oM, Zda oM]
theorem nc_0 (f g : Nat → Rat) : nc f g 0 = f 0 * g 0 := by
 unfold nc
 rw [su, su, Rat.zero_add]
theorem mul_ne {x y : Rat} (h : x ≠ 0) (k : y ≠ 0) : x * y ≠ 0 := fun e => by
 rcases Rat.mul_eq_zero.1 e with e | e
 ·exact h e
 ·exact k e
theorem mulR_tk {s t : Int} {f g : Nat → Rat} {n m : Nat} (hf : f 0 ≠ 0) (hg : g 0 ≠ 0) (hs : -100 ≤ s) (ht : -100 ≤ t) (hn : s + n ≤ 1000) (hm : t + m ≤ 1000) (h0 : -100 ≤ s + t) (h1 : s + t + min (n : Int) m ≤ 1000) :
  mulR s (tk f n) t (tk g m) = some (s + t, tk (nc f g) (min n m)) := by
 unfold mulR
 rw [Zcs hs hn, Zcs ht hm, if_pos (show (true && true) = true from rfl), Zeh hf, Zeh hg, List.drop_zero, List.drop_zero, show s + ((0 : Nat) : Int) = s by omega, show t + ((0 : Nat) : Int) = t by omega]
 unfold mulN
 rw [tk_len, tk_len, show mlen (s + t) n m = min n m by unfold mlen; omega]
 have e : tk (conv (tk f n) (tk g m)) (min n m) = tk (nc f g) (min n m) := Zc6 fun k hk => conv_tk oM oM
 rw [e]
 exact nrm_tk (by rw [nc_0]; exact mul_ne hf hg) h0 oM
theorem sclR_tk {s : Int} {f : Nat → Rat} {n : Nat} {c : Rat} (hc : c ≠ 0) (hf : f 0 ≠ 0) (h0 : -100 ≤ s) (h1 : s + n ≤ 1000) : sclR c s (tk f n) = some (s, tk (fun i => c * f i) n) := by
 unfold sclR
 rw [Zcs h0 h1, if_pos rfl, tk_len, Zc6 (g := fun i => c * f i) fun i hi => by rw [Zda hi]]
 exact nrm_tk (mul_ne hc hf) h0 h1
def ivf (f : Nat → Rat) (k : Nat) : Rat := (ivs (tk f (k + 1)) (k + 1)).getD k 0
theorem ivs_tk (f : Nat → Rat) {n m : Nat} (h : n ≤ m) : ivs (tk f m) n = tk (ivf f) n := by
 rw [show ivs (tk f m) n = ivs (tk f n) n from Zgw n fun i hi => by rw [Zda oM, Zda hi]]
 conv => lhs; rw [tk_of (ivs (tk f n) n)]
 rw [Zgb]
 refine Zc6 fun k hk => ?_
 unfold ivf
 rw [show ivs (tk f (k + 1)) (k + 1) = (ivs (tk f n) n).take (k + 1) by
  rw [ivs_take _ n (k + 1) oM]
  exact Zgw _ fun i hi => by rw [Zda hi, Zda oM]]
 exact (take_getD oM).symm
theorem ivf_0 (f : Nat → Rat) : ivf f 0 = 1 / f 0 := rfl
theorem inv_ne {x : Rat} (h : x ≠ 0) : 1 / x ≠ 0 := fun e => by
 have := Rat.mul_inv_cancel x h
 rw [Rat.div_def, Rat.one_mul] at e
 rw [e, Rat.mul_zero] at this
 exact absurd this dC
theorem invT_tk {s : Int} {f : Nat → Rat} {n : Nat} (hf : f 0 ≠ 0) (hn : 1 ≤ n) (h0 : -100 ≤ s) (h1 : s + n ≤ 1000) (h2 : s ≤ 100) (h3 : -s + n ≤ 1000) : invT s (tk f n) = (-s, tk (ivf f) n, 0) := by
 unfold invT
 rw [Zcs h0 h1, if_pos rfl, Zeh hf, List.drop_zero, tk_len, if_neg (fun e => by have := congrArg List.length e; rw [tk_len] at this; simp at this; omega), ivs_tk f (Nat.le_refl _), show -(s + ((0 : Nat) : Int)) = -s by omega, nrm_tk (by rw [ivf_0]; exact inv_ne hf) oM oM]
 rfl
theorem pq_congr {u v : Nat → Rat} : ∀ i k, (∀ j, j ≤ k → u j = v j) → pq u i k = pq v i k
 | 0, _, _ => rfl
 | i + 1, k, h => nc_congr (fun j hj => pq_congr i j fun a ha => h a oM) h
theorem powL_tk {f : Nat → Rat} {n : Nat} (hf : f 0 ≠ 0) (hn : 1 ≤ n) (e : Nat) {m : Nat} (hm : m + 1 ≤ n) : powL (tk f n) (e : Int) m = tk (pq f e) (m + 1) := by
 have h := pow_eq (A := tk f n) (by rw [Zda oM]; exact hf) (by rw [tk_len]; omega) 0 e
 rw [tk_len, show sgi 0 e = (e : Int) from rfl, show ubase (tk f n) 0 = tk f n from rfl] at h
 have e2 : powL (tk f n) (e : Int) m = (powL (tk f n) (e : Int) (n - 1)).take (m + 1) := by
  unfold powL
  rw [mil_take _ _ _ (n - 1) m oM]
 rw [e2, ← h, tk_take _ oM]
 exact Zc6 fun k hk => pq_congr e k fun j hj => Zda oM
theorem pq_ne {f : Nat → Rat} (hf : f 0 ≠ 0) (e : Nat) : pq f e 0 ≠ 0 := by
 rw [pq0]
 exact rpw_ne hf e
theorem powT_tk {s : Int} {f : Nat → Rat} {n : Nat} {e : Nat} (hf : f 0 ≠ 0) (hn : 1 ≤ n) (he : e ≤ 200) (h0 : -100 ≤ s) (h1 : s + n ≤ 1000) (h2 : -100 ≤ e * s) (h3 : e * s + n ≤ 1000) : powT s (tk f n) (e : Int) = (e * s, tk (pq f e) n, 0) := by
 unfold powT
 rw [Zcs h0 h1, Zeh hf, List.drop_zero, decide_eq_true (show -200 ≤ (e : Int) by omega), decide_eq_true (show (e : Int) ≤ 200 by omega), if_pos (show (true && (true && true)) = true from rfl), if_neg (fun e => by have := congrArg List.length e; rw [tk_len] at this; simp at this; omega), tk_len, powL_tk hf hn e (m := n - 1) oM, show n - 1 + 1 = n by omega, show s + ((0 : Nat) : Int) = s by omega, nrm_tk (pq_ne hf e) oM oM]
 rfl
theorem cutR_tk {s p : Int} {f : Nat → Rat} {n : Nat} (hf : f 0 ≠ 0) (h0 : -100 ≤ s) (h1 : s + n ≤ 1000) (hp : s ≤ p) : cutR s (tk f n) p = some (s, tk f (min n (p - s).toNat)) := by
 unfold cutR
 rw [Zcs h0 h1, decide_eq_true (show -100 ≤ p by omega), if_pos (show (true && true) = true from rfl)]
 unfold cutS
 rw [tk_len]
 by_cases c1 : s + (n : Int) ≤ p
 ·rw [if_pos c1, show min n (p - s).toNat = n by omega]
  unfold tdy
  rw [Zeh hf, List.drop_zero, show s + ((0 : Nat) : Int) = s by omega]
 ·rw [if_neg c1]
  by_cases c2 : p ≤ s
  ·obtain rfl : p = s := oM
   rw [if_pos c2, show min n (p - p).toNat = 0 by omega]
   rfl
  ·rw [if_neg c2, tk_take _ oM, show min n (p - s).toNat = (p - s).toNat by omega]
   unfold tdy
   rw [Zeh hf, List.drop_zero, show s + ((0 : Nat) : Int) = s by omega]
def dV (n : Nat) : Rat := dL.getD n 0
theorem dV_tk {n : Nat} (h : n ≤ 151) : dL.take n = tk dV n := tk_of' (by rw [dL_len]; omega)
theorem dV_0 : dV 0 = 1 := by decide +kernel
theorem dV_ht (n : Nat) : Ht (dV n) 2 := Zcl dC dL_ht n
theorem dV_ne : dV 0 ≠ 0 := by rw [dV_0]; decide
theorem ivL_eq : tk (ivf dV) 40 = iL := by
 unfold iL
 rw [← ivs_tk dV (m := 151) dC, ← dV_tk (Nat.le_refl _)]
 exact Zgw _ fun i hi => take_getD oM
theorem ivD_h {n : Nat} (h : n < 40) : Ht (ivf dV n) 3 := by
 have e : ivf dV n = iL.getD n 0 := by rw [← ivL_eq, Zda h]
 rw [e]
 exact Zcl dC iL_ht n
theorem ei_hb : ([2, 4, 6, 8, 10, 14].all fun k => (eiL k 40).all (htB 4) && (clL k 40).all (htB 4)) = true := by decide +kernel
def wOK (k : Nat) : Bool := [2, 4, 6, 8, 10, 14].contains k
theorem wOK_lt {k : Nat} (h : wOK k = true) : k < 15 ∧ 2 ≤ k ∧ k % 2 = 0 := by
 unfold wOK at h
 have : k ∈ [2, 4, 6, 8, 10, 14] := by simpa using h
 simp at this
 omega
theorem ei_ht {k n : Nat} (h : wOK k = true) (hn : n < 40) : Ht (eiV k n) 4 ∧ Ht (clV k n) 4 := by
 unfold wOK at h
 have hm : k ∈ [2, 4, 6, 8, 10, 14] := by simpa using h
 have := List.all_eq_true.1 ei_hb k hm
 rw [Bool.and_eq_true] at this
 exact ⟨Zc3 this.1 _ (List.mem_map.2 ⟨n, List.mem_range.2 hn, rfl⟩), Zc3 this.2 _ (List.mem_map.2 ⟨n, List.mem_range.2 hn, rfl⟩)⟩
theorem clV_ne {k : Nat} (h : wOK k = true) : clV k 0 ≠ 0 := by
 obtain ⟨h1, h2, h3⟩ := wOK_lt h
 have hb := bq_ne k h1 h3
 show bqP k / ((-2 * (k : Int) : Int) : Rat) ≠ 0
 rw [Rat.div_def]
 refine mul_ne hb fun e => ?_
 have hk : ((-2 * (k : Int) : Int) : Rat) ≠ 0 := fun e => by
  have : (-2 * (k : Int)) = 0 := by exact_mod_cast e
  omega
 have := Rat.mul_inv_cancel _ hk
 rw [e, Rat.mul_zero] at this
 exact absurd this dC
theorem eiV_0 {k : Nat} (h : wOK k = true) : eiV k 0 = 1 := by
 unfold wOK at h
 have hm : k ∈ [2, 4, 6, 8, 10, 14] := by simpa using h
 have : ∀ k, k ∈ [2, 4, 6, 8, 10, 14] → eiV k 0 = 1 := by decide +kernel
 exact this k hm
theorem Zf4 {k : Nat} (h : wOK k = true) : eiV k 0 ≠ 0 := by rw [eiV_0 h]; decide
def w4 : List Rat := powL (eiL 4 40) 3 39
theorem w4_eq : tk (pq (eiV 4) 3) 40 = w4 := (powL_tk (f := eiV 4) (n := 40) (Zf4 rfl) dC 3 (m := 39) dC).symm
def jV : Nat → Rat := nc (pq (eiV 4) 3) (ivf dV)
def jL : List Rat := tk (conv w4 iL) 40
theorem jV_eq : tk jV 40 = jL := by
 unfold jL jV
 rw [← w4_eq, ← ivL_eq]
 exact Zc6 fun k hk => (conv_tk hk hk).symm
end Ab
