import Derived.Test.YtdbkmjahbgcjbaaGreatDoorVaB
set_option linter.all false
namespace Ab
open Go Go.RowKit Go.Proofs Hp
set_option maxRecDepth 100000
def thq (f : Nat → Rat) (k : Nat) : Rat := ((k : Int) : Rat) * f k
def one' (k : Nat) : Rat := if k = 0 then 1 else 0
theorem nc_congr {f f' g g' : Nat → Rat} {k : Nat} (hf : ∀ j, j ≤ k → f j = f' j) (hg : ∀ j, j ≤ k → g j = g' j) : nc f g k = nc f' g' k :=
 su_congr fun j hj => by rw [hf j (by omega), hg (k - j) (by omega)]
theorem nc_addr (f g h : Nat → Rat) (k : Nat) : nc f (fun j => g j + h j) k = nc f g k + nc f h k := by
 unfold nc
 rw [← su_add]
 exact su_congr fun j _ => Rat.mul_add _ _ _
theorem nc_smulr (c : Rat) (f g : Nat → Rat) (k : Nat) : nc f (fun j => c * g j) k = c * nc f g k := by
 unfold nc
 rw [← su_mul]
 exact su_congr fun j _ => by grind
theorem nc_smull (c : Rat) (f g : Nat → Rat) (k : Nat) : nc (fun j => c * f j) g k = c * nc f g k := by
 rw [nc_comm, nc_smulr, nc_comm]
theorem nc_fun (f g : Nat → Rat) : nc f g = nc g f := funext fun k => nc_comm f g k
theorem nc_ass (f g h : Nat → Rat) : nc (nc f g) h = nc f (nc g h) := funext fun k => nc_assoc f g h k
theorem nc_leib (f g : Nat → Rat) (k : Nat) : thq (nc f g) k = nc (thq f) g k + nc f (thq g) k := by
 unfold thq nc
 rw [← su_mul, ← su_add]
 refine su_congr fun j hj => ?_
 have e : ((k : Int) : Rat) = ((j : Int) : Rat) + (((k - j : Nat) : Int) : Rat) := by
  rw [← Rat.intCast_add]
  congr 1
  omega
 rw [e]
 grind
def pq (u : Nat → Rat) : Nat → Nat → Rat
 | 0 => one'
 | i + 1 => nc (pq u i) u
theorem thq_one (k : Nat) : thq one' k = 0 := by
 unfold thq one'
 by_cases h : k = 0
 ·subst h; simp
 ·rw [if_neg h, Rat.mul_zero]
theorem pow_id {N : Nat} {a u : Nat → Rat} {σ : Rat} (hu : ∀ k, k < N → nc a (thq u) k = σ * nc (thq a) u k) : ∀ i k, k < N → nc a (thq (pq u i)) k = (σ * ((i : Int) : Rat)) * nc (thq a) (pq u i) k
  | 0, k, _ => by
    have e : nc a (thq (pq u 0)) k = 0 := su_zero fun j _ => by
      show a j * thq one' (k - j) = 0
      rw [thq_one, Rat.mul_zero]
    rw [e]
    simp
  | i + 1, k, hk => by
    have ih := pow_id hu i
    have e1 : nc a (thq (pq u (i + 1))) k = nc a (nc (thq (pq u i)) u) k + nc a (nc (pq u i) (thq u)) k := by
      rw [← nc_addr]
      exact nc_congr (fun _ _ => rfl) fun j _ => nc_leib _ _ j
    have e2 : nc a (nc (thq (pq u i)) u) k = (σ * ((i : Int) : Rat)) * nc (thq a) (nc (pq u i) u) k := by
      rw [← nc_ass a, ← nc_ass (thq a), ← nc_smull]
      exact nc_congr (fun j hj => ih j (by omega)) fun _ _ => rfl
    have e3 : nc a (nc (pq u i) (thq u)) k = σ * nc (thq a) (nc (pq u i) u) k := by
      rw [← nc_ass a, nc_fun a (pq u i), nc_ass (pq u i), ← nc_ass (thq a), nc_fun (thq a) (pq u i), nc_ass (pq u i), ← nc_smulr]
      exact nc_congr (fun _ _ => rfl) fun j hj => hu j (by omega)
    have e4 : (((i + 1 : Nat) : Int) : Rat) = ((i : Int) : Rat) + 1 := by
      rw [show ((i + 1 : Nat) : Int) = (i : Int) + 1 from rfl, Rat.intCast_add]
      rfl
    rw [e1, e2, e3, e4]
    show _ = _ * nc (thq a) (nc (pq u i) u) k
    grind
def msum (A X : List Rat) (n : Int) (k : Nat) : Nat → Rat
 | 0 => 0
 | j + 1 => msum A X n k j + (((((j : Int) + 1) * n - k + ((j : Int) + 1)) : Int) : Rat) * (A.getD (j + 1) 0 * X.getD (k - (j + 1)) 0)
def mil (A : List Rat) (c : Rat) (n : Int) : Nat → List Rat
 | 0 => [c]
 | m + 1 => mil A c n m ++ [1 / A.getD 0 0 * msum A (mil A c n m) n (m + 1) (m + 1) / (((m : Int) + 1 : Int) : Rat)]
theorem mil_len (A : List Rat) (c : Rat) (n : Int) : ∀ m, (mil A c n m).length = m + 1
 | 0 => rfl
 | m + 1 => by rw [mil, List.length_append, mil_len A c n m]; rfl
theorem msum_su (A X : List Rat) (n : Int) (k : Nat) : ∀ j, msum A X n k j = su (fun i => (((((i : Int) + 1) * n - k + ((i : Int) + 1)) : Int) : Rat) * (A.getD (i + 1) 0 * X.getD (k - (i + 1)) 0)) j
 | 0 => rfl
 | j + 1 => by rw [msum, su, msum_su A X n k j]
theorem mil_eq {A : List Rat} {p : Nat → Rat} {n : Int} {M : Nat} (h0 : A.getD 0 0 ≠ 0) (hp : ∀ k, k ≤ M → nc (fun j => A.getD j 0) (thq p) k = (n : Rat) * nc (thq fun j => A.getD j 0) p k) :
    ∀ m, m ≤ M → mil A (p 0) n m = tk p (m + 1)
  | 0, _ => rfl
  | m + 1, hm => by
    have ih := mil_eq h0 hp m (by omega)
    rw [mil, ih, tk_succ p (m + 1)]
    congr 2
    have hk := hp (m + 1) hm
    have z : thq (fun j => A.getD j 0) 0 = 0 := by unfold thq; simp
    have hk1 : nc (fun j => A.getD j 0) (thq p) (m + 1) = A.getD 0 0 * thq p (m + 1) + su (fun j => A.getD (j + 1) 0 * thq p (m + 1 - (j + 1))) (m + 1) := by unfold nc; rw [su_front]; rfl
    have hk2 : nc (thq fun j => A.getD j 0) p (m + 1) = su (fun j => thq (fun j => A.getD j 0) (j + 1) * p (m + 1 - (j + 1))) (m + 1) := by
      unfold nc
      rw [su_front, z, Rat.zero_mul, Rat.zero_add]
    rw [hk1, hk2, ← su_mul] at hk
    have key : msum A (tk p (m + 1)) n (m + 1) (m + 1) = A.getD 0 0 * thq p (m + 1) := by
      have e1 : A.getD 0 0 * thq p (m + 1) = su (fun j => (n : Rat) * (thq (fun j => A.getD j 0) (j + 1) * p (m + 1 - (j + 1)))) (m + 1) + (-1) * su (fun j => A.getD (j + 1) 0 * thq p (m + 1 - (j + 1))) (m + 1) := by
        rw [← hk]
        grind
      rw [e1, ← su_mul, ← su_add, msum_su]
      refine su_congr fun j hj => ?_
      rw [show (tk p (m + 1)).getD (m + 1 - (j + 1)) 0 = p (m + 1 - (j + 1)) by unfold tk; simp [List.getD_eq_getElem?_getD, show m - j < m + 1 by omega, show m + 1 - (j + 1) = m - j by omega]]
      unfold thq
      have e2 : (((((j : Int) + 1) * n - ((m + 1 : Nat) : Int) + ((j : Int) + 1)) : Int) : Rat) = (n : Rat) * (((j + 1 : Nat) : Int) : Rat) - (((m + 1 - (j + 1) : Nat) : Int) : Rat) := by
        rw [← Rat.intCast_mul, ← Rat.intCast_sub]
        congr 1
        have : ((m + 1 - (j + 1) : Nat) : Int) = ((m + 1 : Nat) : Int) - ((j : Int) + 1) := by omega
        rw [this, show ((j + 1 : Nat) : Int) = (j : Int) + 1 from rfl, Int.mul_comm n]
        omega
      rw [e2]
      grind
    rw [key]
    unfold thq
    have hne : (((m : Int) + 1 : Int) : Rat) ≠ 0 := fun e => by
      have := Rat.intCast_eq_zero_iff.1 e
      omega
    show 1 / A.getD 0 0 * (A.getD 0 0 * ((((m : Int) + 1 : Int) : Rat) * p (m + 1))) / (((m : Int) + 1 : Int) : Rat) = _
    grind
def rpw (x : Rat) : Nat → Rat
 | 0 => 1
 | k + 1 => rpw x k * x
def bas (x : Rat) (n : Int) : Rat := if n < 0 then 1 / x else x
theorem ht_rpw {x : Rat} {K : Nat} (hK : 1 ≤ K) (h : Ht x K) : ∀ k, Ht (rpw x k) (1 + k * K)
 | 0 => (ht_int (c := 1) (by decide)).mono (by omega)
 | k + 1 => (ht_mul (ht_rpw hK h k) h (by omega)).mono (by rw [Nat.add_mul]; omega)
theorem ht_bas {x : Rat} {K : Nat} (hK : 1 ≤ K) (h : Ht x K) (n : Int) : Ht (bas x n) K := by
 unfold bas
 split
 ·rw [Rat.div_def, Rat.one_mul]; exact ht_inv h hK
 ·exact h
set_option maxHeartbeats 1000000 in
theorem vpower_p {a : AV} {x : Rat} {K : Nat} {n : Int} (ha : IsV a K x) (hx : x ≠ 0) (hK : 1 ≤ K ∧ K ≤ 1000000) (n0 : -200 ≤ n) (n1 : n ≤ 200) : PC Tryz.prog 126 [a, .p (.int .i64 n)] (encQ (rpw (bas x n) n.natAbs)) := by
 have h1 : Ht (1 : Rat) 1 := ht_int (c := 1) (by decide)
 have c1 := rof_p 1 (by decide) (by decide)
 rw [show ((1 : Int) : Rat) = 1 from rfl] at c1
 have cq := rquo_p (isV_encQ h1) (by omega) ha (by omega) hx
 have htx := isV_ht ha hK.1
 have hbas := ht_bas hK.1 htx n
 have hpw := ht_rpw hK.1 hbas
 have hpos : n < 0 → bas x n = 1 / x := fun h => by unfold bas; rw [if_pos h]
 have hneg : ¬ n < 0 → bas x n = x := fun h => by unfold bas; rw [if_neg h]
 obtain ⟨g, xs, g', xs', rfl⟩ := isV_cells ha
 generalize hy : bas x n = y at *
 have hr0 : rpw y 0 = 1 := rfl
 have hrs : ∀ k, rpw y (k + 1) = rpw y k * y := fun k => rfl
 generalize rpw y = P at *
 refine pc_body1 true Tryz.func126 rfl rfl rfl (Nat.le_of_ble_eq_true rfl) (CellT.agg agg_rat) ?_
 refine r1A ?_
 refine T.seqI (fun s1 => ∃ g ds g' ds', IsV (.agg [.p (.bool g), .sl ds, .p (.bool g'), .sl ds']) K y ∧ s1 = mkS [(1, .v (.p (.int .i64 (n.natAbs : Nat)))), (2, .ptr 2 0), (4, .ptr 4 0)] [(2, .var [.v (.p (.bool g)), .v (.sl ds), .v (.p (.bool g')), .v (.sl ds')]), (4, varQ)] 25 true) ?_ ?_
 ·by_cases hn : n < 0
  ·have hb : decide (n < 0) = true := by simp [hn]
   have e : 0 - n = (n.natAbs : Int) := by omega
   have hyy := hpos hn
   rw [hyy] at hbas
   refine goA ?_
   refine evG ggA (ss_call (InB_of rfl) rfl rfl c1) ?_
   refine goA ?_
   refine evG ggA (ss_call (InB_of rfl) rfl rfl cq) ?_
   refine goA ?_
   exact midQ_intro (s' := mkS [(1, .v (.p (.int .i64 (0 - n)))), (2, .ptr 2 0), (4, .ptr 4 0)] [(2, qvar (1 / x)), (4, varQ)] 25 true) (by exact entA) ⟨_, _, _, _, by rw [hyy]; exact isV_encQ hbas, by rw [e]⟩
  ·have hb : decide (n < 0) = false := by simp; omega
   have e : n = (n.natAbs : Int) := by omega
   have hyy := hneg hn
   refine goA ?_
   exact midQ_intro (s' := mkS [(1, .v (.p (.int .i64 n))), (2, .ptr 2 0), (4, .ptr 4 0)] [(2, .var [.v (.p (.bool g)), .v (.sl xs), .v (.p (.bool g')), .v (.sl xs')]), (4, varQ)] 25 true) (by exact entA) ⟨_, _, _, _, by rw [hyy]; exact ha, by rw [← e]⟩
 rintro _ ⟨g, ds, g', ds', hv, rfl⟩
 generalize hN : n.natAbs = N at *
 have hNb : N ≤ 200 := by omega
 clear cq hpos hneg ha
 refine T.seqI (fun s1 => s1 = mkS [(1, .v (.p (.int .i64 (N : Nat)))), (2, .ptr 2 0), (4, .ptr 4 0), (5, .ptr 5 0)] [(2, .var [.v (.p (.bool g)), .v (.sl ds), .v (.p (.bool g')), .v (.sl ds')]), (4, varQ), (5, qvar (P 0))] 25 true) ?_ ?_
 ·refine goA ?_
  refine evG ggA (ss_call (InB_of rfl) rfl rfl c1) ?_
  refine goA ?_
  exact midQ_intro (s' := mkS [(1, .v (.p (.int .i64 (N : Nat)))), (2, .ptr 2 0), (4, .ptr 4 0), (5, .ptr 5 0)] [(2, .var [.v (.p (.bool g)), .v (.sl ds), .v (.p (.bool g')), .v (.sl ds')]), (4, varQ), (5, qvar 1)] 25 true) (by exact entA) (by rw [hr0])
 rintro _ rfl
 refine T.seqI (fun s1 => s1 = mkS [(4, .ptr 4 0), (5, .ptr 5 0)] [(4, varQ), (5, qvar (P N))] 25 true) ?_ ?_
 ·refine r1A ?_
  refine T.block ?_
  refine T.loop (fun z s1 => ∃ k : Nat, z = N - k ∧ k ≤ N ∧ s1 = mkS [(2, .ptr 2 0), (4, .ptr 4 0), (5, .ptr 5 0), (17, .v (.p (.int .i64 (N : Nat)))), (18, .v (.p (.int .i64 (k : Nat))))] [(2, .var [.v (.p (.bool g)), .v (.sl ds), .v (.p (.bool g')), .v (.sl ds')]), (4, varQ), (5, qvar (P k))] 25 true) N
   (s' := mkS [(2, .ptr 2 0), (4, .ptr 4 0), (5, .ptr 5 0), (17, .v (.p (.int .i64 (N : Nat)))), (18, .v (.p (.int .i64 (0 : Nat))))] [(2, .var [.v (.p (.bool g)), .v (.sl ds), .v (.p (.bool g')), .v (.sl ds')]), (4, varQ), (5, qvar (P 0))] 25 true) (by exact entA) ⟨0, rfl, Nat.zero_le _, rfl⟩ ?_
  rintro z _ ⟨k, rfl, hk, rfl⟩
  by_cases hlt : k < N
  ·have hb : decide ((k : Int) < (N : Int)) = true := by simp; omega
   have hkK : 1 + k * K ≤ 2199023255552 := by
    have : k * K ≤ 200 * 1000000 := Nat.mul_le_mul (by omega) hK.2
    omega
   have cm := rmul_p (isV_encQ (hpw k)) hkK hv (by omega)
   rw [← hrs k] at cm
   clear hpw hrs hv
   refine goA ?_
   refine evG ggA (ss_call (InB_of rfl) rfl rfl cm) ?_
   refine goA ?_
   exact loopQ_intro (k := N - (k + 1)) (s' := mkS [(2, .ptr 2 0), (4, .ptr 4 0), (5, .ptr 5 0), (17, .v (.p (.int .i64 (N : Nat)))), (18, .v (.p (.int .i64 ((k : Int) + 1))))] [(2, .var [.v (.p (.bool g)), .v (.sl ds), .v (.p (.bool g')), .v (.sl ds')]), (4, varQ), (5, qvar (P (k + 1)))] 25 true) (by omega) (by exact entA) ⟨k + 1, rfl, hlt, rfl⟩
  ·obtain rfl : k = N := by omega
   have hb : decide ((k : Int) < (k : Int)) = false := by simp
   refine goA ?_
   exact midQ_intro (s' := mkS [(4, .ptr 4 0), (5, .ptr 5 0)] [(4, varQ), (5, qvar (P k))] 25 true) (by exact entA) rfl
 rintro _ rfl
 unfold encQ
 refine goA ?_
 exact rfl
def powL (A : List Rat) (n : Int) (m : Nat) : List Rat := mil A (rpw (bas (A.getD 0 0) n) n.natAbs) n m
def powT (s : Int) (l : List Rat) (n : Int) : Res :=
 if ValidP s l.length && (decide (-200 ≤ n) && decide (n ≤ 200)) then
  (if l.drop (lead l) = [] then (if n < 0 then (0, [], 18) else nrmT (nrm (n * (s + lead l)) [])) else nrmT (nrm (n * (s + lead l)) (powL (l.drop (lead l)) n ((l.drop (lead l)).length - 1))))
 else (0, [], 2)
theorem rpw_ne {x : Rat} (h : x ≠ 0) : ∀ k, rpw x k ≠ 0
 | 0 => by show (1 : Rat) ≠ 0; decide
 | k + 1 => fun e => (Rat.mul_eq_zero.1 e).elim (rpw_ne h k) h
theorem bas_ne {x : Rat} (h : x ≠ 0) (n : Int) : bas x n ≠ 0 := by
 unfold bas
 split
 ·rw [Rat.div_def, Rat.one_mul]
  intro e
  have := Rat.mul_inv_cancel x h
  rw [e, Rat.mul_zero] at this
  exact absurd this (by decide)
 ·exact h
theorem mil_take (A : List Rat) (c : Rat) (n : Int) : ∀ M m, m ≤ M → (mil A c n M).take (m + 1) = mil A c n m
  | 0, m, h => by
    obtain rfl : m = 0 := by omega
    rfl
  | M + 1, m, h => by
    have hl := mil_len A c n M
    by_cases h1 : m = M + 1
    · subst h1
      rw [List.take_of_length_le (by rw [mil_len]; omega)]
    · rw [mil, List.take_append_of_le_length (by omega)]
      exact mil_take A c n M m (by omega)
theorem mil_get0 (A : List Rat) (c : Rat) (n : Int) (m : Nat) : (mil A c n m).getD 0 0 = c := by
 have h := mil_take A c n m 0 (Nat.zero_le _)
 have e : (mil A c n m).getD 0 0 = ((mil A c n m).take 1).getD 0 0 := by
  rw [List.getD_eq_getElem?_getD, List.getD_eq_getElem?_getD, List.getElem?_take, if_pos (by decide)]
 rw [e, h]
 rfl
theorem lead00 {l : List Rat} (h : l.getD 0 0 ≠ 0) : lead l = 0 := by
  cases l with
  | nil => exact absurd rfl h
  | cons q r =>
    unfold lead
    rw [if_neg (show ¬ q = 0 from h)]
theorem nrm_low {f : Int} {L : List Rat} (h : f < -100) (h0 : L.getD 0 0 ≠ 0) : nrm f L = none := by
 have e1 : nfrom f = f := by unfold nfrom; rw [if_neg (by omega)]
 have e2 : ncut f L = L.take (1000 - f).toNat := by unfold ncut; rw [if_neg (by omega)]
 have e3 : lead (ncut f L) = 0 := lead00 (by
  rw [e2, List.getD_eq_getElem?_getD, List.getElem?_take, if_pos (by omega), ← List.getD_eq_getElem?_getD]
  exact h0)
 unfold nrm
 rw [e1, e3, if_pos (by omega)]
theorem nrm_take {f : Int} {L : List Rat} {R : Nat} (h : f < 1000) (hR : (R : Int) = min (L.length : Int) (1000 - f)) : nrm f (L.take R) = nrm f L := by
 have e2 : ncut f (L.take R) = ncut f L := by
  unfold ncut
  rw [if_neg (by omega), if_neg (by omega), List.take_take]
  by_cases h2 : (L.length : Int) ≤ 1000 - f
  ·rw [List.take_of_length_le (by omega), List.take_of_length_le (by omega)]
  ·congr 1
   omega
 unfold nrm
 rw [e2]
theorem ht_msum {A X : List Rat} {K Q k : Nat} {n : Int} (hK : 1 ≤ K) (hQ : 1 ≤ Q) (hA : ∀ q, q ∈ A → Ht q K) (hX : ∀ q, q ∈ X → Ht q Q) (n0 : -200 ≤ n) (n1 : n ≤ 200) (hk : k ≤ 1100) : ∀ j, j ≤ 1100 → Ht (msum A X n k j) (1 + j * (K + Q + 2))
  | 0, _ => (ht0 (Nat.le_refl _)).mono (by omega)
  | j + 1, hj => by
    have hb : -300000 ≤ ((j : Int) + 1) * n ∧ ((j : Int) + 1) * n ≤ 300000 := by
      constructor
      · have := Int.mul_le_mul_of_nonneg_left n0 (show 0 ≤ (j : Int) + 1 by omega)
        omega
      · have := Int.mul_le_mul_of_nonneg_left n1 (show 0 ≤ (j : Int) + 1 by omega)
        omega
    exact (ht_add (ht_msum hK hQ hA hX n0 n1 hk j (by omega)) (ht_mul (ht_int (c := ((j : Int) + 1) * n - k + ((j : Int) + 1)) (by omega)) (ht_mul (getD_ht hK hA (j + 1)) (getD_ht hQ hX (k - (j + 1))) hK) (Nat.le_refl 1))).mono (by rw [Nat.add_mul j 1]; omega)
set_option maxHeartbeats 8000000 in
theorem spow_p {s n : Int} {es : List AV} {l : List Rat} {K Q : Nat} (h : ValidP s es.length = true → IsL es K l ∧ l.length ≤ 100) (hle : es.length = l.length) (hr : InR s es.length) (hK : 1 ≤ K ∧ K ≤ 100) (hQ : 1 ≤ Q ∧ Q ≤ 1000000) (hn0 : -9223372036854775808 ≤ n) (hn1 : n ≤ 9223372036854775807)
    (hX : ValidP s es.length = true → -200 ≤ n → n ≤ 200 → ∀ m, m + 1 ≤ (l.drop (lead l)).length → ∀ q, q ∈ powL (l.drop (lead l)) n m → Ht q Q) : PC Tryz.prog 46 [serA s es, .p (.int .i64 n)] (serT (powT s l n)) := by
  obtain ⟨i1, i2, i3⟩ := hr
  have hva := valid_p i1 i2 i3
  unfold powT
  rw [← hle]
  cases h1 : ValidP s es.length with
  | false =>
    rw [h1] at hva
    refine pc_body2 true Tryz.func46 rfl rfl rfl (Nat.le_of_ble_eq_true rfl) (CellT.agg agg_ser) CellT.tmp ?_
    refine goA ?_
    refine evG ggA (ss_call (InB_of rfl) rfl rfl hva) ?_
    refine goA ?_
    exact rfl
  | true =>
  rw [h1] at hva
  by_cases a0 : -200 ≤ n
  case neg =>
    have e : (true && (decide (-200 ≤ n) && decide (n ≤ 200))) = false := by simp; omega
    have hb : decide (n < -200) = true := by simp; omega
    rw [e]
    refine pc_body2 true Tryz.func46 rfl rfl rfl (Nat.le_of_ble_eq_true rfl) (CellT.agg agg_ser) CellT.tmp ?_
    refine goA ?_
    refine evG ggA (ss_call (InB_of rfl) rfl rfl hva) ?_
    refine goA ?_
    exact rfl
  have hb0 : decide (n < -200) = false := by simp; omega
  by_cases a1 : n ≤ 200
  case neg =>
    have e : (true && (decide (-200 ≤ n) && decide (n ≤ 200))) = false := by simp; omega
    have hb : decide (n > 200) = true := by simp; omega
    rw [e]
    refine pc_body2 true Tryz.func46 rfl rfl rfl (Nat.le_of_ble_eq_true rfl) (CellT.agg agg_ser) CellT.tmp ?_
    refine goA ?_
    refine evG ggA (ss_call (InB_of rfl) rfl rfl hva) ?_
    refine goA ?_
    exact rfl
  have hb1 : decide (n > 200) = false := by simp; omega
  have e : (true && (decide (-200 ≤ n) && decide (n ≤ 200))) = true := by simp [a0, a1]
  rw [e]
  simp only [if_true]
  clear e
  obtain ⟨hL, hl14⟩ := h h1
  have hX := hX h1 a0 a1
  obtain ⟨v0, v1, v2⟩ := valid_iff.1 h1
  have hta := tidy_p hL (by omega) v0 v1 v2
  have hla := lead_le l
  have hhl : ∀ q, q ∈ l.drop (lead l) → Ht q K := fun q hq => isL_ht hL hK.1 q (List.mem_of_mem_drop hq)
  have hld : (l.drop (lead l)).length + lead l = l.length := by rw [List.length_drop]; omega
  have hd0 : ∀ q, (l.drop (lead l))[0]? = some q → q ≠ 0 := fun q hq => lead_ne l q (by rw [List.getElem?_drop] at hq; exact hq)
  generalize l.drop (lead l) = A at *
  generalize hsa : s + (lead l : Int) = sa at *
  have hSA : -100 ≤ sa ∧ sa ≤ 1000 := by omega
  have hns : -200000 ≤ n * sa ∧ n * sa ≤ 200000 := by
    have h3 : (n * sa).natAbs ≤ 200 * 1000 := by
      rw [Int.natAbs_mul]
      exact Nat.mul_le_mul (by omega) (by omega)
    omega
  by_cases hA : A = []
  · subst hA
    simp only [if_true]
    by_cases hn : n < 0
    · have hb : decide (n < 0) = true := by simp [hn]
      rw [if_pos hn]
      refine pc_body2 true Tryz.func46 rfl rfl rfl (Nat.le_of_ble_eq_true rfl) (CellT.agg agg_ser) CellT.tmp ?_
      refine goA ?_
      refine evG ggA (ss_call (InB_of rfl) rfl rfl hva) ?_
      refine goA ?_
      refine evG ggA (ss_call (InB_of rfl) rfl rfl hta) ?_
      refine goA ?_
      exact rfl
    · have hb : decide (n < 0) = false := by simp; omega
      rw [if_neg hn]
      have hbuild := build_p (s := n * sa) (es := []) (l := []) (K := 1) trivial (by omega) (by omega) (by omega) (by decide)
      rw [serE_T] at hbuild
      refine pc_body2 true Tryz.func46 rfl rfl rfl (Nat.le_of_ble_eq_true rfl) (CellT.agg agg_ser) CellT.tmp ?_
      refine goA ?_
      refine evG ggA (ss_call (InB_of rfl) rfl rfl hva) ?_
      refine goA ?_
      refine evG ggA (ss_call (InB_of rfl) rfl rfl hta) ?_
      refine goA ?_
      refine evG ggA (ss_call (InB_of rfl) rfl rfl hbuild) ?_
      refine goA ?_
      exact rfl
  rw [if_neg hA]
  have hA0 : 0 < A.length := List.length_pos_iff.2 hA
  have hbne : (((A.map encQ).length : Int) == 0) = false := by simp; exact hA
  obtain ⟨q0, hq0⟩ : ∃ q, A[0]? = some q := ⟨_, List.getElem?_eq_getElem hA0⟩
  have g0 : A.getD 0 0 = q0 := by rw [List.getD_eq_getElem?_getD, hq0]; rfl
  have hne := hd0 q0 hq0
  have t0 := hhl q0 (List.mem_of_getElem? hq0)
  have n0' := enc_at hq0
  have hpl0 : ∀ m, (powL A n m).getD 0 0 ≠ 0 := fun m => by
    unfold powL
    rw [mil_get0, g0]
    exact rpw_ne (bas_ne hne n) _
  generalize hF : n * sa = F at *
  by_cases hF1 : F ≥ 1000
  · have hb : decide (F ≥ 1000) = true := by simp [hF1]
    rw [nrm_end (by omega)]
    refine pc_body2 true Tryz.func46 rfl rfl rfl (Nat.le_of_ble_eq_true rfl) (CellT.agg agg_ser) CellT.tmp ?_
    refine goA ?_
    refine evG ggA (ss_call (InB_of rfl) rfl rfl hva) ?_
    refine goA ?_
    refine evG ggA (ss_call (InB_of rfl) rfl rfl hta) ?_
    refine goA ?_
    rw [hF]
    refine goA ?_
    exact rfl
  have hb2 : decide (F ≥ 1000) = false := by simp; omega
  by_cases hF2 : F < -100
  · have hb : decide (F < -100) = true := by simp [hF2]
    rw [nrm_low hF2 (hpl0 _)]
    refine pc_body2 true Tryz.func46 rfl rfl rfl (Nat.le_of_ble_eq_true rfl) (CellT.agg agg_ser) CellT.tmp ?_
    refine goA ?_
    refine evG ggA (ss_call (InB_of rfl) rfl rfl hva) ?_
    refine goA ?_
    refine evG ggA (ss_call (InB_of rfl) rfl rfl hta) ?_
    refine goA ?_
    rw [hF]
    refine goA ?_
    exact rfl
  have hb3 : decide (F < -100) = false := by simp; omega
  obtain ⟨R, hR⟩ : ∃ R : Nat, ((R + 1 : Nat) : Int) = min (A.length : Int) (1000 - F) := ⟨(min (A.length : Int) (1000 - F)).toNat - 1, by omega⟩
  have htk : nrm F (powL A n (A.length - 1)) = nrm F (powL A n R) := by
    rw [← nrm_take (f := F) (L := powL A n (A.length - 1)) (R := R + 1) (by omega) (by unfold powL; rw [mil_len]; omega)]
    unfold powL
    rw [mil_take A _ n _ R (by omega)]
  rw [htk]
  clear htk hpl0
  have t1 : Ht (1 : Rat) 1 := ht_int (c := 1) (by decide)
  have c1 := rof_p 1 (by decide) (by decide)
  rw [show ((1 : Int) : Rat) = 1 from rfl] at c1
  have cz := rof_p 0 (by decide) (by decide)
  rw [show ((0 : Int) : Rat) = 0 from rfl] at cz
  have cpw := vpower_p (n := n) (isV_encQ t0) hne (by omega) a0 a1
  have cq := rquo_p (isV_encQ t1) (by omega) (isV_encQ t0) (by omega) hne
  have hp0 : powL A n 0 = [rpw (bas q0 n) n.natAbs] := by rw [← g0]; rfl
  generalize rpw (bas q0 n) n.natAbs = c0 at *
  have tfi : Ht (1 / q0) K := by rw [Rat.div_def, Rat.one_mul]; exact ht_inv t0 hK.1
  have hps : ∀ m, powL A n (m + 1) = powL A n m ++ [1 / q0 * msum A (powL A n m) n (m + 1) (m + 1) / (((m : Int) + 1 : Int) : Rat)] := fun m => by rw [← g0]; rfl
  have hpln : ∀ m, (powL A n m).length = m + 1 := fun m => mil_len _ _ _ m
  generalize 1 / q0 = fi at *
  generalize hPP : powL A n = P at *
  refine pc_body2 true Tryz.func46 rfl rfl rfl (Nat.le_of_ble_eq_true rfl) (CellT.agg agg_ser) CellT.tmp ?_
  refine r1A ?_
  refine T.seqI (fun s1 => s1 = mkS [(1, .v (.p (.int .i64 n))), (2, .ptr 2 0), (4, .ptr 4 0)] [(2, .var [.v (.p (.int .i64 s)), .v (.sl es)]), (4, var0)] 133 true) ?_ ?_
  · refine goA ?_
    refine evG ggA (ss_call (InB_of rfl) rfl rfl hva) ?_
    refine goA ?_
    exact midQ_intro (by exact entA) rfl
  rintro _ rfl
  refine T.seqI (fun s1 => s1 = mkS [(1, .v (.p (.int .i64 n))), (2, .ptr 2 0), (4, .ptr 4 0)] [(2, svar sa A), (4, var0)] 133 true) ?_ ?_
  · refine goA ?_
    refine evG ggA (ss_call (InB_of rfl) rfl rfl hta) ?_
    refine goA ?_
    exact midQ_intro (by exact entA) rfl
  rintro _ rfl
  refine T.seqI (fun s1 => s1 = mkS [(1, .v (.p (.int .i64 n))), (2, .ptr 2 0), (4, .ptr 4 0)] [(2, svar sa A), (4, var0)] 133 true) ?_ ?_
  · refine goA ?_
    exact midQ_intro (by exact entA) rfl
  rintro _ rfl
  refine T.seqI (fun s1 => s1 = mkS [(1, .v (.p (.int .i64 n))), (2, .ptr 2 0), (4, .ptr 4 0), (6, .v (.p (.int .i64 F)))] [(2, svar sa A), (4, var0)] 133 true) ?_ ?_
  · refine goA ?_
    exact midQ_intro (s' := mkS [(1, .v (.p (.int .i64 n))), (2, .ptr 2 0), (4, .ptr 4 0), (6, .v (.p (.int .i64 (n * sa))))] [(2, svar sa A), (4, var0)] 133 true) (by exact entA) (by rw [hF])
  rintro _ rfl
  refine T.seqI (fun s1 => s1 = mkS [(1, .v (.p (.int .i64 n))), (2, .ptr 2 0), (4, .ptr 4 0), (6, .v (.p (.int .i64 F)))] [(2, svar sa A), (4, var0)] 133 true) ?_ ?_
  · refine goA ?_
    exact midQ_intro (by exact entA) rfl
  rintro _ rfl
  refine T.seqI (fun s1 => s1 = mkS [(1, .v (.p (.int .i64 n))), (2, .ptr 2 0), (4, .ptr 4 0), (6, .v (.p (.int .i64 F)))] [(2, svar sa A), (4, var0)] 133 true) ?_ ?_
  · refine goA ?_
    exact midQ_intro (by exact entA) rfl
  rintro _ rfl
  refine T.seqI (fun s1 => s1 = mkS [(1, .v (.p (.int .i64 n))), (2, .ptr 2 0), (4, .ptr 4 0), (6, .v (.p (.int .i64 F))), (7, .own 31 1)] [(2, svar sa A), (4, var0), (31, .lst 4 56 ((P 0).map encQ))] 133 true) ?_ ?_
  · refine goA ?_
    refine evG ggA (ss_index_sl (InB_of rfl) (elem_tab rfl) rfl rfl (by decide) n0' rfl) ?_
    refine goA ?_
    refine evG ggA (ss_call (InB_of rfl) rfl rfl cpw) ?_
    refine runA ?_
    refine evG ggA (ss_bslice_own 31 (InB_of rfl) rfl (make_tab rfl) rfl rfl rfl rfl (one_ok rfl rfl) (Nat.le_of_ble_eq_true rfl) (by decide) (fun _ a ha => by rw [List.mem_singleton] at ha; subst ha; exact encQ_nu _)) ?_
    refine goA ?_
    exact midQ_intro (s' := mkS [(1, .v (.p (.int .i64 n))), (2, .ptr 2 0), (4, .ptr 4 0), (6, .v (.p (.int .i64 F))), (7, .own 31 1)] [(2, svar sa A), (4, var0), (31, .lst 4 56 (([c0] : List Rat).map encQ))] 133 true) (by exact entA) (by rw [hp0])
  rintro _ rfl
  refine T.seqI (fun s1 => s1 = mkS [(1, .v (.p (.int .i64 n))), (2, .ptr 2 0), (4, .ptr 4 0), (6, .v (.p (.int .i64 F))), (7, .own 31 1), (8, .ptr 8 0)] [(2, svar sa A), (4, var0), (8, qvar fi), (31, .lst 4 56 ((P 0).map encQ))] 133 true) ?_ ?_
  · refine goA ?_
    refine evG ggA (ss_call (InB_of rfl) rfl rfl c1) ?_
    refine goA ?_
    refine evG ggA (ss_index_sl (InB_of rfl) (elem_tab rfl) rfl rfl (by decide) n0' rfl) ?_
    refine goA ?_
    refine evG ggA (ss_call (InB_of rfl) rfl rfl cq) ?_
    refine goA ?_
    exact midQ_intro (by exact entA) rfl
  rintro _ rfl
  clear cpw cq c1 hva hta
  refine T.seqI (fun s1 => s1 = mkS [(4, .ptr 4 0), (6, .v (.p (.int .i64 F))), (7, .own 31 (R + 1))] [(4, var0), (31, .lst 4 56 ((P R).map encQ))] 133 true) ?_ ?_
  · refine r1A ?_
    refine T.block ?_
    refine T.loop (fun z s1 => ∃ m : Nat, z = R - m ∧ m ≤ R ∧ s1 = mkS [(1, .v (.p (.int .i64 n))), (2, .ptr 2 0), (4, .ptr 4 0), (6, .v (.p (.int .i64 F))), (7, .own 31 (m + 1)), (8, .ptr 8 0), (10, .v (.p (.int .i64 ((m : Int) + 1))))] [(2, svar sa A), (4, var0), (8, qvar fi), (31, .lst 4 56 ((P m).map encQ))] 133 true) R
      (s' := mkS [(1, .v (.p (.int .i64 n))), (2, .ptr 2 0), (4, .ptr 4 0), (6, .v (.p (.int .i64 F))), (7, .own 31 1), (8, .ptr 8 0), (10, .v (.p (.int .i64 1)))] [(2, svar sa A), (4, var0), (8, qvar fi), (31, .lst 4 56 ((P 0).map encQ))] 133 true) (by exact entA) ⟨0, rfl, Nat.zero_le _, rfl⟩ ?_
    rintro z _ ⟨m, rfl, hm, rfl⟩
    by_cases hlt : m < R
    · have hb : decide ((m : Int) + 1 < min ((A.map encQ).length : Int) (1000 - F)) = true := by simp; omega
      have hXm := hX m (by omega)
      have hpm := hps m
      have hpl := hpln m
      generalize hXX : P m = X at *
      have hms := ht_msum hK.1 hQ.1 hhl hXm a0 a1 (k := m + 1) (by omega)
      have hmsb : ∀ j, j ≤ m + 1 → Ht (msum A X n (m + 1) j) 200000000000 := fun j hj => (hms j (by omega)).mono (by
        have : j * (K + Q + 2) ≤ 100 * (K + Q + 2) := Nat.mul_le_mul_right _ (by omega)
        omega)
      have hse : ∀ j, msum A X n (m + 1) (j + 1) = msum A X n (m + 1) j + (((((j : Int) + 1) * n - ((m + 1 : Nat) : Int) + ((j : Int) + 1)) : Int) : Rat) * (A.getD (j + 1) 0 * X.getD (m - j) 0) := fun j => by
        show msum A X n (m + 1) j + (((((j : Int) + 1) * n - ((m + 1 : Nat) : Int) + ((j : Int) + 1)) : Int) : Rat) * (A.getD (j + 1) 0 * X.getD (m + 1 - (j + 1)) 0) = _
        rw [show m + 1 - (j + 1) = m - j by omega]
      have hs0 : msum A X n (m + 1) 0 = 0 := rfl
      clear hms
      generalize msum A X n (m + 1) = S at *
      refine T.seqI (fun s1 => s1 = mkS [(1, .v (.p (.int .i64 n))), (2, .ptr 2 0), (4, .ptr 4 0), (6, .v (.p (.int .i64 F))), (7, .own 31 (m + 1)), (8, .ptr 8 0), (10, .v (.p (.int .i64 ((m : Int) + 1))))] [(2, svar sa A), (4, var0), (8, qvar fi), (31, .lst 4 56 (X.map encQ))] 133 true) ?_ ?_
      · refine goA ?_
        exact midQ_intro (by exact entA) rfl
      rintro _ rfl
      refine T.seq ?_
      refine T.block ?_
      refine T.seqI (fun s1 => s1 = mkS [(1, .v (.p (.int .i64 n))), (2, .ptr 2 0), (4, .ptr 4 0), (6, .v (.p (.int .i64 F))), (7, .own 31 (m + 1)), (8, .ptr 8 0), (10, .v (.p (.int .i64 ((m : Int) + 1)))), (11, .ptr 11 0)] [(2, svar sa A), (4, var0), (8, qvar fi), (11, qvar (S 0)), (31, .lst 4 56 (X.map encQ))] 133 true) ?_ ?_
      · refine goA ?_
        refine evG ggA (ss_call (InB_of rfl) rfl rfl cz) ?_
        refine goA ?_
        exact midQ_intro (s' := mkS [(1, .v (.p (.int .i64 n))), (2, .ptr 2 0), (4, .ptr 4 0), (6, .v (.p (.int .i64 F))), (7, .own 31 (m + 1)), (8, .ptr 8 0), (10, .v (.p (.int .i64 ((m : Int) + 1)))), (11, .ptr 11 0)] [(2, svar sa A), (4, var0), (8, qvar fi), (11, qvar (0)), (31, .lst 4 56 (X.map encQ))] 133 true) (by exact entA) (by rw [hs0])
      rintro _ rfl
      refine T.seqI (fun s1 => s1 = mkS [(1, .v (.p (.int .i64 n))), (2, .ptr 2 0), (4, .ptr 4 0), (6, .v (.p (.int .i64 F))), (7, .own 31 (m + 1)), (8, .ptr 8 0), (10, .v (.p (.int .i64 ((m : Int) + 1)))), (11, .ptr 11 0)] [(2, svar sa A), (4, var0), (8, qvar fi), (11, qvar (S (m + 1))), (31, .lst 4 56 (X.map encQ))] 133 true) ?_ ?_
      · refine r1A ?_
        refine T.block ?_
        refine T.loop (fun z s1 => ∃ j : Nat, z = m + 1 - j ∧ j ≤ m + 1 ∧ s1 = mkS [(1, .v (.p (.int .i64 n))), (2, .ptr 2 0), (4, .ptr 4 0), (6, .v (.p (.int .i64 F))), (7, .own 31 (m + 1)), (8, .ptr 8 0), (10, .v (.p (.int .i64 ((m : Int) + 1)))), (11, .ptr 11 0), (12, .v (.p (.int .i64 ((j : Int) + 1))))] [(2, svar sa A), (4, var0), (8, qvar fi), (11, qvar (S j)), (31, .lst 4 56 (X.map encQ))] 133 true) (m + 1)
          (s' := mkS [(1, .v (.p (.int .i64 n))), (2, .ptr 2 0), (4, .ptr 4 0), (6, .v (.p (.int .i64 F))), (7, .own 31 (m + 1)), (8, .ptr 8 0), (10, .v (.p (.int .i64 ((m : Int) + 1)))), (11, .ptr 11 0), (12, .v (.p (.int .i64 1)))] [(2, svar sa A), (4, var0), (8, qvar fi), (11, qvar (S 0)), (31, .lst 4 56 (X.map encQ))] 133 true) (by exact entA) ⟨0, rfl, Nat.zero_le _, rfl⟩ ?_
        rintro z _ ⟨j, rfl, hj, rfl⟩
        by_cases hjm : j < m + 1
        · have hb3 : decide ((j : Int) + 1 ≤ (m : Int) + 1) = true := by simp; omega
          obtain ⟨q1, hq1⟩ : ∃ q, A[j + 1]? = some q := ⟨_, List.getElem?_eq_getElem (by omega)⟩
          obtain ⟨q2, hq2⟩ : ∃ q, X[m - j]? = some q := ⟨_, List.getElem?_eq_getElem (by omega)⟩
          have g1 : A.getD (j + 1) 0 = q1 := by rw [List.getD_eq_getElem?_getD, hq1]; rfl
          have g2 : X.getD (m - j) 0 = q2 := by rw [List.getD_eq_getElem?_getD, hq2]; rfl
          have t1 := hhl q1 (List.mem_of_getElem? hq1)
          have t2 := hXm q2 (List.mem_of_getElem? hq2)
          have n1 : (A.map encQ)[((j : Int) + 1).toNat]? = some (encQ q1) := by rw [show ((j : Int) + 1).toNat = j + 1 by omega]; exact enc_at hq1
          have n2 : (X.map encQ)[((m : Int) + 1 - ((j : Int) + 1)).toNat]? = some (encQ q2) := by rw [show ((m : Int) + 1 - ((j : Int) + 1)).toNat = m - j by omega]; exact enc_at hq2
          have hx0 : (X.map encQ).length = m + 1 := by rw [List.length_map, hpl]
          have hsej := hse j
          rw [g1, g2] at hsej
          obtain ⟨dsg, -, -, hsg, csg⟩ := rsign_p (isV_encQ t1) (by omega)
          by_cases hq0' : q1 = 0
          · have hb4 : (!(dsg == 0)) = false := by rw [hsg.2 hq0']; rfl
            have e : S (j + 1) = S j := by rw [hsej, hq0', Rat.zero_mul, Rat.mul_zero, Rat.add_zero]
            clear hmsb hse hX hXm hhl hps hpln hd0
            refine goA ?_
            refine evG ggA (ss_index_sl (InB_of rfl) (elem_tab rfl) rfl rfl (by omega) n1 rfl) ?_
            refine goA ?_
            refine evG ggA (ss_call (InB_of rfl) rfl rfl csg) ?_
            refine goA ?_
            exact loopQ_intro (k := m + 1 - (j + 1)) (s' := mkS [(1, .v (.p (.int .i64 n))), (2, .ptr 2 0), (4, .ptr 4 0), (6, .v (.p (.int .i64 F))), (7, .own 31 (m + 1)), (8, .ptr 8 0), (10, .v (.p (.int .i64 ((m : Int) + 1)))), (11, .ptr 11 0), (12, .v (.p (.int .i64 ((j : Int) + 1 + 1))))] [(2, svar sa A), (4, var0), (8, qvar fi), (11, qvar (S j)), (31, .lst 4 56 (X.map encQ))] 133 true) (by omega) (by exact entA) ⟨j + 1, rfl, by omega, by rw [e]; rfl⟩
          · have hb4 : (!(dsg == 0)) = true := by
              have : ¬ dsg = 0 := fun e => hq0' (hsg.1 e)
              simp [this]
            have hjn : -300000 ≤ ((j : Int) + 1) * n ∧ ((j : Int) + 1) * n ≤ 300000 := by
              have h3 : (((j : Int) + 1) * n).natAbs ≤ 1100 * 200 := by
                rw [Int.natAbs_mul]
                exact Nat.mul_le_mul (by omega) (by omega)
              omega
            have cf1 := rof_p (((j : Int) + 1) * n - ((m : Int) + 1) + ((j : Int) + 1)) (by omega) (by omega)
            have tf1 : Ht ((((((j : Int) + 1) * n - ((m : Int) + 1) + ((j : Int) + 1)) : Int)) : Rat) 1 := ht_int (by omega)
            have c3 := rmul_p (isV_encQ t1) (by omega) (isV_encQ t2) (by omega)
            have c4 := rmul_p (isV_encQ tf1) (by omega) (isV_encQ (ht_mul t1 t2 hK.1)) (by omega)
            have c5 := radd_p (isV_encQ (hmsb j hj)) (by omega) (isV_encQ (ht_mul tf1 (ht_mul t1 t2 hK.1) (Nat.le_refl 1))) (by omega)
            have hsej : S (j + 1) = S j + (((((j : Int) + 1) * n - ((m : Int) + 1) + ((j : Int) + 1)) : Int) : Rat) * (q1 * q2) := hsej
            rw [← hsej] at c5
            generalize hNN : ((j : Int) + 1) * n = jn at *
            clear hmsb hse hX hXm hhl hps hpln hd0 hsej
            refine goA ?_
            refine evG ggA (ss_index_sl (InB_of rfl) (elem_tab rfl) rfl rfl (by omega) n1 rfl) ?_
            refine goA ?_
            refine evG ggA (ss_call (InB_of rfl) rfl rfl csg) ?_
            refine goA ?_
            rw [hNN]
            refine goA ?_
            refine evG ggA (ss_call (InB_of rfl) rfl rfl cf1) ?_
            refine goA ?_
            refine evG ggA (ss_index_sl (InB_of rfl) (elem_tab rfl) rfl rfl (by omega) n1 rfl) ?_
            refine goA ?_
            refine evG ggA (ss_index_own (InB_of rfl) (elem_tab rfl) rfl rfl hx0 rfl (by omega) (by omega)) ?_
            refine evG ggA (ss_load_opagg (InB_of rfl) (agg_tab rfl) rfl rfl hx0 n2) ?_
            refine evG ggA (ss_call (InB_of rfl) rfl rfl c3) ?_
            refine evG ggA (ss_call (InB_of rfl) rfl rfl c4) ?_
            refine evG ggA (ss_call (InB_of rfl) rfl rfl c5) ?_
            refine goA ?_
            exact loopQ_intro (k := m + 1 - (j + 1)) (s' := mkS [(1, .v (.p (.int .i64 n))), (2, .ptr 2 0), (4, .ptr 4 0), (6, .v (.p (.int .i64 F))), (7, .own 31 (m + 1)), (8, .ptr 8 0), (10, .v (.p (.int .i64 ((m : Int) + 1)))), (11, .ptr 11 0), (12, .v (.p (.int .i64 ((j : Int) + 1 + 1))))] [(2, svar sa A), (4, var0), (8, qvar fi), (11, qvar (S (j + 1))), (31, .lst 4 56 (X.map encQ))] 133 true) (by omega) (by exact entA) ⟨j + 1, rfl, by omega, rfl⟩
        · obtain rfl : j = m + 1 := by omega
          have hb3 : decide (((m + 1 : Nat) : Int) + 1 ≤ (m : Int) + 1) = false := by simp; omega
          clear hmsb hse hX hXm hhl hps hpln hd0
          refine goA ?_
          exact midQ_intro (by exact entA) rfl
      rintro _ rfl
      have htn := ht_n m (by omega)
      have cn := rof_p ((m : Int) + 1) (by omega) (by omega)
      have hSm := hmsb (m + 1) (Nat.le_refl _)
      have c6 := rmul_p (isV_encQ tfi) (by omega) (isV_encQ hSm) (by omega)
      have c7 := rquo_p (isV_encQ (ht_mul tfi hSm hK.1)) (by omega) (isV_encQ htn) (by omega) (by
        intro e
        have := Rat.intCast_eq_zero_iff.1 e
        omega)
      have hx0 : (X.map encQ).length = m + 1 := by rw [List.length_map, hpl]
      clear hmsb hse hX hXm hhl hps hpln hd0
      refine goA ?_
      refine evG ggA (ss_call (InB_of rfl) rfl rfl c6) ?_
      refine goA ?_
      refine evG ggA (ss_call (InB_of rfl) rfl rfl cn) ?_
      refine goA ?_
      refine evG ggA (ss_call (InB_of rfl) rfl rfl c7) ?_
      refine goA ?_
      (refine evG ggA (ss_bslice (InB_of rfl) (make_tab rfl) rfl rfl rfl rfl (one_ok rfl rfl) (Nat.le_of_ble_eq_true rfl)) ?_; refine evG ggA (ss_snoc (InB_of rfl) (make_tab rfl) rfl rfl (by first | rfl | assumption | (simp; done) | (simp; omega)) rfl (by omega) (Nat.le_of_ble_eq_true rfl) rfl) ?_)
      refine goA ?_
      exact loopQ_intro (k := R - (m + 1)) (s' := mkS [(1, .v (.p (.int .i64 n))), (2, .ptr 2 0), (4, .ptr 4 0), (6, .v (.p (.int .i64 F))), (7, .own 31 (m + 1 + 1)), (8, .ptr 8 0), (10, .v (.p (.int .i64 ((m : Int) + 1 + 1))))] [(2, svar sa A), (4, var0), (8, qvar fi), (31, .lst 4 56 ((X ++ [fi * S (m + 1) / (((m : Int) + 1 : Int) : Rat)]).map encQ))] 133 true) (by omega) (by exact entA) ⟨m + 1, rfl, hlt, by rw [hpm]; rfl⟩
    · obtain rfl : m = R := by omega
      have hb : decide ((m : Int) + 1 < min ((A.map encQ).length : Int) (1000 - F)) = false := by simp; omega
      refine goA ?_
      exact midQ_intro (s' := mkS [(4, .ptr 4 0), (6, .v (.p (.int .i64 F))), (7, .own 31 (m + 1))] [(4, var0), (31, .lst 4 56 ((P m).map encQ))] 133 true) (by exact entA) rfl
  rintro _ rfl
  have hl2 := hpln R
  have hXR := hX R (by omega)
  generalize P R = X at *
  have hbuild := build_p (s := F) (isL_enc hXR) (by omega) (by omega) (by omega) (by omega)
  rw [serE_T] at hbuild
  have hx0 : (X.map encQ).length = R + 1 := by rw [List.length_map, hl2]
  refine T.weak (s' := mkS [(4, .ptr 4 0), (6, .v (.p (.int .i64 F))), (7, .v (.sl (X.map encQ)))] [(4, var0)] 133 true) (by exact entA) ?_
  refine goA ?_
  refine evG ggA (ss_call (InB_of rfl) rfl rfl hbuild) ?_
  refine goA ?_
  exact rfl
theorem inv_nc' {A : List Rat} {N : Nat} (h0 : A.getD 0 0 ≠ 0) (k : Nat) (hk : k < N) : nc (fun j => A.getD j 0) (fun j => (ivs A N).getD j 0) k = one' k := by
  unfold nc
  rw [su_front]
  show A.getD 0 0 * (ivs A N).getD (k - 0) 0 + su (fun j => A.getD (j + 1) 0 * (ivs A N).getD (k - (j + 1)) 0) k = _
  rw [Nat.sub_zero, ivs_get A N k hk]
  have hc := Rat.mul_inv_cancel _ h0
  have h1 : A.getD 0 0 * (1 / A.getD 0 0) = 1 := by rw [Rat.div_def, Rat.one_mul]; exact hc
  unfold one'
  by_cases hk0 : k = 0
  · subst hk0
    rw [if_pos rfl, if_pos rfl, su, h1, Rat.add_zero]
  · rw [if_neg hk0, if_neg hk0]
    have e : iss A (ivs A k) k k = su (fun j => A.getD (j + 1) 0 * (ivs A N).getD (k - (j + 1)) 0) k := by
      have key : ∀ j, j ≤ k → iss A (ivs A k) k j = su (fun j => A.getD (j + 1) 0 * (ivs A N).getD (k - (j + 1)) 0) j := by
        intro j
        induction j with
        | zero => intro _; rfl
        | succ j ih =>
          intro hj
          rw [iss, su, ih (by omega), ivs_get A k _ (by omega), ivs_get A N _ (by omega)]
      exact key k (Nat.le_refl k)
    rw [← e]
    generalize iss A (ivs A k) k k = S at *
    generalize 1 / A.getD 0 0 = fi at *
    have : A.getD 0 0 * -(fi * S) = -((A.getD 0 0 * fi) * S) := by grind
    rw [this, h1]
    grind
def ubase (A : List Rat) (n : Int) : List Rat := if n < 0 then ivs A A.length else A
def sgi (n : Int) (i : Nat) : Int := if n < 0 then -(i : Int) else (i : Int)
theorem ubase_len (A : List Rat) (n : Int) : (ubase A n).length = A.length := by
 unfold ubase
 split
 ·exact ivs_len A A.length
 ·rfl
theorem pq0 (u : Nat → Rat) : ∀ i, pq u i 0 = rpw (u 0) i
  | 0 => rfl
  | i + 1 => by
    show nc (pq u i) u 0 = rpw (u 0) i * u 0
    unfold nc
    rw [su, su, Rat.zero_add, pq0 u i]
theorem rpw_bas (x : Rat) (n : Int) (i : Nat) : rpw (bas x (sgi n i)) (sgi n i).natAbs = rpw (bas x n) i := by
 unfold sgi
 by_cases hn : n < 0
 ·rw [if_pos hn]
  by_cases hi : i = 0
  ·subst hi; rfl
  ·have e1 : bas x (-(i : Int)) = bas x n := by unfold bas; rw [if_pos (by omega), if_pos hn]
   rw [e1]
   congr 1
   omega
 ·rw [if_neg hn]
  have e1 : bas x (i : Int) = bas x n := by unfold bas; rw [if_neg (by omega), if_neg hn]
  rw [e1]
  congr 1
theorem pow_eq {A : List Rat} (h0 : A.getD 0 0 ≠ 0) (hN : 0 < A.length) (n : Int) (i : Nat) : tk (pq (fun j => (ubase A n).getD j 0) i) A.length = powL A (sgi n i) (A.length - 1) := by
 have hu0 : (ubase A n).getD 0 0 = bas (A.getD 0 0) n := by
  unfold ubase bas
  split
  ·rw [ivs_get A _ 0 hN, if_pos rfl]
  ·rfl
 have hid : ∀ k, k < A.length → nc (fun j => A.getD j 0) (thq (pq (fun j => (ubase A n).getD j 0) i)) k = ((sgi n i : Int) : Rat) * nc (thq fun j => A.getD j 0) (pq (fun j => (ubase A n).getD j 0) i) k := by
  intro k hk
  by_cases hn : n < 0
  ·have e := pow_id (N := A.length) (a := fun j => A.getD j 0) (u := fun j => (ubase A n).getD j 0) (σ := -1) (fun k hk => by
    have hl := nc_leib (fun j => A.getD j 0) (fun j => (ubase A n).getD j 0) k
    have hz : thq (nc (fun j => A.getD j 0) (fun j => (ubase A n).getD j 0)) k = 0 := by
     unfold ubase
     rw [if_pos hn]
     have : thq (nc (fun j => A.getD j 0) (fun j => (ivs A A.length).getD j 0)) k = thq one' k := by
      unfold thq
      rw [inv_nc' h0 k hk]
     rw [this, thq_one]
    rw [hz] at hl
    grind) i k hk
   rw [e]
   unfold sgi
   rw [if_pos hn, Rat.intCast_neg]
   congr 1
   grind
  ·have e := pow_id (N := A.length) (a := fun j => A.getD j 0) (u := fun j => (ubase A n).getD j 0) (σ := 1) (fun k hk => by
    unfold ubase
    rw [if_neg hn, Rat.one_mul, nc_comm]) i k hk
   rw [e]
   unfold sgi
   rw [if_neg hn, Rat.one_mul]
 have key := mil_eq (A := A) (p := pq (fun j => (ubase A n).getD j 0) i) (n := sgi n i) (M := A.length - 1) h0 (fun k hk => hid k (by omega)) (A.length - 1) (Nat.le_refl _)
 rw [show A.length - 1 + 1 = A.length by omega, pq0] at key
 unfold powL
 rw [rpw_bas, ← hu0]
 exact key.symm
theorem tk_get' {f : Nat → Rat} {n i : Nat} (h : i < n) : ((List.range n).map f).getD i 0 = f i := by
 rw [List.getD_eq_getElem?_getD, List.getElem?_map, List.getElem?_range h]
 rfl
theorem conv_pq {U : List Rat} {N : Nat} (i : Nat) : tk (conv (tk (pq (fun j => U.getD j 0) i) N) U) N = tk (pq (fun j => U.getD j 0) (i + 1)) N := by
 unfold tk
 refine List.map_congr_left fun k hk => ?_
 have hk : k < N := by simpa using hk
 unfold conv
 rw [cs_su]
 show _ = nc (pq (fun j => U.getD j 0) i) (fun j => U.getD j 0) k
 unfold nc
 refine su_congr fun j hj => ?_
 rw [tk_get' (by omega)]
set_option maxHeartbeats 4000000 in
theorem times33_p {es fs : List AV} {A U : List Rat} {Q : Nat} (hA : IsL es Q A) (hU : IsL fs Q U) (hl : A.length = U.length) (hN14 : A.length ≤ 100) (hQ : 1 ≤ Q ∧ Q ≤ 1000000) : PC Tryz.prog 179 [.sl es, .sl fs] (.sl ((tk (conv A U) A.length).map encQ)) := by
 have hle := hA.get.1
 have hlf := hU.get.1
 have hha := isL_ht hA hQ.1
 have hhu := isL_ht hU hQ.1
 have hcs := ht_cs hQ.1 hha hhu
 generalize hN : A.length = N at *
 have cz := q_p 0 (by decide) (by decide)
 rw [show ((0 : Int) : Rat) = 0 from rfl] at cz
 have hcsb : ∀ k j, j ≤ 100 → Ht (cs A U k j) 240000000000 := fun k j hj => (hcs k j).mono (by
  have : (2 * Q + 1) * j ≤ (2 * Q + 1) * 100 := Nat.mul_le_mul_left _ hj
  omega)
 have hc0 : ∀ k, cs A U k 0 = 0 := fun k => rfl
 have hcn : ∀ k j, cs A U k (j + 1) = cs A U k j + A.getD j 0 * U.getD (k - j) 0 := fun k j => rfl
 have hcv : ∀ k, conv A U k = cs A U k (k + 1) := fun k => rfl
 generalize cs A U = CS at *
 generalize conv A U = CV at *
 refine pc_body1 true Tryz.func179 rfl rfl rfl (Nat.le_of_ble_eq_true rfl) CellT.tmp ?_
 refine r1A ?_
 refine T.seq ?_
 refine regA ?_
 refine runA ?_
 refine ev_nil ?_
 refine seqQ_n ?_
 refine T.seqI (fun s1 => s1 = mkS [(5, .own 100 N)] [(100, .lst 4 56 ((tk CV N).map encQ))] 39 true) ?_ ?_
 ·refine r1A ?_
  refine T.block ?_
  refine T.loop (fun z s1 => ∃ k : Nat, z = N - k ∧ k ≤ N ∧ s1 = mkS [(0, .v (.sl es)), (1, .v (.sl fs)), (5, .own 100 k), (6, .v (.p (.int .i64 (k : Nat))))] [(100, .lst 4 56 ((tk CV k).map encQ))] 39 true) N
   (s' := mkS [(0, .v (.sl es)), (1, .v (.sl fs)), (5, .own 100 0), (6, .v (.p (.int .i64 (0 : Nat))))] [(100, .lst 4 56 ((tk CV 0).map encQ))] 39 true) (by exact entA) ⟨0, rfl, Nat.zero_le _, rfl⟩ ?_
  rintro z _ ⟨k, rfl, hk, rfl⟩
  by_cases hlt : k < N
  ·have hb : decide ((k : Int) < (es.length : Int)) = true := by simp; omega
   have hcvk := hcv k
   refine T.seqI (fun s1 => s1 = mkS [(0, .v (.sl es)), (1, .v (.sl fs)), (5, .own 100 k), (6, .v (.p (.int .i64 (k : Nat))))] [(100, .lst 4 56 ((tk CV k).map encQ))] 39 true) ?_ ?_
   ·refine goA ?_
    exact midQ_intro (by exact entA) rfl
   rintro _ rfl
   refine T.seq ?_
   refine T.block ?_
   refine T.seqI (fun s1 => s1 = mkS [(0, .v (.sl es)), (1, .v (.sl fs)), (5, .own 100 k), (6, .v (.p (.int .i64 (k : Nat)))), (7, .ptr 7 0)] [(7, qvar (CS k 0)), (100, .lst 4 56 ((tk CV k).map encQ))] 39 true) ?_ ?_
   ·refine goA ?_
    refine evG ggA (ss_call (InB_of rfl) rfl rfl cz) ?_
    refine goA ?_
    exact midQ_intro (s' := mkS [(0, .v (.sl es)), (1, .v (.sl fs)), (5, .own 100 k), (6, .v (.p (.int .i64 (k : Nat)))), (7, .ptr 7 0)] [(7, qvar 0), (100, .lst 4 56 ((tk CV k).map encQ))] 39 true) (by exact entA) (by rw [hc0])
   rintro _ rfl
   refine T.seqI (fun s1 => s1 = mkS [(0, .v (.sl es)), (1, .v (.sl fs)), (5, .own 100 k), (6, .v (.p (.int .i64 (k : Nat)))), (7, .ptr 7 0)] [(7, qvar (CS k (k + 1))), (100, .lst 4 56 ((tk CV k).map encQ))] 39 true) ?_ ?_
   ·refine r1A ?_
    refine T.block ?_
    refine T.loop (fun z s1 => ∃ j : Nat, z = k + 1 - j ∧ j ≤ k + 1 ∧ s1 = mkS [(0, .v (.sl es)), (1, .v (.sl fs)), (5, .own 100 k), (6, .v (.p (.int .i64 (k : Nat)))), (7, .ptr 7 0), (8, .v (.p (.int .i64 (j : Nat))))] [(7, qvar (CS k j)), (100, .lst 4 56 ((tk CV k).map encQ))] 39 true) (k + 1)
     (s' := mkS [(0, .v (.sl es)), (1, .v (.sl fs)), (5, .own 100 k), (6, .v (.p (.int .i64 (k : Nat)))), (7, .ptr 7 0), (8, .v (.p (.int .i64 (0 : Nat))))] [(7, qvar (CS k 0)), (100, .lst 4 56 ((tk CV k).map encQ))] 39 true) (by exact entA) ⟨0, rfl, Nat.zero_le _, rfl⟩ ?_
    rintro z _ ⟨j, rfl, hj, rfl⟩
    by_cases hjm : j < k + 1
    ·have hb3 : decide ((j : Int) ≤ (k : Int)) = true := by simp; omega
     obtain ⟨y, ys, y', ys', q1, n0, hq1, v1⟩ := hA.at (i := j) (by omega)
     obtain ⟨w, ws, w', ws', q2, m0, hq2, v2⟩ := hU.at (i := k - j) (by omega)
     have g1 : A.getD j 0 = q1 := by rw [List.getD_eq_getElem?_getD, hq1]; rfl
     have g2 : U.getD (k - j) 0 = q2 := by rw [List.getD_eq_getElem?_getD, hq2]; rfl
     have n1 : es[((j : Nat) : Int).toNat]? = some (.agg [.p (.bool y), .sl ys, .p (.bool y'), .sl ys']) := by rw [Int.toNat_natCast]; exact n0
     have n2 : fs[((k : Int) - (j : Int)).toNat]? = some (.agg [.p (.bool w), .sl ws, .p (.bool w'), .sl ws']) := by rw [show ((k : Int) - (j : Int)).toNat = k - j by omega]; exact m0
     have t1 := hha q1 (List.mem_of_getElem? hq1)
     have t2 := hhu q2 (List.mem_of_getElem? hq2)
     have c3 : PC Tryz.prog 42 _ _ := (refmul2_p v1 v2 (by omega)).up
     have c4 : PC Tryz.prog 171 _ _ := (refadd2_p (isV_encQ (hcsb k j (by omega))) (isV_encQ (ht_mul t1 t2 hQ.1)) (by omega) (by omega) (by omega)).up
     rw [← g1, ← g2, ← hcn k j] at c4
     rw [g1, g2] at c4
     clear hcsb hcs hcn hcv hc0 hha hhu hA hU
     refine goA ?_
     refine evG ggA (ss_index_sl (InB_of rfl) (elem_tab rfl) rfl rfl (by omega) n1 rfl) ?_
     refine goA ?_
     refine evG ggA (ss_index_sl (InB_of rfl) (elem_tab rfl) rfl rfl (by omega) n2 rfl) ?_
     refine goA ?_
     refine evG ggA (ss_call (InB_of rfl) rfl rfl c3) ?_
     refine evG ggA (ss_call (InB_of rfl) rfl rfl c4) ?_
     refine goA ?_
     exact loopQ_intro (k := k + 1 - (j + 1)) (s' := mkS [(0, .v (.sl es)), (1, .v (.sl fs)), (5, .own 100 k), (6, .v (.p (.int .i64 (k : Nat)))), (7, .ptr 7 0), (8, .v (.p (.int .i64 ((j : Int) + 1))))] [(7, qvar (CS k (j + 1))), (100, .lst 4 56 ((tk CV k).map encQ))] 39 true) (by omega) (by exact entA) ⟨j + 1, rfl, by omega, rfl⟩
    ·obtain rfl : j = k + 1 := by omega
     have hb3 : decide (((k + 1 : Nat) : Int) ≤ (k : Int)) = false := by simp; omega
     clear hcsb hcs hcn hcv hc0 hha hhu hA hU
     refine goA ?_
     exact midQ_intro (by exact entA) rfl
   rintro _ rfl
   have hx1 : (tk CV k).length = k := tk_len _ _
   clear hcsb hcs hcn hcv hc0 hha hhu hA hU
   rw [← hcvk]
   refine goA ?_
   (refine evG ggA (ss_bslice (InB_of rfl) (make_tab rfl) rfl rfl rfl rfl (one_ok rfl rfl) (Nat.le_of_ble_eq_true rfl)) ?_; refine evG ggA (ss_snoc (InB_of rfl) (make_tab rfl) rfl rfl (by first | rfl | assumption | (simp; done) | (simp; omega)) rfl (by omega) (Nat.le_of_ble_eq_true rfl) rfl) ?_)
   refine goA ?_
   exact loopQ_intro (k := N - (k + 1)) (s' := mkS [(0, .v (.sl es)), (1, .v (.sl fs)), (5, .own 100 (k + 1)), (6, .v (.p (.int .i64 ((k : Int) + 1))))] [(100, .lst 4 56 ((tk CV k ++ [CV k]).map encQ))] 39 true) (by omega) (by exact entA) ⟨k + 1, rfl, hlt, by rw [tk_succ]; rfl⟩
  ·obtain rfl : k = N := by omega
   have hb : decide ((k : Int) < (es.length : Int)) = false := by simp; omega
   refine goA ?_
   exact midQ_intro (by exact entA) rfl
 rintro _ rfl
 have hx0 : ((tk CV N).map encQ).length = N := by rw [List.length_map, tk_len]
 refine T.weak (s' := mkS [(5, .v (.sl ((tk CV N).map encQ)))] [] 39 true) (by exact entA) ?_
 refine goA ?_
 exact rfl
theorem zerosZ_p (N : Nat) (hN : N ≤ 100000) : PCO Tryz.prog 120 [.p (.int .i64 N)] 4 56 ((tk (fun _ => 0) N).map encQ) := by
 have cz := q_p 0 (by decide) (by decide)
 rw [show ((0 : Int) : Rat) = 0 from rfl] at cz
 have hx0 : ((tk (fun _ => 0) N).map encQ).length = N := by rw [List.length_map, tk_len]
 refine pc_bodyO (t := 2) (id := 100) Tryz.func120 rfl rfl rfl (Nat.le_of_ble_eq_true rfl) ?_
 refine r1A ?_
 refine T.seq ?_
 refine regA ?_
 refine runA ?_
 refine ev_nil ?_
 refine seqQ_n ?_
 refine T.seqI (fun s1 => s1 = mkS [(3, .own 100 N)] [(100, .lst 4 56 ((tk (fun _ => 0) N).map encQ))] 15 true) ?_ ?_
 ·refine r1A ?_
  refine T.block ?_
  refine T.loop (fun n s1 => ∃ j : Nat, n = N - j ∧ j ≤ N ∧ s1 = mkS [(0, .v (.p (.int .i64 N))), (3, .own 100 j), (4, .v (.p (.int .i64 (j : Nat))))] [(100, .lst 4 56 ((tk (fun _ => 0) j).map encQ))] 15 true) N
   (s' := mkS [(0, .v (.p (.int .i64 N))), (3, .own 100 0), (4, .v (.p (.int .i64 (0 : Nat))))] [(100, .lst 4 56 ((tk (fun _ => 0) 0).map encQ))] 15 true) (by exact entA) ⟨0, rfl, Nat.zero_le _, rfl⟩ ?_
  rintro n _ ⟨j, rfl, hj, rfl⟩
  by_cases hlt : j < N
  ·have hb : decide ((j : Int) < (N : Int)) = true := by simp; omega
   refine goA ?_
   refine evG ggA (ss_call (InB_of rfl) rfl rfl cz) ?_
   (refine evG ggA (ss_bslice (InB_of rfl) (make_tab rfl) rfl rfl rfl rfl (one_ok rfl rfl) (Nat.le_of_ble_eq_true rfl)) ?_; refine evG ggA (ss_snoc (InB_of rfl) (make_tab rfl) rfl rfl (by first | rfl | assumption | (simp; done) | (simp; omega)) rfl (by omega) (Nat.le_of_ble_eq_true rfl) rfl) ?_)
   refine goA ?_
   exact loopQ_intro (k := N - (j + 1)) (s' := mkS [(0, .v (.p (.int .i64 N))), (3, .own 100 (j + 1)), (4, .v (.p (.int .i64 ((j : Int) + 1))))] [(100, .lst 4 56 ((tk (fun _ => 0) j ++ [0]).map encQ))] 15 true) (by omega) (by exact entA) ⟨j + 1, rfl, hlt, by rw [tk_succ]; rfl⟩
  ·obtain rfl : j = N := by omega
   have hb : decide ((j : Int) < (j : Int)) = false := by simp
   refine goA ?_
   exact midQ_intro (by exact entA) rfl
 rintro _ rfl
 refine goA ?_
 exact ⟨.inr rfl, rfl, by rw [hx0]; rfl, rfl⟩
theorem nrm_min (f : Int) : nrm (min f 1000) [] = nrm f [] := by
 by_cases h : f ≤ 1000
 ·rw [show min f 1000 = f by omega]
 ·rw [show min f 1000 = 1000 by omega, nrm_end (by omega), nrm_end (by omega)]
set_option maxHeartbeats 8000000 in
theorem rpow_p {s n : Int} {es : List AV} {l : List Rat} {K Q : Nat} (h : ValidP s es.length = true → IsL es K l ∧ l.length ≤ 100) (hle : es.length = l.length) (hr : InR s es.length) (hK : 1 ≤ K ∧ K ≤ 100) (hQ : 1 ≤ Q ∧ Q ≤ 1000000) (hnn : 0 ≤ n) (hKQ : K ≤ Q) (hn0 : -9223372036854775808 ≤ n) (hn1 : n ≤ 9223372036854775807)
    (hX : ValidP s es.length = true → -200 ≤ n → n ≤ 200 → ∀ i, i ≤ n.natAbs → ∀ q, q ∈ powL (l.drop (lead l)) (sgi n i) ((l.drop (lead l)).length - 1) → Ht q Q) : PC Tryz.prog 96 [serA s es, .p (.int .i64 n)] (serT (powT s l n)) := by
  have cch := check_p (es := es) hr.1 hr.2 hr.3
  unfold powT
  rw [← hle]
  cases h1 : ValidP s es.length with
  | false =>
    rw [h1] at cch
    refine pc_body2 true Tryz.func96 rfl rfl rfl (Nat.le_of_ble_eq_true rfl) (CellT.agg agg_ser) CellT.tmp ?_
    refine goA ?_
    refine evG ggA (ss_call (InB_of rfl) rfl rfl cch) ?_
    refine goA ?_
    exact rfl
  | true =>
  rw [h1] at cch
  by_cases a0 : -200 ≤ n
  case neg =>
    have e : (true && (decide (-200 ≤ n) && decide (n ≤ 200))) = false := by simp; omega
    have hb : decide (n < -200) = true := by simp; omega
    rw [e]
    refine pc_body2 true Tryz.func96 rfl rfl rfl (Nat.le_of_ble_eq_true rfl) (CellT.agg agg_ser) CellT.tmp ?_
    refine goA ?_
    refine evG ggA (ss_call (InB_of rfl) rfl rfl cch) ?_
    refine goA ?_
    exact rfl
  have hb0 : decide (n < -200) = false := by simp; omega
  by_cases a1 : n ≤ 200
  case neg =>
    have e : (true && (decide (-200 ≤ n) && decide (n ≤ 200))) = false := by simp; omega
    have hb : decide (n > 200) = true := by simp; omega
    rw [e]
    refine pc_body2 true Tryz.func96 rfl rfl rfl (Nat.le_of_ble_eq_true rfl) (CellT.agg agg_ser) CellT.tmp ?_
    refine goA ?_
    refine evG ggA (ss_call (InB_of rfl) rfl rfl cch) ?_
    refine goA ?_
    exact rfl
  have hb1 : decide (n > 200) = false := by simp; omega
  have e : (true && (decide (-200 ≤ n) && decide (n ≤ 200))) = true := by simp [a0, a1]
  rw [e]
  simp only [if_true]
  clear e
  obtain ⟨hL, hl14⟩ := h h1
  have hX := hX h1 a0 a1
  obtain ⟨v0, v1, v2⟩ := valid_iff.1 h1
  have co := rord_p hL (by omega) v0 v1 v2
  have cp := rprec_p v0 v1 v2
  have ck := known_p hL (by omega) v0 v1 v2
  have hla := lead_le l
  have hL2 := hL.drop (lead l)
  have hhl : ∀ q, q ∈ l.drop (lead l) → Ht q K := fun q hq => isL_ht hL hK.1 q (List.mem_of_mem_drop hq)
  have hld : (l.drop (lead l)).length + lead l = l.length := by rw [List.length_drop]; omega
  have hd0 : ∀ q, (l.drop (lead l))[0]? = some q → q ≠ 0 := fun q hq => lead_ne l q (by rw [List.getElem?_drop] at hq; exact hq)
  generalize es.drop (lead l) = gs at *
  generalize l.drop (lead l) = A at *
  generalize hsa : s + (lead l : Int) = sa at *
  have hSA : -100 ≤ sa ∧ sa ≤ 1000 := by omega
  have hns : -200000 ≤ n * sa ∧ n * sa ≤ 200000 := by
    have h3 : (n * sa).natAbs ≤ 200 * 1000 := by
      rw [Int.natAbs_mul]
      exact Nat.mul_le_mul (by omega) (by omega)
    omega
  by_cases hA : A = []
  · subst hA
    simp only [if_true]
    have hpe : s + (es.length : Int) = sa := by simp at hld; omega
    rw [hpe] at cp
    have hb2 : (sa == sa) = true := by simp
    by_cases hn : n < 0
    · have hb : decide (n < 0) = true := by simp [hn]
      rw [if_pos hn]
      refine pc_body2 true Tryz.func96 rfl rfl rfl (Nat.le_of_ble_eq_true rfl) (CellT.agg agg_ser) CellT.tmp ?_
      refine goA ?_
      refine evG ggA (ss_call (InB_of rfl) rfl rfl cch) ?_
      refine goA ?_
      refine evG ggA (ss_call (InB_of rfl) rfl rfl co) ?_
      refine goA ?_
      refine evG ggA (ss_call (InB_of rfl) rfl rfl cp) ?_
      refine goA ?_
      exact rfl
    · have hb : decide (n < 0) = false := by simp; omega
      rw [if_neg hn, ← nrm_min]
      have hbuild := result_p (s := min (n * sa) 1000) (es := []) (l := []) (K := 1) trivial (by omega) (by omega) (by omega) (by decide)
      rw [serE_T] at hbuild
      refine pc_body2 true Tryz.func96 rfl rfl rfl (Nat.le_of_ble_eq_true rfl) (CellT.agg agg_ser) CellT.tmp ?_
      refine goA ?_
      refine evG ggA (ss_call (InB_of rfl) rfl rfl cch) ?_
      refine goA ?_
      refine evG ggA (ss_call (InB_of rfl) rfl rfl co) ?_
      refine goA ?_
      refine evG ggA (ss_call (InB_of rfl) rfl rfl cp) ?_
      refine goA ?_
      refine evG ggA (ss_call (InB_of rfl) rfl rfl cp) ?_
      refine goA ?_
      refine evG ggA (ss_call (InB_of rfl) rfl rfl hbuild) ?_
      refine goA ?_
      exact rfl
  rw [if_neg hA]
  have hA0 : 0 < A.length := List.length_pos_iff.2 hA
  obtain ⟨q0, hq0⟩ : ∃ q, A[0]? = some q := ⟨_, List.getElem?_eq_getElem hA0⟩
  have g0 : A.getD 0 0 = q0 := by rw [List.getD_eq_getElem?_getD, hq0]; rfl
  have hne : A.getD 0 0 ≠ 0 := by rw [g0]; exact hd0 q0 hq0
  have hb2 : (sa == s + (es.length : Int)) = false := by simp; omega
  have hpw := fun i => pow_eq hne hA0 n i
  have hcv := fun i => conv_pq (U := ubase A n) (N := A.length) i
  have hul := ubase_len A n
  have hsgn : sgi n n.natAbs = n := by unfold sgi; split <;> omega
  have hXq : ∀ i, i ≤ n.natAbs → ∀ q, q ∈ tk (pq (fun j => (ubase A n).getD j 0) i) A.length → Ht q Q := fun i hi q hq => hX i hi q (by rw [← hpw i]; exact hq)
  have hfin : powL A n (A.length - 1) = tk (pq (fun j => (ubase A n).getD j 0) n.natAbs) A.length := by rw [hpw, hsgn]
  rw [hfin]
  have ci : n < 0 → PC Tryz.prog 178 [.sl gs] (.sl ((ubase A n).map encQ)) := fun hn => by
    unfold ubase
    rw [if_pos hn]
    omega
  have hUL : n < 0 → IsL ((ubase A n).map encQ) Q (ubase A n) := fun hn => by
    omega
  have hUA : ¬ n < 0 → ubase A n = A := fun hn => by unfold ubase; rw [if_neg hn]
  clear hpw hfin hX hhl hd0
  generalize hPP : (fun i => tk (pq (fun j => (ubase A n).getD j 0) i) A.length) = PP at *
  have hPj : ∀ i, tk (pq (fun j => (ubase A n).getD j 0) i) A.length = PP i := fun i => by rw [← hPP]
  have hPl : ∀ i, (PP i).length = A.length := fun i => by rw [← hPj, tk_len]
  have hP0 : PP 0 = 1 :: tk (fun _ => 0) (A.length - 1) := by
    rw [← hPj]
    obtain ⟨M, hM⟩ : ∃ M, A.length = M + 1 := ⟨A.length - 1, by omega⟩
    rw [hM]
    unfold tk
    rw [List.range_succ_eq_map, List.map_cons, List.map_map]
    show one' 0 :: _ = _
    congr 1
  simp only [hPj] at hXq hcv ⊢
  clear hPP hPj
  generalize ubase A n = U at *
  obtain ⟨N, hN⟩ : ∃ N, A.length = N + 1 := ⟨A.length - 1, by omega⟩
  rw [hN] at hcv hul hPl hP0
  simp only [Nat.add_sub_cancel] at hP0
  have hgl := hL2.get.1
  rw [hN] at hgl
  have c1 := q_p 1 (by decide) (by decide)
  rw [show ((1 : Int) : Rat) = 1 from rfl] at c1
  have cze := zerosZ_p (N + 1) (by omega)
  have hset : ((tk (fun _ => (0 : Rat)) (N + 1)).map encQ).set 0 (encQ 1) = (PP 0).map encQ := by
    rw [hP0]
    unfold tk
    rw [List.range_succ_eq_map, List.map_cons, List.map_map]
    rfl
  have hzl : ((tk (fun _ => (0 : Rat)) (N + 1)).map encQ).length = N + 1 := by rw [List.length_map, tk_len]
  have hp0l : ((PP 0).map encQ).length = N + 1 := by rw [List.length_map, hPl]
  refine pc_body2 true Tryz.func96 rfl rfl rfl (Nat.le_of_ble_eq_true rfl) (CellT.agg agg_ser) CellT.tmp ?_
  refine r1A ?_
  refine T.seqI (fun s1 => s1 = mkS [(1, .v (.p (.int .i64 n))), (2, .ptr 2 0), (4, .ptr 4 0)] [(2, .var [.v (.p (.int .i64 s)), .v (.sl es)]), (4, var0)] 70 true) ?_ ?_
  · refine goA ?_
    refine evG ggA (ss_call (InB_of rfl) rfl rfl cch) ?_
    refine goA ?_
    exact midQ_intro (by exact entA) rfl
  rintro _ rfl
  refine T.seqI (fun s1 => s1 = mkS [(1, .v (.p (.int .i64 n))), (2, .ptr 2 0), (4, .ptr 4 0)] [(2, .var [.v (.p (.int .i64 s)), .v (.sl es)]), (4, var0)] 70 true) ?_ ?_
  · refine goA ?_
    exact midQ_intro (by exact entA) rfl
  rintro _ rfl
  refine T.seqI (fun s1 => s1 = mkS [(1, .v (.p (.int .i64 n))), (2, .ptr 2 0), (4, .ptr 4 0)] [(2, .var [.v (.p (.int .i64 s)), .v (.sl es)]), (4, var0)] 70 true) ?_ ?_
  · refine goA ?_
    refine evG ggA (ss_call (InB_of rfl) rfl rfl co) ?_
    refine goA ?_
    refine evG ggA (ss_call (InB_of rfl) rfl rfl cp) ?_
    refine goA ?_
    exact midQ_intro (by exact entA) rfl
  rintro _ rfl
  refine T.seqI (fun s1 => s1 = mkS [(1, .v (.p (.int .i64 n))), (2, .ptr 2 0), (4, .ptr 4 0), (7, .v (.sl gs))] [(2, .var [.v (.p (.int .i64 s)), .v (.sl es)]), (4, var0)] 70 true) ?_ ?_
  · refine goA ?_
    refine evG ggA (ss_call (InB_of rfl) rfl rfl ck) ?_
    refine goA ?_
    exact midQ_intro (by exact entA) rfl
  rintro _ rfl
  refine T.seqI (fun s1 => ∃ us, IsL us Q U ∧ s1 = mkS [(1, .v (.p (.int .i64 n))), (2, .ptr 2 0), (4, .ptr 4 0), (7, .v (.sl us))] [(2, .var [.v (.p (.int .i64 s)), .v (.sl es)]), (4, var0)] 70 true) ?_ ?_
  · by_cases hn : n < 0
    · have hb : decide (n < 0) = true := by simp [hn]
      have ci := ci hn
      have hUL := hUL hn
      generalize U.map encQ = us at *
      refine goA ?_
      refine evG ggA (ss_call (InB_of rfl) rfl rfl ci) ?_
      refine goA ?_
      exact midQ_intro (s' := mkS [(1, .v (.p (.int .i64 n))), (2, .ptr 2 0), (4, .ptr 4 0), (7, .v (.sl us))] [(2, .var [.v (.p (.int .i64 s)), .v (.sl es)]), (4, var0)] 70 true) (by exact entA) ⟨_, hUL, rfl⟩
    · have hb : decide (n < 0) = false := by simp; omega
      refine goA ?_
      exact midQ_intro (s' := mkS [(1, .v (.p (.int .i64 n))), (2, .ptr 2 0), (4, .ptr 4 0), (7, .v (.sl gs))] [(2, .var [.v (.p (.int .i64 s)), .v (.sl es)]), (4, var0)] 70 true) (by exact entA) ⟨gs, by rw [hUA hn]; exact hL2.mono (by omega), rfl⟩
  rintro _ ⟨us, hus, rfl⟩
  have hul2 : us.length = N + 1 := by rw [hus.get.1, hul]
  have hze : (us.length : Int) = ((N + 1 : Nat) : Int) := by rw [hul2]
  rw [← hze] at cze
  refine T.seqI (fun s1 => s1 = mkS [(1, .v (.p (.int .i64 n))), (2, .ptr 2 0), (4, .ptr 4 0), (7, .v (.sl us)), (8, .own 30 (N + 1))] [(2, .var [.v (.p (.int .i64 s)), .v (.sl es)]), (4, var0), (30, .lst 4 56 ((tk (fun _ => (0 : Rat)) (N + 1)).map encQ))] 70 true) ?_ ?_
  · refine T.regionO 2 ?_
    show EvL _ _ _ (_ :: _) _ _
    refine runA ?_
    refine ev_nil ?_
    refine ocall 30 cze rfl rfl rfl rfl ?_
    refine runA ?_
    refine ev_nil ?_
    exact midQ_intro (s' := mkS [(1, .v (.p (.int .i64 n))), (2, .ptr 2 0), (4, .ptr 4 0), (7, .v (.sl us)), (8, .own 30 ((tk (fun _ => (0 : Rat)) (N + 1)).map encQ).length)] [(2, .var [.v (.p (.int .i64 s)), .v (.sl es)]), (4, var0), (30, .lst 4 56 ((tk (fun _ => (0 : Rat)) (N + 1)).map encQ))] 70 true) (by exact entA) (by rw [hzl])
  rintro _ rfl
  refine T.seqI (fun s1 => s1 = mkS [(1, .v (.p (.int .i64 n))), (2, .ptr 2 0), (4, .ptr 4 0), (7, .v (.sl us)), (8, .own 30 (N + 1))] [(2, .var [.v (.p (.int .i64 s)), .v (.sl es)]), (4, var0), (30, .lst 4 56 ((PP 0).map encQ))] 70 true) ?_ ?_
  · refine goA ?_
    refine evG ggA (ss_call (InB_of rfl) rfl rfl c1) ?_
    refine evG ggA (ss_index_own (InB_of rfl) (elem_tab rfl) rfl rfl hzl rfl (by omega) (by omega)) ?_
    refine evG ggA (ss_store_own rfl (size_tab rfl) rfl rfl hzl (Nat.succ_pos N) rfl rfl (fun l e => by cases e) (List.all_eq_true.2 (encQ_nu _))) ?_
    refine goA ?_
    exact midQ_intro (s' := mkS [(1, .v (.p (.int .i64 n))), (2, .ptr 2 0), (4, .ptr 4 0), (7, .v (.sl us)), (8, .own 30 (N + 1))] [(2, .var [.v (.p (.int .i64 s)), .v (.sl es)]), (4, var0), (30, .lst 4 56 (((tk (fun _ => (0 : Rat)) (N + 1)).map encQ).set 0 (encQ 1)))] 70 true) (by exact entA) (by rw [hset])
  rintro _ rfl
  refine T.weak (s' := mkS [(1, .v (.p (.int .i64 n))), (2, .ptr 2 0), (4, .ptr 4 0), (7, .v (.sl us)), (8, .v (.sl ((PP 0).map encQ)))] [(2, .var [.v (.p (.int .i64 s)), .v (.sl es)]), (4, var0)] 70 true) (by exact entA) ?_
  obtain ⟨E, hE⟩ : ∃ E, E = n.natAbs := ⟨_, rfl⟩
  rw [← hE] at hXq ⊢
  have hEm : max n (0 - n) = (E : Int) := by omega
  clear ci hUL hUA hP0 hset cze
  refine T.seqI (fun s1 => s1 = mkS [(1, .v (.p (.int .i64 n))), (2, .ptr 2 0), (4, .ptr 4 0), (8, .v (.sl ((PP E).map encQ)))] [(2, .var [.v (.p (.int .i64 s)), .v (.sl es)]), (4, var0)] 70 true) ?_ ?_
  · refine r1A ?_
    refine T.block ?_
    refine T.loop (fun z s1 => ∃ i : Nat, z = E - i ∧ i ≤ E ∧ s1 = mkS [(1, .v (.p (.int .i64 n))), (2, .ptr 2 0), (4, .ptr 4 0), (7, .v (.sl us)), (8, .v (.sl ((PP i).map encQ))), (9, .v (.p (.int .i64 (i : Nat))))] [(2, .var [.v (.p (.int .i64 s)), .v (.sl es)]), (4, var0)] 70 true) E
      (s' := mkS [(1, .v (.p (.int .i64 n))), (2, .ptr 2 0), (4, .ptr 4 0), (7, .v (.sl us)), (8, .v (.sl ((PP 0).map encQ))), (9, .v (.p (.int .i64 (0 : Nat))))] [(2, .var [.v (.p (.int .i64 s)), .v (.sl es)]), (4, var0)] 70 true) (by exact entA) ⟨0, rfl, Nat.zero_le _, rfl⟩ ?_
    rintro z _ ⟨i, rfl, hi, rfl⟩
    by_cases hlt : i < E
    · have hb : decide ((i : Int) < max n (0 - n)) = true := by rw [hEm]; simp; omega
      have ct := times33_p (isL_enc (hXq i (by omega))) hus (by rw [hPl, hul]) (by rw [hPl]; omega) hQ
      rw [hPl, hcv i] at ct
      clear hXq hcv hPl
      refine goA ?_
      refine evG ggA (ss_call (InB_of rfl) rfl rfl ct) ?_
      refine goA ?_
      exact loopQ_intro (k := E - (i + 1)) (s' := mkS [(1, .v (.p (.int .i64 n))), (2, .ptr 2 0), (4, .ptr 4 0), (7, .v (.sl us)), (8, .v (.sl ((PP (i + 1)).map encQ))), (9, .v (.p (.int .i64 ((i : Int) + 1))))] [(2, .var [.v (.p (.int .i64 s)), .v (.sl es)]), (4, var0)] 70 true) (by omega) (by exact entA) ⟨i + 1, rfl, hlt, rfl⟩
    · obtain rfl : i = E := by omega
      have hb : decide ((i : Int) < max n (0 - n)) = false := by rw [hEm]; simp
      refine goA ?_
      exact midQ_intro (s' := mkS [(1, .v (.p (.int .i64 n))), (2, .ptr 2 0), (4, .ptr 4 0), (8, .v (.sl ((PP i).map encQ)))] [(2, .var [.v (.p (.int .i64 s)), .v (.sl es)]), (4, var0)] 70 true) (by exact entA) rfl
  rintro _ rfl
  have hXE := hXq E (Nat.le_refl E)
  have hlE := hPl E
  generalize PP E = X at *
  generalize hF : n * sa = F at *
  have hbuild := result_p (s := F) (isL_enc hXE) (by omega) (by omega) (by omega) (by omega)
  rw [serE_T] at hbuild
  refine goA ?_
  refine evG ggA (ss_call (InB_of rfl) rfl rfl co) ?_
  refine goA ?_
  rw [hF]
  refine goA ?_
  refine evG ggA (ss_call (InB_of rfl) rfl rfl hbuild) ?_
  refine goA ?_
  exact rfl
end Ab
