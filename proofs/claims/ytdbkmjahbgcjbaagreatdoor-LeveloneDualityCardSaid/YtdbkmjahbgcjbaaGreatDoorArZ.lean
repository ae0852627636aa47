import Derived.Test.YtdbkmjahbgcjbaaGreatDoorArY
set_option linter.all false
namespace Ab
open Go Go.RowKit Go.Proofs Kr
set_option maxRecDepth 100000
theorem rmod_p {x m : Int} (hm : 0 < m) (hm2 : m ≤ 1000000000000) : PC Tryz.prog 260 [iV x, iV m] (iV (x % m)) := by
 rw [emod_t hm]
 have h3 := tmod_lt (a := x) (b := m) (by omega)
 refine pc_body1 true Tryz.func260 rfl rfl rfl (Nat.le_of_ble_eq_true rfl) CellT.tmp ?_
 refine goA ?_
 refine evG ggA (ss_div (op := .rem) (InB_of rfl) rfl rfl (by omega) rfl) ?_
 refine runA ?_
 by_cases h : x.tmod m < 0
 ·have k : decide (x.tmod m < 0) = true := by simpa using h
  rw [if_pos h]
  refine goA ?_
  exact rfl
 ·have k : decide (x.tmod m < 0) = false := by simpa using h
  rw [if_neg h]
  refine goA ?_
  exact rfl
theorem rtwo_p (a : Int) : PC Tryz.prog 246 [iV a] (iV (two a)) := by
 have cm := rmod_p (x := a) (m := 8) (by decide) (by decide)
 unfold two
 refine pc_body1 true Tryz.func246 rfl rfl rfl (Nat.le_of_ble_eq_true rfl) CellT.tmp ?_
 refine goA ?_
 refine evG ggA (ss_call (InB_of rfl) rfl rfl cm) ?_
 by_cases h1 : a % 8 = 1
 ·have k1 : (a % 8 == 1) = true := by simpa using h1
  rw [if_pos (.inl h1)]
  refine goA ?_
  exact rfl
 have k1 : (a % 8 == 1) = false := by simpa using h1
 by_cases h2 : a % 8 = 7
 ·have k2 : (a % 8 == 7) = true := by simpa using h2
  rw [if_pos (.inr h2)]
  refine goA ?_
  exact rfl
 have k2 : (a % 8 == 7) = false := by simpa using h2
 rw [if_neg (by omega)]
 by_cases h3 : a % 8 = 3
 ·have k3 : (a % 8 == 3) = true := by simpa using h3
  rw [if_pos (.inl h3)]
  refine goA ?_
  exact rfl
 have k3 : (a % 8 == 3) = false := by simpa using h3
 by_cases h4 : a % 8 = 5
 ·have k4 : (a % 8 == 5) = true := by simpa using h4
  rw [if_pos (.inr h4)]
  refine goA ?_
  exact rfl
 have k4 : (a % 8 == 5) = false := by simpa using h4
 rw [if_neg (by omega)]
 refine goA ?_
 exact rfl
theorem pow_half (x n m : Nat) (o : Nat) (ho : n % 2 = 1) : o * x ^ n % m = (o * x % m) * (x * x % m) ^ (n / 2) % m := by
 have e : n = 2 * (n / 2) + 1 := by omega
 have e2 : x ^ n = x * (x * x) ^ (n / 2) := by
  conv => lhs; rw [e]
  rw [Nat.pow_succ, Nat.pow_mul, Nat.mul_comm, show x ^ 2 = x * x from by rw [Nat.pow_succ, Nat.pow_one]]
 rw [e2, ← Nat.mul_assoc, Nat.mul_mod (o * x), Nat.pow_mod (x * x), ← Nat.mul_mod, Nat.mul_mod (o * x % m), Nat.mod_mod, ← Nat.mul_mod]
theorem pow_half0 (x n m : Nat) (o : Nat) (ho : n % 2 = 0) : o * x ^ n % m = o * (x * x % m) ^ (n / 2) % m := by
 have e : n = 2 * (n / 2) := by omega
 have e2 : x ^ n = (x * x) ^ (n / 2) := by
  conv => lhs; rw [e]
  rw [Nat.pow_mul, show x ^ 2 = x * x from by rw [Nat.pow_succ, Nat.pow_one]]
 rw [e2, Nat.mul_mod, Nat.pow_mod (x * x), ← Nat.mul_mod]
set_option maxHeartbeats 1000000 in
theorem rpower_p {a : Int} {n m : Nat} (hm : 1 ≤ m) (hm2 : m ≤ 2147483648) (hn : n ≤ 2147483648) : PC Tryz.prog 247 [iV a, iV n, iV m] (iV (((a % (m : Int)).toNat ^ n % m : Nat) : Int)) := by
  have cm := rmod_p (x := a) (m := (m : Int)) (by omega) (by omega)
  have hx : a % (m : Int) = (((a % (m : Int)).toNat : Nat) : Int) := (Int.toNat_of_nonneg (Int.emod_nonneg _ (by omega))).symm
  have hx2 : (a % (m : Int)).toNat < m := by have := Int.emod_lt_of_pos a (show (0 : Int) < m by omega); omega
  rw [hx] at cm
  generalize (a % (m : Int)).toNat = X at *
  refine pc_body1 true Tryz.func247 rfl rfl rfl (Nat.le_of_ble_eq_true rfl) CellT.tmp ?_
  refine goA ?_
  refine evG ggA (ss_div (op := .rem) (InB_of rfl) rfl rfl (by omega) rfl) ?_
  refine goA ?_
  refine evG ggA (ss_call (InB_of rfl) rfl rfl cm) ?_
  refine goA ?_
  generalize hR : X ^ n % m = R
  have e1 : (1 : Int).tmod (m : Int) = ((1 % m : Nat) : Int) := rfl
  rw [e1]
  refine T.loop (fun k s1 => ∃ o x n : Nat, o < m ∧ x < m ∧ o * x ^ n % m = R ∧ n < 2 ^ k ∧ n ≤ 2147483648 ∧ s1 = mkS [(1, .v (iV n)), (2, .v (iV m)), (7, .v (iV o)), (8, .v (iV x))] [] 32 true) 32
    (s' := mkS [(1, .v (iV n)), (2, .v (iV m)), (7, .v (iV ((1 % m : Nat) : Int))), (8, .v (iV X))] [] 32 true) (by exact entA) ⟨1 % m, X, n, Nat.mod_lt _ hm, hx2, by rw [Nat.mod_mul_mod, Nat.one_mul]; exact hR, by omega, hn, rfl⟩ ?_
  clear hR hx2 cm hx hn
  rintro k _ ⟨o, x, n, ho, hx, hR, hk, hn, rfl⟩
  have h1 : o * x ≤ 2147483648 * 2147483648 := Nat.mul_le_mul (by omega) (by omega)
  have h2 : x * x ≤ 2147483648 * 2147483648 := Nat.mul_le_mul (by omega) (by omega)
  have e1 : (o : Int) * x = ((o * x : Nat) : Int) := (Int.natCast_mul _ _).symm
  have e2 : (x : Int) * x = ((x * x : Nat) : Int) := (Int.natCast_mul _ _).symm
  cases k with
  | zero =>
    have : n = 0 := by simp at hk; omega
    subst this
    have k1 : decide (((0 : Nat) : Int) > 0) = false := rfl
    rw [Nat.pow_zero, Nat.mul_one, Nat.mod_eq_of_lt ho] at hR
    subst hR
    refine goA ?_
    exact rfl
  | succ k =>
    by_cases c : n = 0
    · subst c
      have k1 : decide (((0 : Nat) : Int) > 0) = false := rfl
      rw [Nat.pow_zero, Nat.mul_one, Nat.mod_eq_of_lt ho] at hR
      subst hR
      refine goA ?_
      exact rfl
    · have k1 : decide ((n : Int) > 0) = true := decide_eq_true (by omega)
      have e4 : (n : Int).tdiv 2 = ((n / 2 : Nat) : Int) := rfl
      have hk2 : n / 2 < 2 ^ k := by
        have h5 : 2 ^ (k + 1) = 2 ^ k * 2 := Nat.pow_succ ..
        omega
      by_cases c2 : n % 2 = 1
      · have k2 : ((n : Int).tmod 2 == 1) = true := by show (((n % 2 : Nat) : Int) == 1) = true; rw [c2]; rfl
        refine goA ?_
        refine evG ggA (ss_div (op := .rem) (InB_of rfl) rfl rfl (by omega) rfl) ?_
        refine goA ?_
        refine evG ggA (ss_div (op := .rem) (InB_of rfl) rfl rfl (by omega) rfl) ?_
        refine goA ?_
        refine evG ggA (ss_div (op := .rem) (InB_of rfl) rfl rfl (by omega) rfl) ?_
        refine goA ?_
        refine evG ggA (ss_div (InB_of rfl) rfl rfl (by omega) (w64 (by omega) (by omega))) ?_
        refine goA ?_
        exact loopQ_intro (k := k) (s' := mkS [(1, .v (iV ((n / 2 : Nat) : Int))), (2, .v (iV m)), (7, .v (iV ((o * x % m : Nat) : Int))), (8, .v (iV ((x * x % m : Nat) : Int)))] [] 32 true) (by omega) (by exact entA) ⟨_, _, _, Nat.mod_lt _ hm, Nat.mod_lt _ hm, by rw [← pow_half x n m o c2]; exact hR, hk2, by omega, rfl⟩
      · have k2 : ((n : Int).tmod 2 == 1) = false := by show (((n % 2 : Nat) : Int) == 1) = false; simp; omega
        refine goA ?_
        refine evG ggA (ss_div (op := .rem) (InB_of rfl) rfl rfl (by omega) rfl) ?_
        refine goA ?_
        refine evG ggA (ss_div (op := .rem) (InB_of rfl) rfl rfl (by omega) rfl) ?_
        refine goA ?_
        refine evG ggA (ss_div (InB_of rfl) rfl rfl (by omega) (w64 (by omega) (by omega))) ?_
        refine goA ?_
        exact loopQ_intro (k := k) (s' := mkS [(1, .v (iV ((n / 2 : Nat) : Int))), (2, .v (iV m)), (7, .v (iV o)), (8, .v (iV ((x * x % m : Nat) : Int)))] [] 32 true) (by omega) (by exact entA) ⟨_, _, _, ho, Nat.mod_lt _ hm, by rw [← pow_half0 x n m o (by omega)]; exact hR, hk2, by omega, rfl⟩
end Ab
namespace Ab
open Go Go.RowKit Go.Proofs Kr
set_option maxRecDepth 100000
theorem prc_leg : ∀ (l : List (Nat × Nat)) (a : Int) (m c : Nat), facOK l m = true → 0 < m → prc l (a % (m : Int)).toNat c < 3 → ∀ q, q ∈ l → leg a q.1 = 0 ∨ leg a q.1 = 1 ∨ leg a q.1 = -1
  | [], a, m, c, _, _, _, q, hq => by cases hq
  | (p, e) :: l, a, m, c, h, hm, hr, q, hq => by
    unfold facOK at h
    rw [List.all_cons, Bool.and_eq_true, Bool.and_eq_true] at h
    obtain ⟨⟨h1, h2⟩, h3⟩ := h
    have h1 := Nat.le_of_ble_eq_true h1
    have h2 := Nat.eq_of_beq_eq_true h2
    simp only at h1 h2
    have e0 : (a % (m : Int)).toNat % p = (a % (p : Int)).toNat := by
      have q1 : ((a % (m : Int)).toNat : Int) = a % (m : Int) := Int.toNat_of_nonneg (Int.emod_nonneg _ (by omega))
      have q2 : ((a % (p : Int)).toNat : Int) = a % (p : Int) := Int.toNat_of_nonneg (Int.emod_nonneg _ (by omega))
      have q3 : (((a % (m : Int)).toNat % p : Nat) : Int) = a % (p : Int) := by
        rw [Int.natCast_emod, q1]
        exact Int.emod_emod_of_dvd a (Int.natCast_dvd_natCast.2 (Nat.dvd_of_mod_eq_zero h2))
      omega
    unfold prc at hr
    rw [e0] at hr
    cases hx : Nat.ble (legc (a % (p : Int)).toNat p) 2 with
    | false => rw [hx] at hr; simp at hr
    | true =>
      rw [hx] at hr
      simp only [cond_true] at hr
      rcases List.mem_cons.1 hq with rfl | hq
      · have hx := Nat.le_of_ble_eq_true hx
        show leg a p = 0 ∨ leg a p = 1 ∨ leg a p = -1
        unfold leg
        rw [if_neg (by omega)]
        unfold legc at hx
        cases hb : Nat.beq ((a % (p : Int)).toNat ^ ((p - 1) / 2) % p) (p - 1) with
        | true => rw [if_pos (show pw a p = p - 1 from Nat.eq_of_beq_eq_true hb)]; simp
        | false =>
          rw [hb] at hx
          simp only [cond_false] at hx
          have hle : (a % (p : Int)).toNat ^ ((p - 1) / 2) % p ≤ 1 := by
            cases hb2 : Nat.ble ((a % (p : Int)).toNat ^ ((p - 1) / 2) % p) 1 with
            | true => exact Nat.le_of_ble_eq_true hb2
            | false => rw [hb2] at hx; simp at hx
          have hle : pw a p ≤ 1 := hle
          split
          · simp
          · omega
      · exact prc_leg l a m _ h3 hm hr q hq
def smallOK (n : Nat) : Bool := (facB 40 2 n).all (fun p => Nat.ble 2 p.1 && Nat.ble p.1 1100 && Nat.ble p.2 63) && Nat.ble (facB 40 2 n).length 63
theorem small_all : allB 1100 smallOK = true := by decide +kernel
theorem small_at {n : Nat} (h : n < 1100) : (facB 40 2 n).length ≤ 63 ∧ ∀ q, q ∈ facB 40 2 n → 2 ≤ q.1 ∧ q.1 ≤ 1100 ∧ q.2 ≤ 63 := by
 have h1 := allB_at (f := smallOK) small_all h
 unfold smallOK at h1
 rw [Bool.and_eq_true] at h1
 refine ⟨Nat.le_of_ble_eq_true h1.2, fun q hq => ?_⟩
 have := List.all_eq_true.1 h1.1 q hq
 simp only [Bool.and_eq_true] at this
 exact ⟨Nat.le_of_ble_eq_true this.1.1, Nat.le_of_ble_eq_true this.1.2, Nat.le_of_ble_eq_true this.2⟩
theorem leg_at {n : Nat} (h0 : 0 < n) (h : n < 1000) (a : Int) : ∀ q, q ∈ facB 40 2 n → leg a q.1 = 0 ∨ leg a q.1 = 1 ∨ leg a q.1 = -1 := by
  obtain ⟨h1, h2, h3, h4⟩ := split h0 (by omega)
  have hlt : n >>> tz n < 1000 := by rw [Nat.shiftRight_eq_div_pow]; exact Nat.lt_of_le_of_lt (Nat.div_le_self _ _) h
  generalize n >>> tz n = m at *
  have hj := (jac_eq h3 hlt h4 a).1
  have hc := ck (m / 2) (by omega)
  rw [show 1 + 2 * (m / 2) = m by omega] at hc
  have hl : (a % (m : Int)).toNat < m := by
    have := Int.emod_lt_of_pos a (show (0 : Int) < (m : Int) by omega)
    omega
  rw [chkM_at hc hl] at hj
  have hm := prc_leg _ a _ 1 h4 (by omega) hj
  intro q hq
  rw [h1] at hq
  cases hz : Nat.beq (tz n) 0 with
  | true => rw [hz] at hq; exact hm q hq
  | false =>
    rw [hz] at hq
    rcases List.mem_cons.1 hq with rfl | hq
    · show leg a 2 = 0 ∨ leg a 2 = 1 ∨ leg a 2 = -1
      have : leg a 2 = two a := rfl
      rw [this]
      unfold two
      split
      · simp
      · split <;> simp
    · exact hm q hq
set_option maxHeartbeats 4000000 in
theorem rkronecker_p {a n : Int} (ha : Bn 4000000000000000000 a) (hn : n.natAbs < 1000) : PC Tryz.prog 221 [iV a, iV n] (iV (kron a n)) := by
  unfold kron
  unfold Bn at ha
  refine pc_body1 true Tryz.func221 rfl rfl rfl (Nat.le_of_ble_eq_true rfl) CellT.tmp ?_
  by_cases h0 : n = 0
  · subst h0
    rw [if_pos rfl]
    have k0 : ((0 : Int) == 0) = true := rfl
    by_cases h1 : a = 1
    · subst h1
      have k1 : ((1 : Int) == 1) = true := rfl
      rw [if_pos (.inl rfl)]
      refine goA ?_
      exact rfl
    · have k1 : (a == 1) = false := by simpa using h1
      by_cases h2 : a = -1
      · subst h2
        have k2 : ((-1 : Int) == -1) = true := rfl
        rw [if_pos (.inr rfl)]
        refine goA ?_
        exact rfl
      · have k2 : (a == -1) = false := by simpa using h2
        rw [if_neg (by omega)]
        refine goA ?_
        exact rfl
  · rw [if_neg h0]
    have k0 : (n == 0) = false := by simpa using h0
    have ho : (if n < 0 ∧ a < 0 then (-1 : Int) else 1) = 1 ∨ (if n < 0 ∧ a < 0 then (-1 : Int) else 1) = -1 := by split <;> simp
    obtain ⟨-, hok, -, -⟩ := split (n := n.natAbs) (by omega) (by omega)
    obtain ⟨s1, s2⟩ := small_at (n := n.natAbs) (by omega)
    have hleg := leg_at (n := n.natAbs) (by omega) hn a
    have cf := rfactor_p hok (by omega) (by omega)
    refine goA ?_
    refine T.cutI (fun s1 => s1 = mkS [(0, .v (iV a)), (1, .v (iV ((n.natAbs : Nat) : Int))), (5, .v (iV (if n < 0 ∧ a < 0 then (-1 : Int) else 1)))] [] 65 true) ?_ ?_
    · by_cases c : n < 0
      · have k1 : decide (n < 0) = true := by simpa using c
        have e : 0 - n = ((n.natAbs : Nat) : Int) := by omega
        by_cases d : a < 0
        · have k2 : decide (a < 0) = true := by simpa using d
          rw [if_pos ⟨c, d⟩, ← e]
          refine goA ?_
          exact midQ_intro (by exact entA) rfl
        · have k2 : decide (a < 0) = false := by simpa using d
          rw [if_neg (fun h => d h.2), ← e]
          refine goA ?_
          exact midQ_intro (by exact entA) rfl
      · have k1 : decide (n < 0) = false := by simpa using c
        have e : n = ((n.natAbs : Nat) : Int) := by omega
        rw [if_neg (fun h => c h.1), ← e]
        refine goA ?_
        exact midQ_intro (by exact entA) rfl
    · rintro _ rfl
      generalize (if n < 0 ∧ a < 0 then (-1 : Int) else 1) = o at *
      generalize n.natAbs = N at *
      generalize facB 40 2 N = L at *
      refine goA ?_
      refine evG ggA (ss_call (InB_of rfl) rfl rfl cf) ?_
      refine goA ?_
      generalize hR : kBf L a o = R
      refine T.loop (fun k s1 => ∃ (i : Nat) (o : Int), i ≤ L.length ∧ k = L.length - i ∧ kBf (L.drop i) a o = R ∧ -1 ≤ o ∧ o ≤ 1 ∧ s1 = mkS [(0, .v (iV a)), (5, .v (iV o)), (6, .v (.sl (L.map fP))), (7, .v (iV i))] [] 65 true) L.length
        (s' := mkS [(0, .v (iV a)), (5, .v (iV o)), (6, .v (.sl (L.map fP))), (7, .v (iV (0 : Nat)))] [] 65 true) (by exact entA) ⟨0, o, by omega, by omega, by simpa using hR, by omega, by omega, rfl⟩ ?_
      clear hR ho cf hok hn k0 h0
      rintro k _ ⟨i, o, hi, hk, hR, o1, o2, rfl⟩
      have hll : (L.map fP).length = L.length := List.length_map ..
      by_cases c : i < L.length
      · have k1 : decide ((i : Int) < ((L.map fP).length : Int)) = true := by rw [hll]; simpa using c
        obtain ⟨⟨p, e⟩, hget⟩ : ∃ q, L[i]? = some q := ⟨L[i], List.getElem?_eq_getElem c⟩
        have hmem : (p, e) ∈ L := List.mem_of_getElem? hget
        have hget2 : (L.map fP)[i]? = some (.agg [iV (p : Int), iV (e : Int)]) := by rw [List.getElem?_map, hget]; rfl
        have hdrop : L.drop i = (p, e) :: L.drop (i + 1) := by
          rw [List.drop_eq_getElem_cons c]
          congr 1
          rw [List.getElem?_eq_getElem c] at hget
          exact Option.some.inj hget
        obtain ⟨p1, p2, p3⟩ := s2 _ hmem
        have hl := hleg _ hmem
        simp only at p1 p2 p3 hl
        rw [hdrop] at hR
        have hR : kBf (L.drop (i + 1)) a (o * leg a p ^ e) = R := hR
        have c2 := rtwo_p a
        have cpw := rpower_p (a := a) (n := (p - 1) / 2) (m := p) (by omega) (by omega) (by omega)
        have cpw : PC Tryz.prog 247 [iV a, iV (((p - 1) / 2 : Nat) : Int), iV p] (iV ((pw a p : Nat) : Int)) := cpw
        have e5 : ((p : Int) - 1).tdiv 2 = (((p - 1) / 2 : Nat) : Int) := by rw [show (p : Int) - 1 = ((p - 1 : Nat) : Int) by omega]; rfl
        have hpw : pw a p < p := Nat.mod_lt _ (by omega)
        clear s2 hleg hdrop hmem
        refine goA ?_
        refine evG ggA (ss_index_sl (InB_of rfl) (elem_tab rfl) rfl rfl (by omega) hget2 rfl) ?_
        refine goA ?_
        refine evG ggA (ss_call (InB_of rfl) rfl rfl c2) ?_
        refine goA ?_
        refine T.cutI (fun s1 => s1 = mkS [(0, .v (iV a)), (5, .v (iV o)), (6, .v (.sl (L.map fP))), (7, .v (iV i)), (9, .v (iV (leg a p)))] [] 65 true) ?_ ?_
        · by_cases d : p = 2
          · subst d
            have k2 : decide (((2 : Nat) : Int) > 2) = false := rfl
            refine goA ?_
            exact midQ_intro (by exact entA) rfl
          · have k2 : decide ((p : Int) > 2) = true := decide_eq_true (by omega)
            unfold leg at *
            rw [if_neg d]
            refine goA ?_
            refine evG ggA (ss_div (InB_of rfl) rfl rfl (by omega) (w64 (by omega) (by omega))) ?_
            rw [e5]
            refine goA ?_
            refine evG ggA (ss_call (InB_of rfl) rfl rfl cpw) ?_
            by_cases f : pw a p = p - 1
            · have k3 : (((pw a p : Nat) : Int) == (p : Int) - 1) = true := by rw [beq_iff_eq, f]; omega
              rw [if_pos f]
              refine goA ?_
              exact midQ_intro (by exact entA) rfl
            · have k3 : (((pw a p : Nat) : Int) == (p : Int) - 1) = false := by rw [beq_eq_false_iff_ne]; omega
              rw [if_neg f]
              refine goA ?_
              exact midQ_intro (by exact entA) rfl
        · rintro _ rfl
          clear e5 hpw cpw c2 k1
          generalize leg a p = s at *
          refine goA ?_
          refine T.loop (fun kk s1 => ∃ j : Nat, j ≤ e ∧ kk = e - j ∧ s1 = mkS [(0, .v (iV a)), (5, .v (iV (o * s ^ j))), (6, .v (.sl (L.map fP))), (7, .v (iV i)), (9, .v (iV s)), (10, .v (iV j))] [] 65 true) e
            (s' := mkS [(0, .v (iV a)), (5, .v (iV o)), (6, .v (.sl (L.map fP))), (7, .v (iV i)), (9, .v (iV s)), (10, .v (iV (0 : Nat)))] [] 65 true) (by exact entA) ⟨0, by omega, by omega, by rw [Int.pow_zero, Int.mul_one]⟩ ?_
          rintro kk _ ⟨j, hj, hkk, rfl⟩
          have hsj : ∀ j : Nat, -1 ≤ o * s ^ j ∧ o * s ^ j ≤ 1 := fun j => by
            have ho : o = -1 ∨ o = 0 ∨ o = 1 := by omega
            have hs : s ^ j = 0 ∨ s ^ j = 1 ∨ s ^ j = -1 := by
              induction j with
              | zero => exact .inr (.inl (Int.pow_zero s))
              | succ j ih =>
                rw [Int.pow_succ]
                rcases ih with ih | ih | ih <;> rcases hl with hl | hl | hl <;> rw [ih, hl] <;> decide
            rcases ho with ho | ho | ho <;> rcases hs with hs | hs | hs <;> rw [ho, hs] <;> decide
          have b1 := hsj j
          have b2 := hsj (j + 1)
          by_cases f : j < e
          · have k2 : decide ((j : Int) < (e : Int)) = true := by simpa using f
            have e6 : o * s ^ j * s = o * s ^ (j + 1) := by rw [Int.pow_succ, Int.mul_assoc]
            refine goA ?_
            refine evG ggA (ss_index_sl (InB_of rfl) (elem_tab rfl) rfl rfl (by omega) hget2 rfl) ?_
            refine goA ?_
            rw [e6]
            exact loopQ_intro (k := e - (j + 1)) (s' := mkS [(0, .v (iV a)), (5, .v (iV (o * s ^ (j + 1)))), (6, .v (.sl (L.map fP))), (7, .v (iV i)), (9, .v (iV s)), (10, .v (iV ((j + 1 : Nat) : Int)))] [] 65 true) (by omega) (by exact entA) ⟨j + 1, by omega, rfl, rfl⟩
          · have : j = e := by omega
            subst this
            have k2 : decide ((j : Int) < (j : Int)) = false := by simp
            refine goA ?_
            refine evG ggA (ss_index_sl (InB_of rfl) (elem_tab rfl) rfl rfl (by omega) hget2 rfl) ?_
            refine goA ?_
            exact loopQ_intro (k := L.length - (i + 1)) (s' := mkS [(0, .v (iV a)), (5, .v (iV (o * s ^ j))), (6, .v (.sl (L.map fP))), (7, .v (iV ((i + 1 : Nat) : Int)))] [] 65 true) (by omega) (by exact entA) ⟨i + 1, _, by omega, rfl, hR, b1.1, b1.2, rfl⟩
      · have k1 : decide ((i : Int) < ((L.map fP).length : Int)) = false := by rw [hll]; simp; omega
        have : i = L.length := by omega
        subst this
        rw [List.drop_length] at hR
        have hR : o = R := hR
        subst hR
        refine goA ?_
        exact rfl
end Ab
namespace Ab
open Go Go.RowKit Go.Proofs Kr
set_option maxRecDepth 100000
def sqf : Nat → Nat → Nat → Bool
 | 0, _, n => Nat.ble 1 n
 | k + 1, d, n => bif Nat.ble (d * d) n then (bif Nat.beq (n % (d * d)) 0 then false else sqf k (d + 1) n) else Nat.ble 1 n
def frefB (d : Int) : Bool := if (d % 4 == 1) = true then sqf 31 2 d.natAbs else (d % 4 == 0) && (decide (d.tdiv 4 % 4 > 1) && sqf 31 2 (d.tdiv 4).natAbs)
def chkF (d : Int) : Bool := if d = 0 ∨ d % 4 > 1 then !frefB d else
 okA 40 2 d.natAbs && Nat.ble (foldF (facA 40 2 d.natAbs) (1, 1)).1 2147483648 && Nat.ble (foldF (facA 40 2 d.natAbs) (1, 1)).2 2147483648 && ((fun1 d (foldF (facA 40 2 d.natAbs) (1, 1)) == d && fun2 d (foldF (facA 40 2 d.natAbs) (1, 1)) == 1) == frefB d)
theorem chkF_all : allB 2001 (fun i => chkF ((i : Int) - 1000)) = true := by decide +kernel
theorem chkF_at {d : Int} (hd : d.natAbs ≤ 1000) : chkF d = true := by
 have : chkF ((((d + 1000).toNat : Nat) : Int) - 1000) = true := allB_at (f := fun i : Nat => chkF ((i : Int) - 1000)) chkF_all (i := (d + 1000).toNat) (by omega)
 rwa [show (((d + 1000).toNat : Nat) : Int) - 1000 = d by omega] at this
end Ab
namespace Ab
open Go Go.RowKit Go.Proofs Kr
set_option maxRecDepth 100000
theorem fundamental_z : PC Tryz.prog 182 [iV 0] (.tup [iV 0, iV 0, iV 2]) := by
 refine pc_bodyC3 true Tryz.func182 rfl rfl rfl (Nat.le_of_ble_eq_true rfl) one_int ?_
 have k1 : ((0 : Int) == 0) = true := rfl
 refine goA ?_
 refine evG ggA (ss_alloc_d (InB_of rfl) zero_i rfl rfl rfl) ?_
 refine goA ?_
 exact ⟨rfl, ⟨_, _, rfl, rfl, rfl⟩, rfl⟩
theorem fundamental_4 {d : Int} (h0 : d ≠ 0) (hd : Bn 2147483647 d) (h4 : 1 < d % 4) : PC Tryz.prog 182 [iV d] (.tup [iV 0, iV 0, iV 15]) := by
 have cr := residue_p (x := d) (m := 4) (by decide) (by decide)
 unfold Bn at hd
 have k1 : (d == 0) = false := by simpa using h0
 have k2 : decide (d < -2147483647) = false := by simp; omega
 have k3 : decide (d > 2147483647) = false := by simp; omega
 have k4 : decide (d % 4 > 1) = true := by simpa using h4
 refine pc_bodyC3 true Tryz.func182 rfl rfl rfl (Nat.le_of_ble_eq_true rfl) one_int ?_
 refine goA ?_
 refine evG ggA (ss_alloc_d (InB_of rfl) zero_i rfl rfl rfl) ?_
 refine goA ?_
 refine evG ggA (ss_call (InB_of rfl) rfl rfl cr) ?_
 refine goA ?_
 exact ⟨rfl, ⟨_, _, rfl, rfl, rfl⟩, rfl⟩
theorem fund_p {d : Int} (hd : d.natAbs ≤ 1000) : ∃ a b e : Int, PC Tryz.prog 182 [iV d] (.tup [iV a, iV b, iV e]) ∧ (e = 0 ∧ a = d ∧ b = 1 ↔ frefB d = true) := by
 have hc := chkF_at hd
 unfold chkF at hc
 by_cases h : d = 0 ∨ d % 4 > 1
 ·rw [if_pos h] at hc
  have hf : frefB d = false := by cases hb : frefB d <;> simp [hb] at hc ⊢
  rcases h with rfl | h
  ·exact ⟨0, 0, 2, fundamental_z, by rw [hf]; simp⟩
  ·exact ⟨0, 0, 15, fundamental_4 (by rintro rfl; omega) (by unfold Bn; omega) h, by rw [hf]; simp⟩
 ·rw [if_neg h] at hc
  simp only [Bool.and_eq_true] at hc
  obtain ⟨⟨⟨g1, g2⟩, g3⟩, g4⟩ := hc
  refine ⟨_, _, _, fundamental_p (X := (foldF (facA 40 2 d.natAbs) (1, 1)).1) (Y := (foldF (facA 40 2 d.natAbs) (1, 1)).2) g1 (fun e => h (.inl e)) (by unfold Bn; omega) (by omega) rfl (Nat.le_of_ble_eq_true g2) (Nat.le_of_ble_eq_true g3), ?_⟩
  have e0 : ((foldF (facA 40 2 d.natAbs) (1, 1)).1, (foldF (facA 40 2 d.natAbs) (1, 1)).2) = foldF (facA 40 2 d.natAbs) (1, 1) := rfl
  rw [e0]
  rw [beq_iff_eq] at g4
  rw [← g4, Bool.and_eq_true, beq_iff_eq, beq_iff_eq]
  simp
end Ab
