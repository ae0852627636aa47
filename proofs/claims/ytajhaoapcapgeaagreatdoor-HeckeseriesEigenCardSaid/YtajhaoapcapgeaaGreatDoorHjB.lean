/- Hecke operators on series, walked. The prime factors as a list, in the program: a function that catches the list; walked. The prime factors and the primes, in the program, walked. The primes, in the program, walked. -/
import Derived.Test.YtajhaoapcapgeaaGreatDoorHjA
set_option linter.all false
namespace Ab
open Go Go.RowKit Go.Proofs Hp
set_option maxRecDepth 100000

/-- the summand of a divisor t -/
def hkT (N k d A : Int) (L : List Rat) (n m t : Int) : Rat := if (gI m n).tmod t = 0 ∧ A ≤ m.tdiv t * n.tdiv t then facQ N k d t * cf A L (m.tdiv t * n.tdiv t) else 0
def hkS (N k d A : Int) (L : List Rat) (n m : Int) : Nat → Rat
  | 0 => 0
  | j + 1 => hkS N k d A L n m j + hkT N k d A L n m ((j : Int) + 1)
def hkC (N k d A : Int) (L : List Rat) (n m : Int) : Rat := hkS N k d A L n m (gI m n).toNat
def hkFrom (A n : Int) : Int := if 0 ≤ A then 0 else min 0 (A * n)
def hkTo (p n : Int) : Int := 0 - (0 - p) / n
def hkR (N k d A : Int) (L : List Rat) (n : Int) : Option (Int × List Rat) :=
  trR (hkFrom A n) (tk (fun i => hkC N k d A L n (hkFrom A n + i)) (hkTo (A + L.length) n - hkFrom A n).toNat)
theorem facQ_ht {N k d n : Int} (hk : 1 ≤ k ∧ k ≤ 60) (hn : 1 ≤ n ∧ n < 1000) : Ht (facQ N k d n) 21 := by
  have hb := chiV_bd (N := N) (d := d) (n := n) (by omega)
  unfold Bn at hb
  unfold facQ
  have h1 : Ht ((chiV N d n : Int) : Rat) 1 := ht_int (by omega)
  have h0 : n.toNat ≤ 1000 := by omega
  have h00 : (k - 1).toNat ≤ 59 := by omega
  generalize n.toNat = x at *
  generalize (k - 1).toNat = y at *
  have h2 : ((x ^ y : Nat) : Int).natAbs < pw 20 := pow_small h0 h00
  generalize x ^ y = z at *
  have h3 : Ht (((z : Nat) : Int) : Rat) 20 := ht_whole h2 (by decide)
  generalize (((z : Nat) : Int) : Rat) = Z at *
  generalize ((chiV N d n : Int) : Rat) = X at *
  exact (ht_mul h1 h3 (Nat.le_refl 1)).mono (by omega)
theorem cf_ht {A : Int} {L : List Rat} {K : Nat} (hK : 1 ≤ K) (h : ∀ q, q ∈ L → Ht q K) (n : Int) : Ht (cf A L n) K := by
  unfold cf
  split
  · exact ht0 hK
  · exact ht_getD hK h _
theorem hkT_ht {N k d A : Int} {L : List Rat} {K : Nat} (hK : 1 ≤ K) (h : ∀ q, q ∈ L → Ht q K) (hk : 1 ≤ k ∧ k ≤ 60) {n m t : Int} (ht : 1 ≤ t ∧ t < 1000) : Ht (hkT N k d A L n m t) (21 + K) := by
  have h1 := facQ_ht (N := N) (d := d) hk ht
  have h2 := cf_ht (A := A) hK h (m.tdiv t * n.tdiv t)
  have h3 : Ht 0 (21 + K) := ht0 (by omega)
  unfold hkT
  generalize facQ N k d t = X at *
  generalize cf A L (m.tdiv t * n.tdiv t) = Y at *
  by_cases c : (gI m n).tmod t = 0 ∧ A ≤ m.tdiv t * n.tdiv t
  · rw [if_pos c]
    exact ht_mul h1 h2 (Nat.le_add_left 1 20)
  · rw [if_neg c]
    exact h3
theorem hkS_ht {N k d A : Int} {L : List Rat} {K : Nat} (hK : 1 ≤ K) (h : ∀ q, q ∈ L → Ht q K) (hk : 1 ≤ k ∧ k ≤ 60) {n m : Int} : ∀ j : Nat, j < 999 → Ht (hkS N k d A L n m j) (1 + j * (22 + K))
  | 0, _ => ht0 (by omega)
  | j + 1, hj => by
    have h1 := hkS_ht (n := n) (m := m) (d := d) (N := N) (A := A) hK h hk j (by omega)
    have h2 := hkT_ht (n := n) (m := m) (d := d) (N := N) (A := A) hK h hk (t := (j : Int) + 1) (by omega)
    show Ht (hkS N k d A L n m j + hkT N k d A L n m ((j : Int) + 1)) _
    refine (ht_add h1 h2).mono ?_
    rw [Nat.add_mul]
    omega
def cQ (q : Rat) : List TV := (ci q.num ++ ci q.den).map .v
theorem up_bd {p n : Int} (hn : 1 ≤ n) (hp : 1 ≤ p) : 1 ≤ hkTo p n ∧ hkTo p n ≤ p ∧ (hkTo p n - 1) * n < p := by
  unfold hkTo
  have h2 := Int.mul_ediv_add_emod (0 - p) n
  have h3 := Int.emod_nonneg (0 - p) (show n ≠ 0 by omega)
  have h4 := Int.emod_lt_of_pos (0 - p) (show 0 < n by omega)
  generalize (0 - p) / n = q at *
  generalize (0 - p) % n = r at *
  have h5 : (0 - q - 1) * n = -(n * q) - n := by rw [Int.sub_mul, Int.sub_mul, Int.mul_comm q n]; omega
  refine ⟨?_, ?_, by rw [h5]; omega⟩
  · refine Int.not_lt.1 fun h => ?_
    have : n * 0 ≤ n * q := Int.mul_le_mul_of_nonneg_left (by omega) (by omega)
    omega
  · refine Int.not_lt.1 fun h => ?_
    have : n * q ≤ n * (-p - 1) := Int.mul_le_mul_of_nonneg_left (by omega) (by omega)
    have h6 : n * (-p - 1) = -(n * (p + 1)) := by rw [← Int.mul_neg]; congr 1; omega
    have h7 : 1 * p ≤ n * p := Int.mul_le_mul_of_nonneg_right hn (by omega)
    rw [Int.mul_add, Int.mul_one] at h6
    omega
theorem gI_dvd {m n : Int} : gI m n ∣ m ∧ gI m n ∣ n := by
  unfold gI
  exact ⟨Int.ofNat_dvd_left.2 (Nat.gcd_dvd_left _ _), Int.ofNat_dvd_left.2 (Nat.gcd_dvd_right _ _)⟩
theorem gI_bd {m n : Int} (hn : 1 ≤ n) : 1 ≤ gI m n ∧ gI m n ≤ n := by
  unfold gI
  have h1 : 0 < Nat.gcd m.natAbs n.natAbs := Nat.gcd_pos_of_pos_right _ (by omega)
  have h2 := Nat.le_of_dvd (show 0 < n.natAbs by omega) (Nat.gcd_dvd_right m.natAbs n.natAbs)
  omega
/-- the quotients by a common divisor -/
theorem quo_facts {m n t p : Int} (ht : 1 ≤ t) (hm : t ∣ m) (hn : t ∣ n) (hn1 : 1 ≤ n) (hn2 : n ≤ 900) (hm1 : -100000 ≤ m) (hm2 : m ≤ 100000) (hp : 1 ≤ p) (hmn : m * n < p) :
    m.tmod t = 0 ∧ -100000 ≤ m.tdiv t ∧ m.tdiv t ≤ 100000 ∧ 1 ≤ n.tdiv t ∧ n.tdiv t ≤ 900 ∧ -90000000 ≤ m.tdiv t * n.tdiv t ∧ m.tdiv t * n.tdiv t ≤ 90000000 ∧ m.tdiv t * n.tdiv t < p := by
  obtain ⟨x, rfl⟩ := hm
  obtain ⟨y, rfl⟩ := hn
  rw [Int.mul_tdiv_cancel_left _ (by omega), Int.mul_tdiv_cancel_left _ (by omega), Int.mul_tmod_right]
  have hy : 1 ≤ y := by
    refine Int.not_lt.1 fun h => ?_
    have : t * y ≤ t * 0 := Int.mul_le_mul_of_nonneg_left (by omega) (by omega)
    omega
  have hy2 : y ≤ 900 := by
    have : 1 * y ≤ t * y := Int.mul_le_mul_of_nonneg_right ht (by omega)
    omega
  have hx1 : -100000 ≤ x := by
    refine Int.not_lt.1 fun h => ?_
    have h1 : t * x ≤ 1 * x := by
      have := Int.mul_le_mul_of_nonneg_right (show 1 ≤ t by omega) (show 0 ≤ -x by omega)
      rw [Int.mul_neg, Int.mul_neg] at this
      omega
    omega
  have hx2 : x ≤ 100000 := by
    refine Int.not_lt.1 fun h => ?_
    have h1 : 1 * x ≤ t * x := Int.mul_le_mul_of_nonneg_right ht (by omega)
    omega
  have hxy1 : -90000000 ≤ x * y := by
    have h1 : (-100000) * y ≤ x * y := Int.mul_le_mul_of_nonneg_right hx1 (by omega)
    omega
  have hxy2 : x * y ≤ 90000000 := by
    have h1 : x * y ≤ 100000 * y := Int.mul_le_mul_of_nonneg_right hx2 (by omega)
    omega
  refine ⟨rfl, hx1, hx2, hy, hy2, hxy1, hxy2, ?_⟩
  by_cases h0 : x ≤ 0
  · have : x * y ≤ 0 * y := Int.mul_le_mul_of_nonneg_right h0 (by omega)
    omega
  · have h1 : t * x * (t * y) = (x * y) * (t * t) := by
      rw [Int.mul_comm t x, Int.mul_assoc, ← Int.mul_assoc t t y, Int.mul_comm (t * t) y, ← Int.mul_assoc]
    have h2 : 0 ≤ x * y := Int.mul_nonneg (by omega) (by omega)
    have h3 : 1 ≤ t * t := by
      have := Int.mul_le_mul_of_nonneg_right ht (show 0 ≤ t by omega)
      omega
    have h4 : x * y * 1 ≤ x * y * (t * t) := Int.mul_le_mul_of_nonneg_left h3 h2
    omega
set_option maxHeartbeats 8000000 in
theorem hecke_p {N k d s n : Int} {es : List AV} {l : List Rat} {K : Nat} (hs : SpecOK N k d) (h : IsL es K l) (hle : es.length = l.length) (hK : 1 ≤ K ∧ K ≤ 100000) (hv : ValidP s es.length = true) (hp : 1 ≤ s + es.length) (hn1 : 1 ≤ n) (hn2 : n ≤ 900) :
    PC Tryz.prog 22 [serA s es, specA N k d, iV n] (serE (hkR N k d (s + lead l) (l.drop (lead l)) n)) := by
  have cch := hcheck_p hs
  obtain ⟨a0, a1, a2⟩ := valid_iff.1 hv
  have cpr := sprec_p (s := s) (es := es) ⟨by omega, by omega, by omega⟩
  rw [if_pos hv, if_pos hv] at cpr
  have cno := normal_p (s := s) (es := es) (l := l) (K := K) (fun _ => h) hle ⟨by omega, by omega, by omega⟩ ⟨hK.1, by omega⟩
  have ll := lead_le l
  have hnor : norR s l = some (s + lead l, l.drop (lead l)) := by
    unfold norR
    rw [if_pos (by rw [← hle]; exact hv)]
    rfl
  rw [hnor] at cno
  have cno : PC Tryz.prog 77 [serA s es] (.tup [serA (s + lead l) ((l.drop (lead l)).map encQ), iV 0]) := cno
  have hAL : s + (es.length : Int) = s + lead l + ((l.drop (lead l)).length : Int) := by rw [hle, List.length_drop]; omega
  have hLht : ∀ q, q ∈ l.drop (lead l) → Ht q K := fun q hq => isL_ht h hK.1 q (List.mem_of_mem_drop hq)
  have hA0 : -100 ≤ s + (lead l : Int) := by omega
  have hA1 : s + (lead l : Int) ≤ 1000 := by omega
  have hvA : ValidP (s + lead l) ((l.drop (lead l)).map encQ).length = true := valid_iff.2 ⟨hA0, hA1, by rw [List.length_map]; omega⟩
  have hpb : s + (es.length : Int) ≤ 1000 := by omega
  rw [hAL] at cpr hp hpb
  clear hnor hAL cch a0 a1 a2
  generalize s + (lead l : Int) = A at *
  generalize l.drop (lead l) = L at *
  have cch := hcheck_p hs
  obtain ⟨n0, n1, k0, k1, d0, d1, fd, dv⟩ := hs
  obtain ⟨u1, u2, u3⟩ := up_bd hn1 hp
  have cup := hup_p (n := A + (L.length : Int)) (d := n) hn1 (by unfold Bn; omega)
  have cup : PC Tryz.prog 78 [iV (A + (L.length : Int)), iV n] (iV (hkTo (A + L.length) n)) := cup
  have hAn : -90000 ≤ A * n ∧ A * n ≤ 900000 := by
    have h1 : (-100) * n ≤ A * n := Int.mul_le_mul_of_nonneg_right hA0 (by omega)
    have h2 : A * n ≤ 1000 * n := Int.mul_le_mul_of_nonneg_right hA1 (by omega)
    omega
  have hFR : -90000 ≤ hkFrom A n ∧ hkFrom A n ≤ 0 := by unfold hkFrom; split <;> omega
  unfold hkR
  have hFT : 0 ≤ hkTo (A + (L.length : Int)) n - hkFrom A n ∧ hkTo (A + (L.length : Int)) n - hkFrom A n ≤ 100000 := by omega
  have hC : ∀ m : Int, hkC N k d A L n m = hkS N k d A L n m (gI m n).toNat := fun m => rfl
  have hF : ∀ i : Nat, (fun i : Nat => hkC N k d A L n (hkFrom A n + i)) i = hkC N k d A L n (hkFrom A n + i) := fun i => rfl
  have hhF : ∀ i : Nat, Ht ((fun i : Nat => hkC N k d A L n (hkFrom A n + i)) i) (1 + 900 * (22 + K)) := fun i => by
    rw [hF, hC]
    have hg := gI_bd (m := hkFrom A n + i) hn1
    refine (hkS_ht hK.1 hLht ⟨k0, k1⟩ (gI (hkFrom A n + i) n).toNat (by omega)).mono ?_
    have : (gI (hkFrom A n + i) n).toNat * (22 + K) ≤ 900 * (22 + K) := Nat.mul_le_mul_right _ (by omega)
    omega
  have htr := htrim_p (f := hkFrom A n) (l := tk (fun i => hkC N k d A L n (hkFrom A n + i)) (hkTo (A + L.length) n - hkFrom A n).toNat) (K := 1 + 900 * (22 + K)) (fun q hq => by obtain ⟨i, -, rfl⟩ := tk_mem hq; exact hhF i) ⟨by omega, by omega⟩ (by omega) (by rw [tk_len]; omega)
  rw [serE_eq] at htr ⊢
  generalize hX : trR (hkFrom A n) (tk (fun i => hkC N k d A L n (hkFrom A n + i)) (hkTo (A + L.length) n - hkFrom A n).toNat) = X at *
  clear hX
  have hfr : (if 0 ≤ A then (0 : Int) else min 0 (A * n)) = hkFrom A n := rfl
  generalize (fun i : Nat => hkC N k d A L n (hkFrom A n + i)) = F at *
  generalize hkFrom A n = FR at *
  generalize hkTo (A + (L.length : Int)) n = TO at *
  obtain ⟨M, hM⟩ : ∃ M : Nat, M = (TO - FR).toNat := ⟨_, rfl⟩
  rw [← hM] at htr
  have q1 : decide (n < 1) = false := decide_eq_false (by omega)
  have q2 : decide (n > 1000) = false := decide_eq_false (by omega)
  have q3 : decide (A + (L.length : Int) < 1) = false := decide_eq_false (by omega)
  have qe : ((0 : Int) != 0) = false := rfl
  unfold specA at *
  refine pc_body2 true Tryz.func22 rfl rfl rfl (Nat.le_of_ble_eq_true rfl) (CellT.agg agg_ser) CellT.tmp ?_
  refine goA ?_
  refine evG ggA (ss_call (InB_of rfl) rfl rfl cch) ?_
  refine goA ?_
  refine evG ggA (ss_call (InB_of rfl) rfl rfl cpr) ?_
  refine goA ?_
  refine evG ggA (ss_call (InB_of rfl) rfl rfl cno) ?_
  refine goA ?_
  refine T.cutI (fun s1 => s1 = mkS [(2, .v (iV n)), (3, .ptr 3 0), (4, .ptr 4 0), (6, .ptr 6 0), (7, .v (iV 0)), (11, .v (iV FR)), (9, .v (iV (A + (L.length : Int))))] [(3, .var [.v (iV A), .v (.sl (L.map encQ))]), (4, .var [.v (iV N), .v (iV k), .v (iV d)]), (6, var0)] 126 true) ?_ ?_
  · by_cases c : 0 ≤ A
    · have k3 : decide (A ≥ 0) = true := decide_eq_true c
      rw [if_pos c] at hfr
      rw [← hfr]
      refine goA ?_
      exact midQ_intro (by exact entA) rfl
    · have k3 : decide (A ≥ 0) = false := decide_eq_false c
      rw [if_neg c] at hfr
      rw [← hfr]
      refine goA ?_
      exact midQ_intro (by exact entA) rfl
  rintro _ rfl
  refine goA ?_
  refine evG ggA (ss_call (InB_of rfl) rfl rfl cup) ?_
  refine runA ?_
  refine ev_nil ?_
  (repeat (first | with_reducible refine seqQ_n ?_ | with_reducible refine seqQ_e ?_ | with_reducible refine seqQ_r ?_ | with_reducible refine blockQ_n ?_ | with_reducible refine blockQ_r ?_ | with_reducible refine blockQ_e rfl ?_ | with_reducible refine blockQ_o rfl ?_ | with_reducible refine loopQ_e ?_ | with_reducible refine loopQ_r ?_ | with_reducible refine midQ_e ?_ | with_reducible refine midQ_r ?_ | with_reducible refine roundQ_n ?_ | with_reducible refine roundQ_e ?_ | with_reducible refine roundQ_r ?_))
  refine r1A ?_
  refine T.seqI (fun s1 => s1 = mkS [(2, .v (iV n)), (3, .ptr 3 0), (4, .ptr 4 0), (6, .ptr 6 0), (7, .v (iV 0)), (11, .v (iV FR)), (13, .own 100 M)] [(3, .var [.v (iV A), .v (.sl (L.map encQ))]), (4, .var [.v (iV N), .v (iV k), .v (iV d)]), (6, var0), (100, .lst 4 49 ((tk F M).map encQ))] 126 true) ?_ ?_
  · refine r1A ?_
    refine T.block ?_
    refine T.loop (fun x s1 => ∃ j : Nat, x = M - j ∧ j ≤ M ∧ s1 = mkS [(2, .v (iV n)), (3, .ptr 3 0), (4, .ptr 4 0), (6, .ptr 6 0), (7, .v (iV 0)), (11, .v (iV FR)), (12, .v (iV TO)), (13, .own 100 j), (14, .v (iV (FR + (j : Int))))] [(3, .var [.v (iV A), .v (.sl (L.map encQ))]), (4, .var [.v (iV N), .v (iV k), .v (iV d)]), (6, var0), (100, .lst 4 49 ((tk F j).map encQ))] 126 true) M
      (s' := mkS [(2, .v (iV n)), (3, .ptr 3 0), (4, .ptr 4 0), (6, .ptr 6 0), (7, .v (iV 0)), (11, .v (iV FR)), (12, .v (iV TO)), (13, .own 100 0), (14, .v (iV FR))] [(3, .var [.v (iV A), .v (.sl (L.map encQ))]), (4, .var [.v (iV N), .v (iV k), .v (iV d)]), (6, var0), (100, .lst 4 49 ((tk F 0).map encQ))] 126 true) (by exact entA) ⟨0, rfl, Nat.zero_le _, by rw [show FR + ((0 : Nat) : Int) = FR by omega]⟩ ?_
    rintro x _ ⟨j, rfl, hj, rfl⟩
    by_cases hlt : j < M
    · have hb : decide (FR + (j : Int) < TO) = true := decide_eq_true (by omega)
      have hFj := hF j
      have hm1 : -100000 ≤ FR + (j : Int) ∧ FR + (j : Int) ≤ 100000 := by omega
      have hmn : (FR + (j : Int)) * n < A + (L.length : Int) := by
        have : (FR + (j : Int)) * n ≤ (TO - 1) * n := Int.mul_le_mul_of_nonneg_right (by omega) (by omega)
        omega
      have htk : tk F (j + 1) = tk F j ++ [F j] := tk_succ F j
      rw [hFj, hC] at htk
      have cg := gcd_p (a := FR + (j : Int)) (b := n) (by unfold Bn; omega) (by unfold Bn; omega)
      have hg := gI_bd (m := FR + (j : Int)) hn1
      have hgd := gI_dvd (m := FR + (j : Int)) (n := n)
      have hnext : FR + ((j + 1 : Nat) : Int) = FR + (j : Int) + 1 := by omega
      have hS0 : hkS N k d A L n (FR + (j : Int)) 0 = 0 := rfl
      have hSs : ∀ t : Nat, hkS N k d A L n (FR + (j : Int)) (t + 1) = hkS N k d A L n (FR + (j : Int)) t + hkT N k d A L n (FR + (j : Int)) ((t : Int) + 1) := fun t => rfl
      have hSht : ∀ t : Nat, t < 999 → Ht (hkS N k d A L n (FR + (j : Int)) t) (1 + t * (22 + K)) := fun t ht => hkS_ht hK.1 hLht ⟨k0, k1⟩ t ht
      have hTd : ∀ t : Int, hkT N k d A L n (FR + (j : Int)) t = if (gI (FR + (j : Int)) n).tmod t = 0 ∧ A ≤ (FR + (j : Int)).tdiv t * n.tdiv t then facQ N k d t * cf A L ((FR + (j : Int)).tdiv t * n.tdiv t) else 0 := fun t => rfl
      generalize hkS N k d A L n (FR + (j : Int)) = HS at *
      generalize hkT N k d A L n (FR + (j : Int)) = HT at *
      clear hF hhF hC htr cch cpr cno cup h hb
      have hb : decide (FR + (j : Int) < TO) = true := decide_eq_true (by omega)
      generalize hG : gI (FR + (j : Int)) n = G at *
      obtain ⟨g, rfl⟩ : ∃ g : Nat, G = g := ⟨G.toNat, by omega⟩
      rw [Int.toNat_natCast] at htk
      clear hG
      generalize hm : FR + (j : Int) = m at *
      have c0 := rof_p 0 (by decide) (by decide)
      have c0 : PC Tryz.prog 56 [.p (.int .i64 0)] (encQ 0) := c0
      refine goA ?_
      refine evG ggA (ss_call (InB_of rfl) rfl rfl c0) ?_
      refine goA ?_
      refine evG ggA (ss_call (InB_of rfl) rfl rfl cg) ?_
      refine goA ?_
      refine T.loop (fun y s1 => ∃ t : Nat, y = g - t ∧ t ≤ g ∧ s1 = mkS [(2, .v (iV n)), (3, .ptr 3 0), (4, .ptr 4 0), (6, .ptr 6 0), (7, .v (iV 0)), (11, .v (iV FR)), (12, .v (iV TO)), (13, .own 100 j), (14, .v (iV m)), (15, .ptr 15 0), (16, .v (iV g)), (17, .v (iV ((t : Int) + 1)))] [(3, .var [.v (iV A), .v (.sl (L.map encQ))]), (4, .var [.v (iV N), .v (iV k), .v (iV d)]), (6, var0), (15, .var (cQ (HS t))), (100, .lst 4 49 ((tk F j).map encQ))] 126 true) g
        (s' := mkS [(2, .v (iV n)), (3, .ptr 3 0), (4, .ptr 4 0), (6, .ptr 6 0), (7, .v (iV 0)), (11, .v (iV FR)), (12, .v (iV TO)), (13, .own 100 j), (14, .v (iV m)), (15, .ptr 15 0), (16, .v (iV g)), (17, .v (iV 1))] [(3, .var [.v (iV A), .v (.sl (L.map encQ))]), (4, .var [.v (iV N), .v (iV k), .v (iV d)]), (6, var0), (15, .var (cQ 0)), (100, .lst 4 49 ((tk F j).map encQ))] 126 true) (by exact entA) ⟨0, rfl, Nat.zero_le _, by rw [hS0, show ((0 : Nat) : Int) + 1 = 1 by omega]⟩ ?_
      rintro y _ ⟨t, rfl, ht, rfl⟩
      by_cases htl : t < g
      · have kc : decide ((t : Int) + 1 ≤ (g : Int)) = true := decide_eq_true (by omega)
        have hSt := hSs t
        have hTt := hTd ((t : Int) + 1)
        by_cases c1 : (g : Int).tmod ((t : Int) + 1) = 0
        · have k3 : ((g : Int).tmod ((t : Int) + 1) != 0) = false := by simpa using c1
          have hdv : (t : Int) + 1 ∣ (g : Int) := Int.dvd_of_tmod_eq_zero c1
          obtain ⟨w1, w2, w3, w4, w5, w6, w7, w8⟩ := quo_facts (m := m) (n := n) (t := (t : Int) + 1) (p := A + (L.length : Int)) (by omega) (Int.dvd_trans hdv hgd.1) (Int.dvd_trans hdv hgd.2) hn1 hn2 hm1.1 hm1.2 hp hmn
          have k4 : (m.tmod ((t : Int) + 1) != 0) = false := by simpa using w1
          by_cases c2 : A ≤ m.tdiv ((t : Int) + 1) * n.tdiv ((t : Int) + 1)
          · have k5 : decide (m.tdiv ((t : Int) + 1) * n.tdiv ((t : Int) + 1) < A) = false := decide_eq_false (by omega)
            rw [if_pos ⟨c1, c2⟩] at hTt
            rw [hTt] at hSt
            have hisl : IsL (L.map encQ) K L := isL_enc hLht
            have cat := seriesAt_p (n := m.tdiv ((t : Int) + 1) * n.tdiv ((t : Int) + 1)) hisl ⟨hK.1, by omega⟩ hvA (by omega) (by rw [List.length_map]; omega)
            have cfa := factor_p (N := N) (k := k) (d := d) (n := (t : Int) + 1) (by unfold Bn; omega) ⟨k0, k1⟩ (by unfold Bn; omega) (by omega)
            have f1 := facQ_ht (N := N) (d := d) ⟨k0, k1⟩ (n := (t : Int) + 1) (by omega)
            have f2 := cf_ht (A := A) hK.1 hLht (m.tdiv ((t : Int) + 1) * n.tdiv ((t : Int) + 1))
            have f3 := hSht t (by omega)
            have cmu := rmul_p (isV_encQ f1) (by omega) (isV_encQ f2) (by omega)
            have ft : t * (22 + K) ≤ 900 * (22 + K) := Nat.mul_le_mul_right _ (by omega)
            have cad := radd_p (isV_encQ f3) (by omega) (isV_encQ (ht_mul f1 f2 (by omega))) (by omega)
            rw [← hSt] at cad
            unfold specA at cfa
            clear f1 f2 f3 hSht hTt hSt hisl hTd hSs
            generalize facQ N k d ((t : Int) + 1) = q1 at *
            generalize cf A L (m.tdiv ((t : Int) + 1) * n.tdiv ((t : Int) + 1)) = q2 at *
            refine goA ?_
            refine evG ggA (ss_div (op := .rem) (InB_of rfl) rfl rfl (by omega) rfl) ?_
            refine goA ?_
            refine evG ggA (ss_div (InB_of rfl) rfl rfl (by omega) (w64 (by omega) (by omega))) ?_
            refine goA ?_
            refine evG ggA (ss_div (InB_of rfl) rfl rfl (by omega) (w64 (by omega) (by omega))) ?_
            refine goA ?_
            refine evG ggA (ss_div (op := .rem) (InB_of rfl) rfl rfl (by omega) rfl) ?_
            refine goA ?_
            refine evG ggA (ss_call (InB_of rfl) rfl rfl cat) ?_
            refine goA ?_
            refine evG ggA (ss_call (InB_of rfl) rfl rfl cfa) ?_
            refine goA ?_
            refine evG ggA (ss_call (InB_of rfl) rfl rfl cmu) ?_
            refine goA ?_
            refine evG ggA (ss_call (InB_of rfl) rfl rfl cad) ?_
            refine goA ?_
            exact loopQ_intro (k := g - (t + 1)) (s' := mkS [(2, .v (iV n)), (3, .ptr 3 0), (4, .ptr 4 0), (6, .ptr 6 0), (7, .v (iV 0)), (11, .v (iV FR)), (12, .v (iV TO)), (13, .own 100 j), (14, .v (iV m)), (15, .ptr 15 0), (16, .v (iV g)), (17, .v (iV ((t : Int) + 1 + 1)))] [(3, .var [.v (iV A), .v (.sl (L.map encQ))]), (4, .var [.v (iV N), .v (iV k), .v (iV d)]), (6, var0), (15, .var (cQ (HS (t + 1)))), (100, .lst 4 49 ((tk F j).map encQ))] 126 true) (by omega) (by exact entA) ⟨t + 1, rfl, by omega, by rw [show ((t + 1 : Nat) : Int) + 1 = (t : Int) + 1 + 1 by omega]⟩
          · have k5 : decide (m.tdiv ((t : Int) + 1) * n.tdiv ((t : Int) + 1) < A) = true := decide_eq_true (by omega)
            rw [if_neg (fun h => c2 h.2)] at hTt
            rw [hTt, Rat.add_zero] at hSt
            refine goA ?_
            refine evG ggA (ss_div (op := .rem) (InB_of rfl) rfl rfl (by omega) rfl) ?_
            refine goA ?_
            refine evG ggA (ss_div (InB_of rfl) rfl rfl (by omega) (w64 (by omega) (by omega))) ?_
            refine goA ?_
            refine evG ggA (ss_div (InB_of rfl) rfl rfl (by omega) (w64 (by omega) (by omega))) ?_
            refine goA ?_
            refine evG ggA (ss_div (op := .rem) (InB_of rfl) rfl rfl (by omega) rfl) ?_
            refine goA ?_
            exact loopQ_intro (k := g - (t + 1)) (s' := mkS [(2, .v (iV n)), (3, .ptr 3 0), (4, .ptr 4 0), (6, .ptr 6 0), (7, .v (iV 0)), (11, .v (iV FR)), (12, .v (iV TO)), (13, .own 100 j), (14, .v (iV m)), (15, .ptr 15 0), (16, .v (iV g)), (17, .v (iV ((t : Int) + 1 + 1)))] [(3, .var [.v (iV A), .v (.sl (L.map encQ))]), (4, .var [.v (iV N), .v (iV k), .v (iV d)]), (6, var0), (15, .var (cQ (HS t))), (100, .lst 4 49 ((tk F j).map encQ))] 126 true) (by omega) (by exact entA) ⟨t + 1, rfl, by omega, by rw [hSt, show ((t + 1 : Nat) : Int) + 1 = (t : Int) + 1 + 1 by omega]⟩
        · have k3 : ((g : Int).tmod ((t : Int) + 1) != 0) = true := by simpa using c1
          rw [if_neg (fun h => c1 h.1)] at hTt
          rw [hTt, Rat.add_zero] at hSt
          refine goA ?_
          refine evG ggA (ss_div (op := .rem) (InB_of rfl) rfl rfl (by omega) rfl) ?_
          refine goA ?_
          exact loopQ_intro (k := g - (t + 1)) (s' := mkS [(2, .v (iV n)), (3, .ptr 3 0), (4, .ptr 4 0), (6, .ptr 6 0), (7, .v (iV 0)), (11, .v (iV FR)), (12, .v (iV TO)), (13, .own 100 j), (14, .v (iV m)), (15, .ptr 15 0), (16, .v (iV g)), (17, .v (iV ((t : Int) + 1 + 1)))] [(3, .var [.v (iV A), .v (.sl (L.map encQ))]), (4, .var [.v (iV N), .v (iV k), .v (iV d)]), (6, var0), (15, .var (cQ (HS t))), (100, .lst 4 49 ((tk F j).map encQ))] 126 true) (by omega) (by exact entA) ⟨t + 1, rfl, by omega, by rw [hSt, show ((t + 1 : Nat) : Int) + 1 = (t : Int) + 1 + 1 by omega]⟩
      · obtain rfl : t = g := by omega
        have kc : decide ((t : Int) + 1 ≤ (t : Int)) = false := decide_eq_false (by omega)
        have hlen : (tk F j).length = j := tk_len F j
        refine goA ?_
        refine evG ggA (ss_bslice (InB_of rfl) (make_tab rfl) rfl rfl rfl rfl (one_ok rfl rfl) (Nat.le_of_ble_eq_true rfl)) ?_
        refine evG ggA (ss_snocA (a := encQ (HS t)) (InB_of rfl) (make_tab rfl) rfl rfl (by rw [List.length_map]; exact hlen) rfl rfl (by decide) rfl (by omega) (Nat.le_of_ble_eq_true rfl) rfl) ?_
        refine goA ?_
        exact loopQ_intro (k := M - (j + 1)) (s' := mkS [(2, .v (iV n)), (3, .ptr 3 0), (4, .ptr 4 0), (6, .ptr 6 0), (7, .v (iV 0)), (11, .v (iV FR)), (12, .v (iV TO)), (13, .own 100 (j + 1)), (14, .v (iV (m + 1)))] [(3, .var [.v (iV A), .v (.sl (L.map encQ))]), (4, .var [.v (iV N), .v (iV k), .v (iV d)]), (6, var0), (100, .lst 4 49 ((tk F j).map encQ ++ [encQ (HS t)]))] 126 true) (by omega) (by exact entA) ⟨j + 1, rfl, hlt, by rw [htk, hnext, List.map_append]; rfl⟩
    · obtain rfl : j = M := by omega
      have hb : decide (FR + (j : Int) < TO) = false := decide_eq_false (by omega)
      refine goA ?_
      exact midQ_intro (s' := mkS [(2, .v (iV n)), (3, .ptr 3 0), (4, .ptr 4 0), (6, .ptr 6 0), (7, .v (iV 0)), (11, .v (iV FR)), (13, .own 100 j)] [(3, .var [.v (iV A), .v (.sl (L.map encQ))]), (4, .var [.v (iV N), .v (iV k), .v (iV d)]), (6, var0), (100, .lst 4 49 ((tk F j).map encQ))] 126 true) (by exact entA) rfl
  rintro _ rfl
  refine T.weak (s' := mkS [(2, .v (iV n)), (3, .ptr 3 0), (4, .ptr 4 0), (6, .ptr 6 0), (7, .v (iV 0)), (11, .v (iV FR)), (13, .v (.sl ((tk F M).map encQ)))] [(3, .var [.v (iV A), .v (.sl (L.map encQ))]), (4, .var [.v (iV N), .v (iV k), .v (iV d)]), (6, var0)] 126 true) (by exact entA) ?_
  generalize (tk F M).map encQ = FM at *
  refine goA ?_
  refine evG ggA (ss_call (InB_of rfl) rfl rfl htr) ?_
  refine goA ?_
  exact rfl
end Ab
namespace Ab
open Go Go.RowKit Go.Proofs Kr
set_option maxRecDepth 100000

/-- the list that is caught, and its variable -/
def LFn (n : Nat) (es : List AV) : List (Nat × Blk) := [(0, .var [.own 1 n]), (1, .lst 2 142 es)]
set_option maxHeartbeats 1000000 in
theorem each2_p {p e : Nat} {es : List AV} (hl : es.length + 1 ≤ 1000000) :
    PCM true Tryz.prog 159 [.v (iV p), .v (iV e), .ptr 0 0] (LFn es.length es) true (.v (.tup [])) (LFn (es.length + 1) (es ++ [fP (p, e)])) := by
  refine pc_bodyM0 Tryz.func159 rfl rfl rfl (Nat.le_of_ble_eq_true rfl) ?_
  refine goA ?_
  refine evG ggA (ss_bslice (InB_of rfl) (make_tab rfl) rfl rfl rfl rfl (one_ok rfl rfl) (Nat.le_of_ble_eq_true rfl)) ?_
  refine evG ggA (ss_snocA (a := fP (p, e)) (InB_of rfl) (make_tab rfl) rfl rfl rfl rfl rfl (by decide) rfl hl (Nat.le_of_ble_eq_true rfl) rfl) ?_
  refine goA ?_
  exact ⟨.inl rfl, by (refine Ent.mkP rfl rfl rfl rfl ?_ ?_ <;> (repeat (first | exact trivial | exact ⟨_, rfl, .inl ⟨rfl, ⟨_, rfl⟩, ⟨_, rfl⟩, trivial⟩⟩ | exact ⟨_, rfl, .inl ⟨rfl, ⟨_, rfl⟩, trivial⟩⟩ | refine And.intro ?_ ?_ | exact ⟨_, rfl, .inl ⟨rfl, trivial⟩⟩ | exact ⟨_, rfl, .inl ⟨rfl, _, rfl⟩⟩ | exact .inl ⟨rfl, trivial⟩ | exact .inl ⟨rfl, _, rfl⟩ | exact ⟨_, rfl, .inr (.inl ⟨rfl, rfl⟩)⟩ | exact .inr (.inl ⟨rfl, rfl⟩) | exact ⟨_, rfl, .inr (.inr (.inl ⟨_, _, _, _, _, rfl, rfl, by first | rfl | assumption | simp, rfl, rfl⟩))⟩ | exact .inr (.inr (.inl ⟨_, _, _, _, _, rfl, rfl, by first | rfl | assumption | simp, rfl, rfl⟩)) | exact ⟨_, rfl, .inr (.inr (.inr ⟨_, _, _, rfl, rfl, rfl, rfl⟩))⟩ | exact .inr (.inr (.inr ⟨_, _, _, rfl, rfl, rfl, rfl⟩)) | rfl)))⟩
set_option maxHeartbeats 4000000 in
theorem factors2_p {k n : Nat} {es R : List AV} (hk : okA k 2 n = true) (hF : es ++ (facA k 2 n).map fP = R) (hN1 : 1 ≤ n) (hN2 : n ≤ 2147483648) (hRl : R.length ≤ 1000000) :
    PCM true Tryz.prog 118 [.v (iV n), .fn 159 [(0, 0)]] (LFn es.length es) true (.v (.tup [])) (LFn R.length R) := by
  refine pc_bodyM0 Tryz.func118 rfl rfl rfl (Nat.le_of_ble_eq_true rfl) ?_
  refine goA ?_
  refine T.loop (fun k s1 => ∃ (p n : Nat) (es : List AV), okA k p n = true ∧ es ++ (facA k p n).map fP = R ∧ 1 ≤ n ∧ n ≤ 2147483648 ∧ 2 ≤ p ∧ p ≤ 2147483649 ∧ s1 = mkP [(0, .v (iV n)), (1, .fn 159 [(0, 0)]), (4, .v (iV p))] (LFn es.length es) 31 true [0, 1]) k
    (s' := mkP [(0, .v (iV n)), (1, .fn 159 [(0, 0)]), (4, .v (iV (2 : Nat)))] (LFn es.length es) 31 true [0, 1]) (by (refine Ent.mkP rfl rfl rfl rfl ?_ ?_ <;> (repeat (first | exact trivial | exact ⟨_, rfl, .inl ⟨rfl, ⟨_, rfl⟩, ⟨_, rfl⟩, trivial⟩⟩ | exact ⟨_, rfl, .inl ⟨rfl, ⟨_, rfl⟩, trivial⟩⟩ | refine And.intro ?_ ?_ | exact ⟨_, rfl, .inl ⟨rfl, trivial⟩⟩ | exact ⟨_, rfl, .inl ⟨rfl, _, rfl⟩⟩ | exact .inl ⟨rfl, trivial⟩ | exact .inl ⟨rfl, _, rfl⟩ | exact ⟨_, rfl, .inr (.inl ⟨rfl, rfl⟩)⟩ | exact .inr (.inl ⟨rfl, rfl⟩) | exact ⟨_, rfl, .inr (.inr (.inl ⟨_, _, _, _, _, rfl, rfl, by first | rfl | assumption | simp, rfl, rfl⟩))⟩ | exact .inr (.inr (.inl ⟨_, _, _, _, _, rfl, rfl, by first | rfl | assumption | simp, rfl, rfl⟩)) | exact ⟨_, rfl, .inr (.inr (.inr ⟨_, _, _, rfl, rfl, rfl, rfl⟩))⟩ | exact .inr (.inr (.inr ⟨_, _, _, rfl, rfl, rfl, rfl⟩)) | rfl)))) ⟨2, n, es, hk, hF, hN1, hN2, by decide, by decide, rfl⟩ ?_
  clear hk hF hN1 hN2
  rintro k _ ⟨p, n, es, hk, hF, hn1, hnN, hp, hp2, rfl⟩
  by_cases c : n ≤ 1
  · have k1 : decide ((n : Int) > 1) = false := by simp; omega
    have e1 : Nat.ble n 1 = true := Nat.ble_eq_true_of_le c
    have e2 : facA k p n = [] := by
      cases k with
      | zero => rfl
      | succ k => unfold facA; rw [e1]; rfl
    rw [e2, List.map_nil, List.append_nil] at hF
    subst hF
    refine goA ?_
    exact ⟨.inl rfl, by (refine Ent.mkP rfl rfl rfl rfl ?_ ?_ <;> (repeat (first | exact trivial | exact ⟨_, rfl, .inl ⟨rfl, ⟨_, rfl⟩, ⟨_, rfl⟩, trivial⟩⟩ | exact ⟨_, rfl, .inl ⟨rfl, ⟨_, rfl⟩, trivial⟩⟩ | refine And.intro ?_ ?_ | exact ⟨_, rfl, .inl ⟨rfl, trivial⟩⟩ | exact ⟨_, rfl, .inl ⟨rfl, _, rfl⟩⟩ | exact .inl ⟨rfl, trivial⟩ | exact .inl ⟨rfl, _, rfl⟩ | exact ⟨_, rfl, .inr (.inl ⟨rfl, rfl⟩)⟩ | exact .inr (.inl ⟨rfl, rfl⟩) | exact ⟨_, rfl, .inr (.inr (.inl ⟨_, _, _, _, _, rfl, rfl, by first | rfl | assumption | simp, rfl, rfl⟩))⟩ | exact .inr (.inr (.inl ⟨_, _, _, _, _, rfl, rfl, by first | rfl | assumption | simp, rfl, rfl⟩)) | exact ⟨_, rfl, .inr (.inr (.inr ⟨_, _, _, rfl, rfl, rfl, rfl⟩))⟩ | exact .inr (.inr (.inr ⟨_, _, _, rfl, rfl, rfl, rfl⟩)) | rfl)))⟩
  · have k1 : decide ((n : Int) > 1) = true := by simp; omega
    have e1 : Nat.ble n 1 = false := by
      cases h : Nat.ble n 1 with
      | false => rfl
      | true => exact absurd (Nat.le_of_ble_eq_true h) c
    cases k with
    | zero => unfold okA at hk; rw [e1] at hk; cases hk
    | succ k =>
      unfold okA at hk
      unfold facA at hF
      rw [e1] at hk hF
      simp only [cond_false] at hk hF
      have hq2 : 2 ≤ (bif Nat.ble (p * p) n then p else n) ∧ (bif Nat.ble (p * p) n then p else n) ≤ 2147483648 := by
        cases hb : Nat.ble (p * p) n with
        | true =>
          have := Nat.le_of_ble_eq_true hb
          have : p * 1 ≤ p * p := Nat.mul_le_mul_left p (by omega)
          simp only [cond_true]; omega
        | false => simp only [cond_false]; omega
      have hpp : p * p ≤ 2147483649 * 2147483649 := Nat.mul_le_mul hp2 hp2
      have epp : ((p * p : Nat) : Int) = (p : Int) * p := Int.natCast_mul p p
      have hcase : decide ((p : Int) * p > n) = !Nat.ble (p * p) n := by
        rw [← epp]
        cases hb : Nat.ble (p * p) n with
        | true => have := Nat.le_of_ble_eq_true hb; simp; omega
        | false =>
          have : ¬ p * p ≤ n := fun h => by rw [Nat.ble_eq_true_of_le h] at hb; cases hb
          simp; omega
      refine T.seq ?_
      refine r1A ?_
      refine T.condT rfl k1 ?_
      refine T.skip ?_
      refine seqQ_n ?_
      refine T.seq ?_
      refine T.block ?_
      refine T.seqI (fun s1 => s1 = mkP [(0, .v (iV n)), (1, .fn 159 [(0, 0)]), (4, .v (iV ((bif Nat.ble (p * p) n then p else n : Nat) : Int)))] (LFn es.length es) 31 true [0, 1]) ?_ ?_
      · cases hb : Nat.ble (p * p) n with
        | true =>
          rw [hb] at hcase
          have hcase : decide ((p : Int) * p > n) = false := hcase
          refine goA ?_
          exact midQ_intro (by (refine Ent.mkP rfl rfl rfl rfl ?_ ?_ <;> (repeat (first | exact trivial | exact ⟨_, rfl, .inl ⟨rfl, ⟨_, rfl⟩, ⟨_, rfl⟩, trivial⟩⟩ | exact ⟨_, rfl, .inl ⟨rfl, ⟨_, rfl⟩, trivial⟩⟩ | refine And.intro ?_ ?_ | exact ⟨_, rfl, .inl ⟨rfl, trivial⟩⟩ | exact ⟨_, rfl, .inl ⟨rfl, _, rfl⟩⟩ | exact .inl ⟨rfl, trivial⟩ | exact .inl ⟨rfl, _, rfl⟩ | exact ⟨_, rfl, .inr (.inl ⟨rfl, rfl⟩)⟩ | exact .inr (.inl ⟨rfl, rfl⟩) | exact ⟨_, rfl, .inr (.inr (.inl ⟨_, _, _, _, _, rfl, rfl, by first | rfl | assumption | simp, rfl, rfl⟩))⟩ | exact .inr (.inr (.inl ⟨_, _, _, _, _, rfl, rfl, by first | rfl | assumption | simp, rfl, rfl⟩)) | exact ⟨_, rfl, .inr (.inr (.inr ⟨_, _, _, rfl, rfl, rfl, rfl⟩))⟩ | exact .inr (.inr (.inr ⟨_, _, _, rfl, rfl, rfl, rfl⟩)) | rfl)))) rfl
        | false =>
          rw [hb] at hcase
          have hcase : decide ((p : Int) * p > n) = true := hcase
          refine goA ?_
          exact midQ_intro (by (refine Ent.mkP rfl rfl rfl rfl ?_ ?_ <;> (repeat (first | exact trivial | exact ⟨_, rfl, .inl ⟨rfl, ⟨_, rfl⟩, ⟨_, rfl⟩, trivial⟩⟩ | exact ⟨_, rfl, .inl ⟨rfl, ⟨_, rfl⟩, trivial⟩⟩ | refine And.intro ?_ ?_ | exact ⟨_, rfl, .inl ⟨rfl, trivial⟩⟩ | exact ⟨_, rfl, .inl ⟨rfl, _, rfl⟩⟩ | exact .inl ⟨rfl, trivial⟩ | exact .inl ⟨rfl, _, rfl⟩ | exact ⟨_, rfl, .inr (.inl ⟨rfl, rfl⟩)⟩ | exact .inr (.inl ⟨rfl, rfl⟩) | exact ⟨_, rfl, .inr (.inr (.inl ⟨_, _, _, _, _, rfl, rfl, by first | rfl | assumption | simp, rfl, rfl⟩))⟩ | exact .inr (.inr (.inl ⟨_, _, _, _, _, rfl, rfl, by first | rfl | assumption | simp, rfl, rfl⟩)) | exact ⟨_, rfl, .inr (.inr (.inr ⟨_, _, _, rfl, rfl, rfl, rfl⟩))⟩ | exact .inr (.inr (.inr ⟨_, _, _, rfl, rfl, rfl, rfl⟩)) | rfl)))) rfl
      · rintro _ rfl
        clear hcase epp hpp
        generalize (bif Nat.ble (p * p) n then p else n) = q at *
        obtain ⟨hq2, hq3⟩ := hq2
        obtain ⟨g1, g2, g3⟩ := pull_eq 63 n q hn1
        have g0 : pull 63 n q = ((pull 63 n q).1, (pull 63 n q).2) := rfl
        have hpl : (pull 63 n q).1 = (pull 63 n q).1 ∧ (pull 63 n q).2 = (pull 63 n q).2 := ⟨rfl, rfl⟩
        rw [g0] at hF
        generalize hE : (pull 63 n q).1 = E at *
        generalize hM : (pull 63 n q).2 = M at *
        have hMn : M ≤ n := by rw [g1]; exact Nat.le_mul_of_pos_left _ (Nat.pow_pos (by omega))
        have ceach : es.length + 1 ≤ 1000000 → PCM true Tryz.prog 159 [.v (iV q), .v (iV E), .ptr 0 0] (LFn es.length es) true (.v (.tup [])) (LFn (es.length + 1) (es ++ [fP (q, E)])) := fun h => each2_p h
        refine goA ?_
        refine T.loop (fun kk s1 => ∃ n' e' : Nat, (pull kk n' q).1 + e' = E ∧ (pull kk n' q).2 = M ∧ 1 ≤ n' ∧ n' < 2 ^ kk ∧ n' ≤ n ∧ e' + kk ≤ 63 ∧ s1 = mkP [(0, .v (iV n')), (1, .fn 159 [(0, 0)]), (4, .v (iV q)), (5, .v (iV e'))] (LFn es.length es) 31 true [0, 1]) 63
          (s' := mkP [(0, .v (iV n)), (1, .fn 159 [(0, 0)]), (4, .v (iV q)), (5, .v (iV (0 : Nat)))] (LFn es.length es) 31 true [0, 1]) (by (refine Ent.mkP rfl rfl rfl rfl ?_ ?_ <;> (repeat (first | exact trivial | exact ⟨_, rfl, .inl ⟨rfl, ⟨_, rfl⟩, ⟨_, rfl⟩, trivial⟩⟩ | exact ⟨_, rfl, .inl ⟨rfl, ⟨_, rfl⟩, trivial⟩⟩ | refine And.intro ?_ ?_ | exact ⟨_, rfl, .inl ⟨rfl, trivial⟩⟩ | exact ⟨_, rfl, .inl ⟨rfl, _, rfl⟩⟩ | exact .inl ⟨rfl, trivial⟩ | exact .inl ⟨rfl, _, rfl⟩ | exact ⟨_, rfl, .inr (.inl ⟨rfl, rfl⟩)⟩ | exact .inr (.inl ⟨rfl, rfl⟩) | exact ⟨_, rfl, .inr (.inr (.inl ⟨_, _, _, _, _, rfl, rfl, by first | rfl | assumption | simp, rfl, rfl⟩))⟩ | exact .inr (.inr (.inl ⟨_, _, _, _, _, rfl, rfl, by first | rfl | assumption | simp, rfl, rfl⟩)) | exact ⟨_, rfl, .inr (.inr (.inr ⟨_, _, _, rfl, rfl, rfl, rfl⟩))⟩ | exact .inr (.inr (.inr ⟨_, _, _, rfl, rfl, rfl, rfl⟩)) | rfl)))) ⟨n, 0, by omega, hM, hn1, by omega, by omega, by omega, rfl⟩ ?_
        rintro kk _ ⟨n', e', i1, i2, i3, i4, i5, i6, rfl⟩
        cases kk with
        | zero => simp at i4; omega
        | succ kk =>
          unfold pull at i1 i2
          cases hb : Nat.beq (n' % q) 0 with
          | true =>
            rw [hb] at i1 i2
            simp only [cond_true] at i1 i2
            have hd := Nat.eq_of_beq_eq_true hb
            have k2 : ((n' : Int).tmod q == 0) = true := by show (((n' % q : Nat) : Int) == 0) = true; rw [hd]; rfl
            have e3 : n' = q * (n' / q) := by have := Nat.mod_add_div n' q; omega
            have h1 : 1 ≤ n' / q := by
              rcases Nat.eq_zero_or_pos (n' / q) with h0 | h0
              · rw [h0] at e3; omega
              · exact h0
            have h2 : n' / q ≤ n' := Nat.div_le_self _ _
            have h3 : n' / q < 2 ^ kk := by
              have h4 : 2 * (n' / q) ≤ q * (n' / q) := Nat.mul_le_mul_right _ hq2
              have h5 : 2 ^ (kk + 1) = 2 ^ kk * 2 := Nat.pow_succ ..
              omega
            have e4 : (n' : Int).tdiv q = ((n' / q : Nat) : Int) := rfl
            refine goA ?_
            refine evG ggA (ss_div (op := .rem) (InB_of rfl) rfl rfl (by omega) rfl) ?_
            refine goA ?_
            refine evG ggA (ss_div (InB_of rfl) rfl rfl (by omega) (w64 (by omega) (by omega))) ?_
            refine goA ?_
            exact loopQ_intro (k := kk) (s' := mkP [(0, .v (iV ((n' / q : Nat) : Int))), (1, .fn 159 [(0, 0)]), (4, .v (iV q)), (5, .v (iV ((e' + 1 : Nat) : Int)))] (LFn es.length es) 31 true [0, 1]) (by omega) (by (refine Ent.mkP rfl rfl rfl rfl ?_ ?_ <;> (repeat (first | exact trivial | exact ⟨_, rfl, .inl ⟨rfl, ⟨_, rfl⟩, ⟨_, rfl⟩, trivial⟩⟩ | exact ⟨_, rfl, .inl ⟨rfl, ⟨_, rfl⟩, trivial⟩⟩ | refine And.intro ?_ ?_ | exact ⟨_, rfl, .inl ⟨rfl, trivial⟩⟩ | exact ⟨_, rfl, .inl ⟨rfl, _, rfl⟩⟩ | exact .inl ⟨rfl, trivial⟩ | exact .inl ⟨rfl, _, rfl⟩ | exact ⟨_, rfl, .inr (.inl ⟨rfl, rfl⟩)⟩ | exact .inr (.inl ⟨rfl, rfl⟩) | exact ⟨_, rfl, .inr (.inr (.inl ⟨_, _, _, _, _, rfl, rfl, by first | rfl | assumption | simp, rfl, rfl⟩))⟩ | exact .inr (.inr (.inl ⟨_, _, _, _, _, rfl, rfl, by first | rfl | assumption | simp, rfl, rfl⟩)) | exact ⟨_, rfl, .inr (.inr (.inr ⟨_, _, _, rfl, rfl, rfl, rfl⟩))⟩ | exact .inr (.inr (.inr ⟨_, _, _, rfl, rfl, rfl, rfl⟩)) | rfl)))) ⟨n' / q, e' + 1, by omega, i2, h1, h3, by omega, by omega, rfl⟩
          | false =>
            rw [hb] at i1 i2
            simp only [cond_false, Nat.zero_add] at i1 i2
            subst i1 i2
            have k2 : ((n' : Int).tmod q == 0) = false := by
              show (((n' % q : Nat) : Int) == 0) = false
              have : n' % q ≠ 0 := fun h => by rw [h] at hb; cases hb
              simp; omega
            clear hE hM hpl g0
            refine goA ?_
            refine evG ggA (ss_div (op := .rem) (InB_of rfl) rfl rfl (by omega) rfl) ?_
            refine goA ?_
            cases e' with
            | zero =>
              have k3 : decide (((0 : Nat) : Int) > 0) = false := rfl
              refine goA ?_
              exact loopQ_intro (k := k) (s' := mkP [(0, .v (iV n')), (1, .fn 159 [(0, 0)]), (4, .v (iV ((q + 1 : Nat) : Int)))] (LFn es.length es) 31 true [0, 1]) (by omega) (by (refine Ent.mkP rfl rfl rfl rfl ?_ ?_ <;> (repeat (first | exact trivial | exact ⟨_, rfl, .inl ⟨rfl, ⟨_, rfl⟩, ⟨_, rfl⟩, trivial⟩⟩ | exact ⟨_, rfl, .inl ⟨rfl, ⟨_, rfl⟩, trivial⟩⟩ | refine And.intro ?_ ?_ | exact ⟨_, rfl, .inl ⟨rfl, trivial⟩⟩ | exact ⟨_, rfl, .inl ⟨rfl, _, rfl⟩⟩ | exact .inl ⟨rfl, trivial⟩ | exact .inl ⟨rfl, _, rfl⟩ | exact ⟨_, rfl, .inr (.inl ⟨rfl, rfl⟩)⟩ | exact .inr (.inl ⟨rfl, rfl⟩) | exact ⟨_, rfl, .inr (.inr (.inl ⟨_, _, _, _, _, rfl, rfl, by first | rfl | assumption | simp, rfl, rfl⟩))⟩ | exact .inr (.inr (.inl ⟨_, _, _, _, _, rfl, rfl, by first | rfl | assumption | simp, rfl, rfl⟩)) | exact ⟨_, rfl, .inr (.inr (.inr ⟨_, _, _, rfl, rfl, rfl, rfl⟩))⟩ | exact .inr (.inr (.inr ⟨_, _, _, rfl, rfl, rfl, rfl⟩)) | rfl)))) ⟨q + 1, n', es, hk, hF, i3, by omega, by omega, by omega, rfl⟩
            | succ e' =>
              have k3 : decide (((e' + 1 : Nat) : Int) > 0) = true := decide_eq_true (by omega)
              have hF : (es ++ [fP (q, e' + 1)]) ++ (facA k (q + 1) n').map fP = R := by rw [← hF, List.append_assoc]; rfl
              have hel : es.length + 1 ≤ 1000000 := by
                have := congrArg List.length hF
                rw [List.length_append, List.length_append] at this
                simp only [List.length_cons, List.length_nil] at this
                omega
              have ceach := ceach hel
              refine goA ?_
              refine evM (ms_callF [(0, 0), (1, 1)] ceach rfl rfl rfl rfl rfl rfl rfl ⟨rfl, rfl, trivial⟩ ⟨.inl rfl, .inl rfl, trivial⟩ ?_)
              refine goA ?_
              exact loopQ_intro (k := k) (s' := mkP [(0, .v (iV n')), (1, .fn 159 [(0, 0)]), (4, .v (iV ((q + 1 : Nat) : Int)))] (LFn (es.length + 1) (es ++ [fP (q, e' + 1)])) 31 true [0, 1]) (by omega) (by (refine Ent.mkP rfl rfl rfl rfl ?_ ?_ <;> (repeat (first | exact trivial | exact ⟨_, rfl, .inl ⟨rfl, ⟨_, rfl⟩, ⟨_, rfl⟩, trivial⟩⟩ | exact ⟨_, rfl, .inl ⟨rfl, ⟨_, rfl⟩, trivial⟩⟩ | refine And.intro ?_ ?_ | exact ⟨_, rfl, .inl ⟨rfl, trivial⟩⟩ | exact ⟨_, rfl, .inl ⟨rfl, _, rfl⟩⟩ | exact .inl ⟨rfl, trivial⟩ | exact .inl ⟨rfl, _, rfl⟩ | exact ⟨_, rfl, .inr (.inl ⟨rfl, rfl⟩)⟩ | exact .inr (.inl ⟨rfl, rfl⟩) | exact ⟨_, rfl, .inr (.inr (.inl ⟨_, _, _, _, _, rfl, rfl, by first | rfl | assumption | simp, rfl, rfl⟩))⟩ | exact .inr (.inr (.inl ⟨_, _, _, _, _, rfl, rfl, by first | rfl | assumption | simp, rfl, rfl⟩)) | exact ⟨_, rfl, .inr (.inr (.inr ⟨_, _, _, rfl, rfl, rfl, rfl⟩))⟩ | exact .inr (.inr (.inr ⟨_, _, _, rfl, rfl, rfl, rfl⟩)) | rfl)))) ⟨q + 1, n', _, hk, hF, i3, by omega, by omega, by omega, by rw [List.length_append]; rfl⟩
end Ab
namespace Ab
open Go Go.RowKit Go.Proofs Kr
set_option maxRecDepth 100000

theorem zero_pps : ZeroT Tryz.prog 139 [.slice none 0 0] := zeroT_of (v := .slice none 0 0) (by kernel_rfl) rfl
set_option maxHeartbeats 1000000 in
theorem factorP_p {n k : Nat} (hk : okA k 2 n = true) (h1 : 1 ≤ n) (h2 : n ≤ 2147483647) (hl : (facA k 2 n).length ≤ 1000000) : PC Tryz.prog 133 [iV n] (.tup [.sl ((facA k 2 n).map fP), iV 0]) := by
  have ci := inRange_p (n : Int)
  rw [decide_eq_true ⟨by omega, by omega⟩] at ci
  have cf := factors2_p (es := []) (R := (facA k 2 n).map fP) hk rfl h1 (by omega) (by rw [List.length_map]; exact hl)
  generalize (facA k 2 n).map fP = R at *
  refine pc_body2 true Tryz.func133 rfl rfl rfl (Nat.le_of_ble_eq_true rfl) CellT.tmp CellT.tmp ?_
  refine goA ?_
  refine evG ggA (ss_call (InB_of rfl) rfl rfl ci) ?_
  refine goA ?_
  refine evG ggA (ss_alloc_d (InB_of rfl) zero_pps rfl rfl rfl) ?_
  refine runA ?_
  refine ev_nil ?_
  (repeat (first | with_reducible refine seqQ_n ?_ | with_reducible refine seqQ_e ?_ | with_reducible refine seqQ_r ?_ | with_reducible refine blockQ_n ?_ | with_reducible refine blockQ_r ?_ | with_reducible refine blockQ_e rfl ?_ | with_reducible refine blockQ_o rfl ?_ | with_reducible refine loopQ_e ?_ | with_reducible refine loopQ_r ?_ | with_reducible refine midQ_e ?_ | with_reducible refine midQ_r ?_ | with_reducible refine roundQ_n ?_ | with_reducible refine roundQ_e ?_ | with_reducible refine roundQ_r ?_))
  refine T.weak (s' := mkS [(0, .v (iV n)), (4, .ptr 4 0)] [(4, .var [.own 100 0]), (100, .lst 2 142 [])] 12 true) (by exact entA) ?_
  refine T.seqI (fun s1 => s1 = mkS [(4, .ptr 4 0)] [(4, .var [.v (.sl R)])] 12 true) ?_ ?_
  · refine goA ?_
    refine evG ggA (ss_makefn (cs := [(4, 0)]) (InB_of rfl) rfl) ?_
    refine evM (ms_call [(0, 4), (1, 100)] cf rfl rfl rfl rfl rfl rfl ⟨rfl, rfl, trivial⟩ ⟨.inl rfl, .inl rfl, trivial⟩ ?_)
    refine goA ?_
    exact midQ_intro (s' := mkS [(4, .ptr 4 0)] [(4, .var [.v (.sl R)])] 12 true) (by exact entA) rfl
  rintro _ rfl
  refine goA ?_
  exact rfl
end Ab
namespace Ab
open Go Go.RowKit Go.Proofs Kr
set_option maxRecDepth 100000

/-- the multiples are marked -/
def mkP' : Nat → Nat → Nat → List Bool → Nat → List Bool
  | 0, _, _, c, _ => c
  | f + 1, p, n, c, k => bif Nat.ble k n then mkP' f p n (c.set k true) (k + p) else c
def sv : Nat → Nat → Nat → List Bool → List Nat → List Nat
  | 0, _, _, _, out => out
  | f + 1, p, n, c, out => bif Nat.ble p n then (bif c.getD p false then sv f (p + 1) n c out else sv f (p + 1) n (mkP' (n + 1) p n c (p * p)) (out ++ [p])) else out
def primesP (n : Nat) : List Nat := sv (n + 1) 2 n (List.replicate (n + 1) false) []
def nV (n : Nat) : AV := iV (n : Int)
theorem mkP_len : ∀ (f p n : Nat) (c : List Bool) (k : Nat), (mkP' f p n c k).length = c.length
  | 0, p, n, c, k => rfl
  | f + 1, p, n, c, k => by
    unfold mkP'
    cases Nat.ble k n with
    | true => simp only [cond_true]; rw [mkP_len f]; simp
    | false => rfl
set_option maxHeartbeats 4000000 in
theorem primes_p {n : Nat} (hn : n ≤ 1000) : PC Tryz.prog 93 [iV n] (.tup [.sl ((primesP n).map nV), iV 0]) := by
  generalize hR : primesP n = R
  unfold primesP at hR
  have k0 : decide ((n : Int) > 1048576) = false := decide_eq_false (by omega)
  have em : max ((n : Int) + 1) 0 = ((n + 1 : Nat) : Int) := by omega
  refine pc_body2 true Tryz.func93 rfl rfl rfl (Nat.le_of_ble_eq_true rfl) CellT.tmp CellT.tmp ?_
  refine goA ?_
  rw [em]
  refine evG ggA (ss_make 13 (e0 := bV false) (InB_of rfl) (make_tab rfl) rfl rfl rfl (by omega) (by omega) (by omega) (by omega) rfl rfl rfl) ?_
  refine runA ?_
  refine ev_nil ?_
  (repeat (first | with_reducible refine seqQ_n ?_ | with_reducible refine seqQ_e ?_ | with_reducible refine seqQ_r ?_ | with_reducible refine blockQ_n ?_ | with_reducible refine blockQ_r ?_ | with_reducible refine blockQ_e rfl ?_ | with_reducible refine blockQ_o rfl ?_ | with_reducible refine loopQ_e ?_ | with_reducible refine loopQ_r ?_ | with_reducible refine midQ_e ?_ | with_reducible refine midQ_r ?_ | with_reducible refine roundQ_n ?_ | with_reducible refine roundQ_e ?_ | with_reducible refine roundQ_r ?_))
  refine r1A ?_
  refine T.seqI (fun s1 => s1 = mkS [(5, .v (.sl (R.map nV)))] [] 40 true) ?_ ?_
  · refine goA ?_
    refine T.loop (fun x s1 => ∃ (p : Nat) (c : List Bool) (out : List Nat), sv x p n c out = R ∧ x + p = n + 3 ∧ 2 ≤ p ∧ c.length = n + 1 ∧ out.length ≤ p ∧ s1 = mkS [(0, .v (iV n)), (4, .own 13 (n + 1)), (5, .own 100 out.length), (6, .v (iV p))] [(13, .lst 1 4 (c.map bV)), (100, .lst 1 3 (out.map nV))] 40 true) (n + 1)
      (s' := mkS [(0, .v (iV n)), (4, .own 13 (n + 1)), (5, .own 100 0), (6, .v (iV 2))] [(13, .lst 1 4 (List.replicate (n + 1) (bV false))), (100, .lst 1 3 [])] 40 true) (by exact entA) ⟨2, List.replicate (n + 1) false, [], hR, by omega, by omega, by simp, by simp, by rw [List.map_replicate]; rfl⟩ ?_
    clear hR
    rintro x _ ⟨p, c, out, hR, hx, hp, hc, ho, rfl⟩
    have hcl : (c.map bV).length = n + 1 := by rw [List.length_map]; exact hc
    have hol : (out.map nV).length = out.length := List.length_map ..
    by_cases hpn : p ≤ n
    · have kp : decide ((p : Int) ≤ (n : Int)) = true := decide_eq_true (by omega)
      have hpp : p * p ≤ 1000 * 1000 := Nat.mul_le_mul (by omega) (by omega)
      have epp : (p : Int) * p = ((p * p : Nat) : Int) := (Int.natCast_mul p p).symm
      cases x with
      | zero => omega
      | succ x =>
        unfold sv at hR
        rw [Nat.ble_eq_true_of_le hpn] at hR
        simp only [cond_true] at hR
        have hget : (c.map bV)[((p : Nat) : Int).toNat]? = some (bV (c.getD p false)) := by
          rw [Int.toNat_natCast, List.getElem?_map, List.getD_eq_getElem?_getD, List.getElem?_eq_getElem (by omega)]
          rfl
        cases hb : c.getD p false with
        | true =>
          rw [hb] at hR hget
          simp only [cond_true] at hR
          refine goA ?_
          refine evG ggA (ss_index_own (InB_of rfl) (elem_tab rfl) rfl rfl hcl rfl (by omega) (by omega)) ?_
          refine evG ggA (ss_load_op1 (c := .p (.bool true)) (InB_of rfl) one_bool rfl rfl hcl hget rfl) ?_
          refine goA ?_
          exact loopQ_intro (k := x) (s' := mkS [(0, .v (iV n)), (4, .own 13 (n + 1)), (5, .own 100 out.length), (6, .v (iV ((p + 1 : Nat) : Int)))] [(13, .lst 1 4 (c.map bV)), (100, .lst 1 3 (out.map nV))] 40 true) (by omega) (by exact entA) ⟨p + 1, c, out, hR, by omega, by omega, hc, by omega, rfl⟩
        | false =>
          rw [hb] at hR hget
          simp only [cond_false] at hR
          have hmap : (out ++ [p]).map nV = out.map nV ++ [nV p] := by simp
          refine goA ?_
          refine evG ggA (ss_index_own (InB_of rfl) (elem_tab rfl) rfl rfl hcl rfl (by omega) (by omega)) ?_
          refine evG ggA (ss_load_op1 (c := .p (.bool false)) (InB_of rfl) one_bool rfl rfl hcl hget rfl) ?_
          refine goA ?_
          refine evG ggA (ss_bslice (InB_of rfl) (make_tab rfl) rfl rfl rfl rfl (one_ok rfl rfl) (Nat.le_of_ble_eq_true rfl)) ?_
          refine evG ggA (ss_snocA (a := nV p) (InB_of rfl) (make_tab rfl) rfl rfl hol rfl rfl (by decide) rfl (by omega) (Nat.le_of_ble_eq_true rfl) rfl) ?_
          refine goA ?_
          generalize hC : mkP' (n + 1) p n c (p * p) = C at *
          refine T.loop (fun y s1 => ∃ (k : Nat) (c' : List Bool), mkP' y p n c' k = C ∧ n + 1 ≤ y + k ∧ k ≤ 1001000 ∧ c'.length = n + 1 ∧ s1 = mkS [(0, .v (iV n)), (4, .own 13 (n + 1)), (5, .own 100 (out.length + 1)), (6, .v (iV p)), (7, .v (iV k))] [(13, .lst 1 4 (c'.map bV)), (100, .lst 1 3 (out.map nV ++ [nV p]))] 40 true) (n + 1)
            (s' := mkS [(0, .v (iV n)), (4, .own 13 (n + 1)), (5, .own 100 (out.length + 1)), (6, .v (iV p)), (7, .v (iV ((p * p : Nat) : Int)))] [(13, .lst 1 4 (c.map bV)), (100, .lst 1 3 (out.map nV ++ [nV p]))] 40 true) (by exact entA) ⟨p * p, c, hC, by omega, by omega, hc, rfl⟩ ?_
          have hCl : C.length = n + 1 := by rw [← hC, mkP_len]; exact hc
          clear hC
          rintro y _ ⟨k, c', hC, hy, hk, hc', rfl⟩
          have hcl' : (c'.map bV).length = n + 1 := by rw [List.length_map]; exact hc'
          by_cases hkn : k ≤ n
          · have kk : decide ((k : Int) ≤ (n : Int)) = true := decide_eq_true (by omega)
            cases y with
            | zero => omega
            | succ y =>
              unfold mkP' at hC
              rw [Nat.ble_eq_true_of_le hkn] at hC
              simp only [cond_true] at hC
              have hset : (c'.set k true).map bV = (c'.map bV).set ((k : Nat) : Int).toNat (.p (.bool true)) := by rw [Int.toNat_natCast, List.map_set]; rfl
              refine goA ?_
              refine evG ggA (ss_index_own (InB_of rfl) (elem_tab rfl) rfl rfl hcl' rfl (by omega) (by omega)) ?_
              refine evG ggA (ss_store_own (x := .p (.bool true)) rfl ⟨_, rfl, rfl⟩ rfl rfl hcl' (by omega) rfl rfl (fun l e => by cases e) rfl) ?_
              refine goA ?_
              exact loopQ_intro (k := y) (s' := mkS [(0, .v (iV n)), (4, .own 13 (n + 1)), (5, .own 100 (out.length + 1)), (6, .v (iV p)), (7, .v (iV ((k + p : Nat) : Int)))] [(13, .lst 1 4 ((c'.map bV).set ((k : Nat) : Int).toNat (.p (.bool true)))), (100, .lst 1 3 (out.map nV ++ [nV p]))] 40 true) (by omega) (by exact entA) ⟨k + p, c'.set k true, hC, by omega, by omega, by simp [hc'], by rw [hset]⟩
          · have kk : decide ((k : Int) ≤ (n : Int)) = false := decide_eq_false (by omega)
            have hC : c' = C := by
              cases y with
              | zero => exact hC
              | succ y => unfold mkP' at hC; rw [ble_f hkn] at hC; exact hC
            subst hC
            refine goA ?_
            exact loopQ_intro (k := x) (s' := mkS [(0, .v (iV n)), (4, .own 13 (n + 1)), (5, .own 100 (out.length + 1)), (6, .v (iV ((p + 1 : Nat) : Int)))] [(13, .lst 1 4 (c'.map bV)), (100, .lst 1 3 (out.map nV ++ [nV p]))] 40 true) (by omega) (by exact entA) ⟨p + 1, c', out ++ [p], hR, by omega, by omega, hc', by simp; omega, by rw [hmap, List.length_append]; rfl⟩
    · have kp : decide ((p : Int) ≤ (n : Int)) = false := decide_eq_false (by omega)
      have hR : out = R := by
        cases x with
        | zero => exact hR
        | succ x => unfold sv at hR; rw [ble_f hpn] at hR; exact hR
      subst hR
      refine goA ?_
      exact midQ_intro (by exact entA) rfl
  rintro _ rfl
  refine goA ?_
  exact rfl
end Ab
