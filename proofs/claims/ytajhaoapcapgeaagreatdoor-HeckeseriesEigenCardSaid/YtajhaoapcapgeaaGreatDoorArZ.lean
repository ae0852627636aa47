/- Residues, powers and the symbol of Kronecker in the document, walked. The symbol of Kronecker in the document, walked. Fundamental discriminants: program and document agree to 1000. What the program says of a number as a fundamental discriminant is what the document says, to 1000. -/
import Derived.Test.YtajhaoapcapgeaaGreatDoorArY
set_option linter.all false
namespace Ab
open Go Go.RowKit Go.Proofs Kr
set_option maxRecDepth 100000

theorem bmod_p {x m : Int} (hm : 0 < m) (hm2 : m ≤ 1000000000000) : PC Tryz.prog 65 [iV x, iV m] (iV (x % m)) := by
  rw [emod_t hm]
  have h3 := tmod_lt (a := x) (b := m) (by omega)
  refine pc_body1 true Tryz.func65 rfl rfl rfl (Nat.le_of_ble_eq_true rfl) CellT.tmp ?_
  refine goA ?_
  refine evG ggA (ss_div (op := .rem) (InB_of rfl) rfl rfl (by omega) rfl) ?_
  refine runA ?_
  by_cases h : x.tmod m < 0
  · have k : decide (x.tmod m < 0) = true := by simpa using h
    rw [if_pos h]
    refine goA ?_
    exact rfl
  · have k : decide (x.tmod m < 0) = false := by simpa using h
    rw [if_neg h]
    refine goA ?_
    exact rfl
end Ab
namespace Ab
open Go Go.RowKit Go.Proofs Kr
set_option maxRecDepth 100000

end Ab
namespace Ab
open Go Go.RowKit Go.Proofs Kr
set_option maxRecDepth 100000

/-- square-free, from d on -/
def sqf : Nat → Nat → Nat → Bool
  | 0, _, n => Nat.ble 1 n
  | k + 1, d, n => bif Nat.ble (d * d) n then (bif Nat.beq (n % (d * d)) 0 then false else sqf k (d + 1) n) else Nat.ble 1 n
theorem free_p {n : Int} (hn : n.natAbs ≤ 1000) : PC Tryz.prog 121 [iV n] (bV (sqf 31 2 n.natAbs)) := by
  refine pc_body1 true Tryz.func121 rfl rfl rfl (Nat.le_of_ble_eq_true rfl) CellT.tmp ?_
  have em : max n (0 - n) = ((n.natAbs : Nat) : Int) := by omega
  refine goA ?_
  rw [em]
  generalize n.natAbs = N at *
  generalize hR : sqf 31 2 N = R
  refine T.loop (fun k s1 => ∃ d : Nat, 2 ≤ d ∧ k + d = 33 ∧ sqf k d N = R ∧ s1 = mkS [(0, .v (iV N)), (3, .v (iV d))] [] 23 true) 31
    (s' := mkS [(0, .v (iV N)), (3, .v (iV (2 : Nat)))] [] 23 true) (by exact entA) ⟨2, by omega, rfl, hR, rfl⟩ ?_
  clear hR
  rintro k _ ⟨d, hd, hk, hR, rfl⟩
  have hdd : d * d ≤ 33 * 33 := Nat.mul_le_mul (by omega) (by omega)
  have edd : (d : Int) * d = ((d * d : Nat) : Int) := (Int.natCast_mul d d).symm
  have hd0 : 1 ≤ d * d := Nat.mul_le_mul (show 1 ≤ d by omega) (show 1 ≤ d by omega)
  by_cases c : d * d ≤ N
  · have k1 : decide ((d : Int) * d ≤ N) = true := by rw [edd]; exact decide_eq_true (by omega)
    cases k with
    | zero =>
      have : 33 * 33 ≤ d * d := Nat.mul_le_mul (by omega) (by omega)
      omega
    | succ k =>
      unfold sqf at hR
      rw [Nat.ble_eq_true_of_le c] at hR
      simp only [cond_true] at hR
      cases hb : Nat.beq (N % (d * d)) 0 with
      | true =>
        rw [hb] at hR
        have k2 : ((N : Int).tmod ((d : Int) * d) == 0) = true := by
          rw [edd]
          show (((N % (d * d) : Nat) : Int) == 0) = true
          rw [Nat.eq_of_beq_eq_true hb]; rfl
        subst hR
        refine goA ?_
        refine evG ggA (ss_div (op := .rem) (InB_of rfl) rfl rfl (by omega) rfl) ?_
        refine goA ?_
        exact rfl
      | false =>
        rw [hb] at hR
        have k2 : ((N : Int).tmod ((d : Int) * d) == 0) = false := by
          rw [edd]
          show (((N % (d * d) : Nat) : Int) == 0) = false
          have : N % (d * d) ≠ 0 := fun h => by rw [h] at hb; cases hb
          rw [beq_eq_false_iff_ne]
          exact fun h => this (by exact_mod_cast h)
        refine goA ?_
        refine evG ggA (ss_div (op := .rem) (InB_of rfl) rfl rfl (by omega) rfl) ?_
        refine goA ?_
        exact loopQ_intro (k := k) (s' := mkS [(0, .v (iV N)), (3, .v (iV ((d + 1 : Nat) : Int)))] [] 23 true) (by omega) (by exact entA) ⟨d + 1, by omega, by omega, hR, rfl⟩
  · have k1 : decide ((d : Int) * d ≤ N) = false := by rw [edd]; exact decide_eq_false (by omega)
    have hR : Nat.ble 1 N = R := by
      cases k with
      | zero => exact hR
      | succ k => unfold sqf at hR; rw [ble_f c] at hR; exact hR
    have e2 : decide ((N : Int) > 0) = R := by
      rw [← hR]
      cases hb : Nat.ble 1 N with
      | true => have := Nat.le_of_ble_eq_true hb; exact decide_eq_true (by omega)
      | false =>
        have : ¬ 1 ≤ N := fun h => by rw [Nat.ble_eq_true_of_le h] at hb; cases hb
        exact decide_eq_false (by omega)
    rw [← e2]
    refine goA ?_
    exact rfl
/-- what the document says of d -/
def frefB (d : Int) : Bool := if (d % 4 == 1) = true then sqf 31 2 d.natAbs else (d % 4 == 0) && (decide (d.tdiv 4 % 4 > 1) && sqf 31 2 (d.tdiv 4).natAbs)
set_option maxHeartbeats 1000000 in
theorem rfundamental_p {d : Int} (hd : d.natAbs ≤ 1000) : PC Tryz.prog 71 [iV d] (bV (frefB d)) := by
  have c1 := bmod_p (x := d) (m := 4) (by decide) (by decide)
  have hq : (d.tdiv 4).natAbs ≤ 1000 := by rw [Int.natAbs_tdiv]; exact Nat.le_trans (Nat.div_le_self _ _) hd
  have c2 := bmod_p (x := d.tdiv 4) (m := 4) (by decide) (by decide)
  have c3 := free_p hd
  have c4 := free_p hq
  unfold frefB
  generalize sqf 31 2 d.natAbs = F1 at *
  generalize sqf 31 2 (d.tdiv 4).natAbs = F2 at *
  generalize d.tdiv 4 % 4 = m2 at *
  generalize d % 4 = m1 at *
  refine pc_body1 true Tryz.func71 rfl rfl rfl (Nat.le_of_ble_eq_true rfl) CellT.tmp ?_
  refine goA ?_
  refine evG ggA (ss_call (InB_of rfl) rfl rfl c1) ?_
  cases k1 : (m1 == 1) with
  | true =>
    rw [if_pos rfl]
    refine goA ?_
    refine evG ggA (ss_call (InB_of rfl) rfl rfl c3) ?_
    refine goA ?_
    exact rfl
  | false =>
    rw [if_neg (by decide)]
    refine goA ?_
    refine evG ggA (ss_call (InB_of rfl) rfl rfl c1) ?_
    cases k2 : (m1 == 0) with
    | false =>
      refine goA ?_
      exact rfl
    | true =>
      refine goA ?_
      refine evG ggA (ss_div (InB_of rfl) rfl rfl (by omega) (w64 (by omega) (by omega))) ?_
      refine goA ?_
      refine evG ggA (ss_call (InB_of rfl) rfl rfl c2) ?_
      cases k3 : decide (m2 > 1) with
      | false =>
        refine goA ?_
        exact rfl
      | true =>
        refine goA ?_
        refine evG ggA (ss_div (InB_of rfl) rfl rfl (by omega) (w64 (by omega) (by omega))) ?_
        refine goA ?_
        refine evG ggA (ss_call (InB_of rfl) rfl rfl c4) ?_
        refine goA ?_
        exact rfl
def chkF (d : Int) : Bool := if d = 0 ∨ d % 4 > 1 then !frefB d else
  okA 40 2 d.natAbs && Nat.ble (foldF (facA 40 2 d.natAbs) (1, 1)).1 2147483648 && Nat.ble (foldF (facA 40 2 d.natAbs) (1, 1)).2 2147483648 && ((fun1 d (foldF (facA 40 2 d.natAbs) (1, 1)) == d && fun2 d (foldF (facA 40 2 d.natAbs) (1, 1)) == 1) == frefB d)
theorem chkF_all : allB 2001 (fun i => chkF ((i : Int) - 1000)) = true := by decide +kernel
theorem chkF_at {d : Int} (hd : d.natAbs ≤ 1000) : chkF d = true := by
  have : chkF ((((d + 1000).toNat : Nat) : Int) - 1000) = true := allB_at (f := fun i : Nat => chkF ((i : Int) - 1000)) chkF_all (i := (d + 1000).toNat) (by omega)
  rwa [show (((d + 1000).toNat : Nat) : Int) - 1000 = d by omega] at this
end Ab
namespace Ab
open Go Go.RowKit Go.Proofs Kr
set_option maxRecDepth 100000

theorem fundamental_z : PC Tryz.prog 70 [iV 0] (.tup [iV 0, iV 0, iV 2]) := by
  refine pc_bodyC3 true Tryz.func70 rfl rfl rfl (Nat.le_of_ble_eq_true rfl) one_int ?_
  have k1 : ((0 : Int) == 0) = true := rfl
  refine goA ?_
  refine evG ggA (ss_alloc_d (InB_of rfl) zero_i rfl rfl rfl) ?_
  refine goA ?_
  exact ⟨rfl, ⟨_, _, rfl, rfl, rfl⟩, rfl⟩
theorem fundamental_4 {d : Int} (h0 : d ≠ 0) (hd : Bn 2147483647 d) (h4 : 1 < d % 4) : PC Tryz.prog 70 [iV d] (.tup [iV 0, iV 0, iV 15]) := by
  have cr := residue_p (x := d) (m := 4) (by decide) (by decide)
  unfold Bn at hd
  have k1 : (d == 0) = false := by simpa using h0
  have k2 : decide (d < -2147483647) = false := by simp; omega
  have k3 : decide (d > 2147483647) = false := by simp; omega
  have k4 : decide (d % 4 > 1) = true := by simpa using h4
  refine pc_bodyC3 true Tryz.func70 rfl rfl rfl (Nat.le_of_ble_eq_true rfl) one_int ?_
  refine goA ?_
  refine evG ggA (ss_alloc_d (InB_of rfl) zero_i rfl rfl rfl) ?_
  refine goA ?_
  refine evG ggA (ss_call (InB_of rfl) rfl rfl cr) ?_
  refine goA ?_
  exact ⟨rfl, ⟨_, _, rfl, rfl, rfl⟩, rfl⟩
/-- what is asked of the three results -/
theorem fund_p {d : Int} (hd : d.natAbs ≤ 1000) : ∃ a b e : Int, PC Tryz.prog 70 [iV d] (.tup [iV a, iV b, iV e]) ∧ (e = 0 ∧ a = d ∧ b = 1 ↔ frefB d = true) := by
  have hc := chkF_at hd
  unfold chkF at hc
  by_cases h : d = 0 ∨ d % 4 > 1
  · rw [if_pos h] at hc
    have hf : frefB d = false := by cases hb : frefB d <;> simp [hb] at hc ⊢
    rcases h with rfl | h
    · exact ⟨0, 0, 2, fundamental_z, by rw [hf]; simp⟩
    · exact ⟨0, 0, 15, fundamental_4 (by rintro rfl; omega) (by unfold Bn; omega) h, by rw [hf]; simp⟩
  · rw [if_neg h] at hc
    simp only [Bool.and_eq_true] at hc
    obtain ⟨⟨⟨g1, g2⟩, g3⟩, g4⟩ := hc
    refine ⟨_, _, _, fundamental_p (X := (foldF (facA 40 2 d.natAbs) (1, 1)).1) (Y := (foldF (facA 40 2 d.natAbs) (1, 1)).2) g1 (fun e => h (.inl e)) (by unfold Bn; omega) (by omega) rfl (Nat.le_of_ble_eq_true g2) (Nat.le_of_ble_eq_true g3), ?_⟩
    have e0 : ((foldF (facA 40 2 d.natAbs) (1, 1)).1, (foldF (facA 40 2 d.natAbs) (1, 1)).2) = foldF (facA 40 2 d.natAbs) (1, 1) := rfl
    rw [e0]
    rw [beq_iff_eq] at g4
    rw [← g4, Bool.and_eq_true, beq_iff_eq, beq_iff_eq]
    simp
end Ab
