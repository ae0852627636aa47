import Derived.Test.YtdbkmjahbgcjbaaGreatDoorFn
import Derived.Test.YtdbkmjahbgcjbaaGreatDoorKrA
import Derived.Shelf.Spec.TrailingZeros
import Derived.Test.YtdbkmjahbgcjbaaGreatDoorKrB
set_option linter.all false
namespace Ab
open Go Go.RowKit Go.Proofs Kr
set_option maxRecDepth 100000
def rnT : Go.Shelf.Ren := ⟨fun _ => 228, fun k => match k with | 0 => 0 | 3 => 3 | 4 => 4 | 5 => 5 | 22 => 125 | 25 => 126 | 54 => 230 | _ => 0, fun _ => 0⟩
theorem layT : Lays7.n29 Tryz.prog rnT := by
 constructor
 all_goals first
  | kernel_rfl
  | (intro w; kernel_rfl)
def bV (b : Bool) : AV := .p (.bool b)
def Bn (N x : Int) : Prop := -N ≤ x ∧ x ≤ N
def uV (n : Nat) : AV := .p (.int .u64 (n : Int))
theorem ctz_tz {x : Nat} (h0 : x ≠ 0) (h : x < 18446744073709551616) : Lib.ctz 64 x = tz x := by
 obtain ⟨h1, -⟩ := Lib.lowest_bit 64 x h0 h
 unfold tz
 rw [show (18446744073709551616 : Nat) = 2 ^ 64 by decide, h1, Nat.log2_two_pow]
theorem tz_odd {x : Nat} (h0 : x ≠ 0) (h : x < 18446744073709551616) : (x >>> tz x) % 2 = 1 ∧ tz x < 64 := by
 rw [← ctz_tz h0 h]
 obtain ⟨m, hm, hk⟩ := Lib.ctzFrom_spec 64 x (by omega) h
 have e : Lib.ctz 64 x = Lib.ctzFrom 64 x := by simp [Lib.ctz, h0]
 rw [e, Nat.shiftRight_eq_div_pow]
 refine ⟨?_, hk⟩
 generalize Lib.ctzFrom 64 x = c at *
 rw [hm, Nat.mul_div_cancel_left _ (Nat.pow_pos (by decide))]
 omega
theorem tz64_p {x : Nat} (h0 : x ≠ 0) (h : x < 18446744073709551616) : PC Tryz.prog 228 [uV x] (iV (tz x)) := by
  refine ⟨⟨_, Tryz.func228, rfl, rfl⟩, fun w M hM vs hvs => ?_⟩
  cases hvs with
  | cons _ v _ vs hv ht =>
    cases ht
    rw [Rep.p_inv hv]
    refine (Any7.bits_TrailingZeros64 layT x h w fun _ j hj => ?_).mono ?_
    · refine ((hM.2 0 _ rfl).2.2 j _ ?_)
      rw [List.getElem?_map]
      have : Lib.deBruijn64tab[j]? = some (Lib.deBruijn64tab.getD j 0) := by simp [hj]
      rw [this]
      rfl
    · rintro e w' ⟨rfl, rfl⟩
      refine ⟨_, rfl, Below.refl _ _, ?_⟩
      rw [ctz_tz h0 h]
      exact .p _ rfl
theorem shr_nat (a z : Nat) (hz : z < 64) : (a : Int).fdiv (2 ^ (min ((z : Int).toNat) IntKind.u64.bits)) = ((a >>> z : Nat) : Int) := by
 have e : min ((z : Int).toNat) IntKind.u64.bits = z := by simp [IntKind.bits]; omega
 rw [e, Nat.shiftRight_eq_div_pow, Int.fdiv_eq_ediv_of_nonneg _ (by exact_mod_cast Nat.zero_le _)]
 push_cast
 rfl
end Ab
namespace Ab
open Go Go.RowKit Go.Proofs Kr
set_option maxRecDepth 100000
theorem tmod_lt {a b : Int} (h : b ≠ 0) : (a.tmod b).natAbs < b.natAbs := by
 rw [Int.natAbs_tmod]
 exact Nat.mod_lt _ (by omega)
theorem emod_t {x m : Int} (hm : 0 < m) : x % m = if x.tmod m < 0 then x.tmod m + m else x.tmod m := by
 have h1 := Int.emod_emod_of_dvd (x.tmod m) (Int.dvd_refl m)
 have h2 : x.tmod m % m = x % m := by rw [Int.tmod_def, Int.sub_mul_emod_self_left]
 have h3 := tmod_lt (a := x) (b := m) (by omega)
 rw [← h2]
 split
 ·rw [← Int.add_emod_right, Int.emod_eq_of_lt (by omega) (by omega)]
 ·rw [Int.emod_eq_of_lt (by omega) (by omega)]
theorem residue_p {x m : Int} (hm : 0 < m) (hm2 : m ≤ 1000000000000) : PC Tryz.prog 224 [iV x, iV m] (iV (x % m)) := by
 rw [emod_t hm]
 have h3 := tmod_lt (a := x) (b := m) (by omega)
 refine pc_body1 true Tryz.func224 rfl rfl rfl (Nat.le_of_ble_eq_true rfl) CellT.tmp ?_
 refine goA ?_
 refine evG ggA (ss_div (op := .rem) (InB_of rfl) rfl rfl (by omega) rfl) ?_
 refine runA ?_
 by_cases h : x.tmod m < 0
 ·have k : decide (x.tmod m < 0) = true := by simpa using h
  rw [if_pos h]
  refine goA ?_
  exact rfl
 ·have k : decide (x.tmod m < 0) = false := by simpa using h
  rw [if_neg h]
  refine goA ?_
  exact rfl
def sg2 (s : Nat) : Int := if s % 2 = 0 then 1 else -1
theorem sg2_add (s t : Nat) : sg2 (s + t) = if t % 2 = 1 then 0 - sg2 s else sg2 s := by
 unfold sg2
 by_cases h1 : s % 2 = 0 <;> by_cases h2 : t % 2 = 1
 ·rw [if_pos h2, if_neg (by omega), if_pos h1]; rfl
 ·rw [if_neg h2, if_pos (by omega), if_pos h1]
 ·rw [if_pos h2, if_pos (by omega), if_neg h1]; rfl
 ·rw [if_neg h2, if_neg (by omega), if_neg h1]
theorem sg2_eq (s : Nat) : sg2 s = 1 ∨ sg2 s = -1 := by unfold sg2; split <;> simp
theorem mul_par (z k : Nat) : (z * k) % 2 = 1 ↔ z % 2 = 1 ∧ k % 2 = 1 := by
 rw [Nat.mul_mod]
 have h1 : z % 2 = 0 ∨ z % 2 = 1 := by omega
 have h2 : k % 2 = 0 ∨ k % 2 = 1 := by omega
 rcases h1 with h1 | h1 <;> rcases h2 with h2 | h2 <;> simp [h1, h2]
theorem jacobi_p {a m : Nat} (ha : a < 18446744073709551616) (hm : m < 18446744073709551616) (ho : m % 2 = 1) (hR : jac 14 a m 0 < 3) : PC Tryz.prog 229 [uV a, uV m] (iV (sy (jac 14 a m 0))) := by
  refine pc_body1 true Tryz.func229 rfl rfl rfl (Nat.le_of_ble_eq_true rfl) CellT.tmp ?_
  refine goA ?_
  generalize hRe : jac 14 a m 0 = R at *
  refine T.loop (fun k s1 => ∃ a m s : Nat, a < 18446744073709551616 ∧ m < 18446744073709551616 ∧ m % 2 = 1 ∧ jac k a m s = R ∧ s1 = mkS [(0, .v (uV a)), (1, .v (uV m)), (4, .v (iV 0)), (5, .v (iV (sg2 s)))] [] 46 true) 14
    (s' := mkS [(0, .v (uV a)), (1, .v (uV m)), (4, .v (iV 0)), (5, .v (iV (sg2 0)))] [] 46 true) (by exact entA) ⟨a, m, 0, ha, hm, ho, hRe, rfl⟩ ?_
  clear hRe ha hm ho a m
  rintro k _ ⟨a, m, s, ha, hm, ho, hj, rfl⟩
  cases k with
  | zero => unfold jac at hj; omega
  | succ k =>
    unfold jac at hj
    by_cases c : a = 0
    · subst c
      have hb : (((0 : Nat) : Int) != 0) = false := rfl
      have e0 : Nat.beq 0 0 = true := rfl
      rw [e0] at hj
      simp only [cond_true] at hj
      by_cases c1 : m = 1
      · subst c1
        have hb1 : (((1 : Nat) : Int) != 1) = false := rfl
        have e1 : sg2 s = sy R := by
          have : Nat.beq 1 1 = true := rfl
          rw [this] at hj
          simp only [cond_true] at hj
          unfold sg2
          have h2 : s % 2 = 0 ∨ s % 2 = 1 := by omega
          rcases h2 with h2 | h2
          · rw [h2] at hj ⊢; subst hj; rfl
          · rw [h2] at hj ⊢; subst hj; rfl
        rw [← e1]
        refine goA ?_
        exact rfl
      · have hb1 : ((m : Int) != 1) = true := by simp; omega
        have e1 : Nat.beq m 1 = false := by
          cases h : Nat.beq m 1 with
          | false => rfl
          | true => exact absurd (Nat.eq_of_beq_eq_true h) c1
        rw [e1] at hj
        simp only [cond_false] at hj
        subst hj
        refine goA ?_
        exact rfl
    · have hb : ((a : Int) != 0) = true := by simp; omega
      have e0 : Nat.beq a 0 = false := by
        cases h : Nat.beq a 0 with
        | false => rfl
        | true => exact absurd (Nat.eq_of_beq_eq_true h) c
      rw [e0] at hj
      simp only [cond_false] at hj
      obtain ⟨o1, o2⟩ := tz_odd c ha
      have hcall := tz64_p c ha
      have hshr := shr_nat a (tz a) o2
      have hble : a >>> tz a ≤ a := by rw [Nat.shiftRight_eq_div_pow]; exact Nat.div_le_self _ _
      generalize tz a = z at *
      generalize a >>> z = b at *
      refine goA ?_
      refine evG ggA (ss_call (InB_of rfl) rfl rfl hcall) ?_
      refine goA ?_
      refine evG ggA (ss_shr (InB_of rfl) rfl rfl (by omega) hshr) ?_
      refine runA ?_
      refine ev_nil ?_
      (repeat (first | with_reducible refine seqQ_n ?_ | with_reducible refine seqQ_e ?_ | with_reducible refine seqQ_r ?_ | with_reducible refine blockQ_n ?_ | with_reducible refine blockQ_r ?_ | with_reducible refine blockQ_e rfl ?_ | with_reducible refine blockQ_o rfl ?_ | with_reducible refine loopQ_e ?_ | with_reducible refine loopQ_r ?_ | with_reducible refine midQ_e ?_ | with_reducible refine midQ_r ?_ | with_reducible refine roundQ_n ?_ | with_reducible refine roundQ_e ?_ | with_reducible refine roundQ_r ?_))
      refine T.seqI (fun s1 => s1 = mkS [(0, .v (uV b)), (1, .v (uV m)), (4, .v (iV 0)), (5, .v (iV (sg2 (s + z * (((m % 8 + 1) % 8) / 4)))))] [] 46 true) ?_ ?_
      · rw [sg2_add]
        by_cases c1 : z % 2 = 1
        · have k1 : ((z : Int).tmod 2 == 1) = true := by show (((z % 2 : Nat) : Int) == 1) = true; rw [c1]; rfl
          by_cases c2 : m % 8 = 3
          · have k2 : ((m : Int).tmod 8 == 3) = true := by show (((m % 8 : Nat) : Int) == 3) = true; rw [c2]; rfl
            rw [if_pos ((mul_par _ _).2 ⟨c1, by rw [c2]⟩)]
            have := sg2_eq s
            refine goA ?_
            refine evG ggA (ss_div (op := .rem) (InB_of rfl) rfl rfl (by omega) rfl) ?_
            refine goA ?_
            refine evG ggA (ss_div (op := .rem) (InB_of rfl) rfl rfl (by omega) rfl) ?_
            refine goA ?_
            exact midQ_intro (by exact entA) rfl
          · have k2 : ((m : Int).tmod 8 == 3) = false := by show (((m % 8 : Nat) : Int) == 3) = false; simp; omega
            by_cases c3 : m % 8 = 5
            · have k3 : ((m : Int).tmod 8 == 5) = true := by show (((m % 8 : Nat) : Int) == 5) = true; rw [c3]; rfl
              rw [if_pos ((mul_par _ _).2 ⟨c1, by rw [c3]⟩)]
              have := sg2_eq s
              refine goA ?_
              refine evG ggA (ss_div (op := .rem) (InB_of rfl) rfl rfl (by omega) rfl) ?_
              refine goA ?_
              refine evG ggA (ss_div (op := .rem) (InB_of rfl) rfl rfl (by omega) rfl) ?_
              refine goA ?_
              refine evG ggA (ss_div (op := .rem) (InB_of rfl) rfl rfl (by omega) rfl) ?_
              refine goA ?_
              exact midQ_intro (by exact entA) rfl
            · have k3 : ((m : Int).tmod 8 == 5) = false := by show (((m % 8 : Nat) : Int) == 5) = false; simp; omega
              rw [if_neg (fun h => by have := ((mul_par _ _).1 h).2; omega)]
              refine goA ?_
              refine evG ggA (ss_div (op := .rem) (InB_of rfl) rfl rfl (by omega) rfl) ?_
              refine goA ?_
              refine evG ggA (ss_div (op := .rem) (InB_of rfl) rfl rfl (by omega) rfl) ?_
              refine goA ?_
              refine evG ggA (ss_div (op := .rem) (InB_of rfl) rfl rfl (by omega) rfl) ?_
              refine goA ?_
              exact midQ_intro (by exact entA) rfl
        · have k1 : ((z : Int).tmod 2 == 1) = false := by show (((z % 2 : Nat) : Int) == 1) = false; simp; omega
          rw [if_neg (fun h => c1 ((mul_par _ _).1 h).1)]
          refine goA ?_
          refine evG ggA (ss_div (op := .rem) (InB_of rfl) rfl rfl (by omega) rfl) ?_
          refine goA ?_
          exact midQ_intro (by exact entA) rfl
      · rintro _ rfl
        generalize s + z * (((m % 8 + 1) % 8) / 4) = s at *
        refine T.seqI (fun s1 => s1 = mkS [(0, .v (uV b)), (1, .v (uV m)), (4, .v (iV 0)), (5, .v (iV (sg2 (s + (b / 2) * (m / 2)))))] [] 46 true) ?_ ?_
        · rw [sg2_add]
          by_cases c1 : b % 4 = 3
          · have k1 : ((b : Int).tmod 4 == 3) = true := by show (((b % 4 : Nat) : Int) == 3) = true; rw [c1]; rfl
            by_cases c2 : m % 4 = 3
            · have k2 : ((m : Int).tmod 4 == 3) = true := by show (((m % 4 : Nat) : Int) == 3) = true; rw [c2]; rfl
              rw [if_pos ((mul_par _ _).2 ⟨by omega, by omega⟩)]
              have := sg2_eq s
              refine goA ?_
              refine evG ggA (ss_div (op := .rem) (InB_of rfl) rfl rfl (by omega) rfl) ?_
              refine goA ?_
              refine evG ggA (ss_div (op := .rem) (InB_of rfl) rfl rfl (by omega) rfl) ?_
              refine goA ?_
              exact midQ_intro (by exact entA) rfl
            · have k2 : ((m : Int).tmod 4 == 3) = false := by show (((m % 4 : Nat) : Int) == 3) = false; simp; omega
              rw [if_neg (fun h => by have := ((mul_par _ _).1 h).2; omega)]
              refine goA ?_
              refine evG ggA (ss_div (op := .rem) (InB_of rfl) rfl rfl (by omega) rfl) ?_
              refine goA ?_
              refine evG ggA (ss_div (op := .rem) (InB_of rfl) rfl rfl (by omega) rfl) ?_
              refine goA ?_
              exact midQ_intro (by exact entA) rfl
          · have k1 : ((b : Int).tmod 4 == 3) = false := by show (((b % 4 : Nat) : Int) == 3) = false; simp; omega
            rw [if_neg (fun h => by have := ((mul_par _ _).1 h).1; omega)]
            refine goA ?_
            refine evG ggA (ss_div (op := .rem) (InB_of rfl) rfl rfl (by omega) rfl) ?_
            refine goA ?_
            exact midQ_intro (by exact entA) rfl
        · rintro _ rfl
          generalize s + (b / 2) * (m / 2) = s at *
          have hbm : m % b < b := Nat.mod_lt _ (by omega)
          refine goA ?_
          refine evG ggA (ss_div (op := .rem) (InB_of rfl) rfl rfl (by omega) rfl) ?_
          refine goA ?_
          exact loopQ_intro (k := k) (s' := mkS [(0, .v (uV (m % b))), (1, .v (uV b)), (4, .v (iV 0)), (5, .v (iV (sg2 s)))] [] 46 true) (by omega) (by exact entA) ⟨m % b, b, s, by omega, by omega, o1, hj, rfl⟩
end Ab
namespace Ab
open Go Go.RowKit Go.Proofs Kr
set_option maxRecDepth 100000
theorem reduced_p {a : Int} {m : Nat} (ha : Bn 9000000000000000000 a) (hm0 : 0 < m) (hm : m < 9000000000000000000) : PC Tryz.prog 230 [iV a, uV m] (uV (a % (m : Int)).toNat) := by
 unfold Bn at ha
 refine pc_body1 true Tryz.func230 rfl rfl rfl (Nat.le_of_ble_eq_true rfl) CellT.tmp ?_
 by_cases h : 0 ≤ a
 ·have k : decide (a ≥ 0) = true := by simpa using h
  obtain ⟨x, rfl⟩ : ∃ x : Nat, a = x := ⟨a.toNat, by omega⟩
  have e : ((x : Int) % (m : Int)).toNat = x % m := by omega
  rw [e]
  refine goA ?_
  refine evG ggA (ss_conv (InB_of rfl) und_int und_u64 rfl (u64w (by omega) (by omega))) ?_
  refine goA ?_
  refine evG ggA (ss_div (op := .rem) (InB_of rfl) rfl rfl (by omega) rfl) ?_
  refine goA ?_
  exact rfl
 ·have k : decide (a ≥ 0) = false := by simpa using h
  obtain ⟨x, hx⟩ : ∃ x : Nat, a = -(x : Int) := ⟨(-a).toNat, by omega⟩
  subst hx
  have hw : IntKind.u64.wrap (-(x : Int)) = 18446744073709551616 - (x : Int) := by rw [IntKind.wrap_u64]; omega
  have hw2 : IntKind.u64.wrap (0 - (18446744073709551616 - (x : Int))) = (x : Int) := by rw [IntKind.wrap_u64]; omega
  refine goA ?_
  refine evG ggA (ss_conv (InB_of rfl) und_int und_u64 rfl hw) ?_
  refine goA ?_
  refine evG ggA (ss_neg (InB_of rfl) rfl hw2) ?_
  refine goA ?_
  refine evG ggA (ss_div (op := .rem) (InB_of rfl) rfl rfl (by omega) rfl) ?_
  refine runA ?_
  have hlt : x % m < m := Nat.mod_lt _ hm0
  have e0 : (x : Int).tmod (m : Int) = ((x % m : Nat) : Int) := rfl
  rw [e0]
  by_cases c : x % m = 0
  ·have k2 : decide (((x % m : Nat) : Int) > 0) = false := by simp; omega
   have e : (-(x : Int) % (m : Int)).toNat = x % m := by
    have : -(x : Int) % (m : Int) = 0 := Int.emod_eq_zero_of_dvd (Int.dvd_neg.2 (Int.natCast_dvd_natCast.2 (Nat.dvd_of_mod_eq_zero c)))
    rw [this, c]; rfl
   rw [e]
   refine goA ?_
   exact rfl
  ·have k2 : decide (((x % m : Nat) : Int) > 0) = true := by simp; omega
   have hs : IntKind.u64.wrap ((m : Int) - ((x % m : Nat) : Int)) = ((m - x % m : Nat) : Int) := by rw [u64w (by omega) (by omega)]; omega
   have e : (-(x : Int) % (m : Int)).toNat = m - x % m := by
    have h1 : -(x : Int) % (m : Int) = ((m : Int) - ((x % m : Nat) : Int)) := by
     have h2 : (x : Int) = ((x % m : Nat) : Int) + (m : Int) * ((x / m : Nat) : Int) := by
      have := Nat.mod_add_div x m
      exact_mod_cast this.symm
     have h3 : -(x : Int) = ((m : Int) - ((x % m : Nat) : Int)) + (m : Int) * (-((x / m : Nat) : Int) - 1) := by
      rw [Int.mul_sub, Int.mul_neg]
      omega
     rw [h3, Int.add_mul_emod_self_left]
     exact Int.emod_eq_of_lt (by omega) (by omega)
    rw [h1]; omega
   rw [e]
   refine goA ?_
   refine evG ggA (ss_arith (InB_of rfl) rfl rfl hs) ?_
   refine goA ?_
   exact rfl
theorem tmod2 (a : Int) : a.tmod 2 = 0 ↔ a % 2 = 0 := ⟨fun h => Int.emod_eq_zero_of_dvd (Int.dvd_of_tmod_eq_zero h), fun h => Int.tmod_eq_zero_of_dvd (Int.dvd_of_emod_eq_zero h)⟩
theorem sy_cases (n : Nat) : sy n = 0 ∨ sy n = 1 ∨ sy n = -1 := by
 unfold sy
 split <;> simp
set_option maxHeartbeats 1000000 in
theorem kronecker_p {a n : Int} (ha : Bn 4000000000000000000 a) (hn : n.natAbs < 1000) : PC Tryz.prog 183 [iV a, iV n] (iV (kron a n)) := by
 rw [← kro_eq hn]
 have hab := ha
 unfold Bn at ha
 unfold kroA
 refine pc_body1 true Tryz.func183 rfl rfl rfl (Nat.le_of_ble_eq_true rfl) CellT.tmp ?_
 by_cases h0 : n = 0
 ·subst h0
  rw [if_pos rfl]
  have k0 : ((0 : Int) == 0) = true := rfl
  by_cases h1 : a = 1
  ·subst h1
   have k1 : ((1 : Int) == 1) = true := rfl
   rw [if_pos (.inl rfl)]
   refine goA ?_
   exact rfl
  ·have k1 : (a == 1) = false := by simpa using h1
   by_cases h2 : a = -1
   ·subst h2
    have k2 : ((-1 : Int) == -1) = true := rfl
    rw [if_pos (.inr rfl)]
    refine goA ?_
    exact rfl
   ·have k2 : (a == -1) = false := by simpa using h2
    rw [if_neg (by omega)]
    refine goA ?_
    exact rfl
 ·rw [if_neg h0]
  have k0 : (n == 0) = false := by simpa using h0
  have hsp := split (n := n.natAbs) (by omega) (by omega)
  have ho : (if n < 0 ∧ a < 0 then (-1 : Int) else 1) = 1 ∨ (if n < 0 ∧ a < 0 then (-1 : Int) else 1) = -1 := by split <;> simp
  have hN : IntKind.u64.wrap n = if n < 0 then 18446744073709551616 + n else n := by rw [IntKind.wrap_u64]; split <;> omega
  refine goA ?_
  refine evG ggA (ss_conv (InB_of rfl) und_int und_u64 rfl hN) ?_
  refine runA ?_
  refine ev_nil ?_
  (repeat (first | with_reducible refine seqQ_n ?_ | with_reducible refine seqQ_e ?_ | with_reducible refine seqQ_r ?_ | with_reducible refine blockQ_n ?_ | with_reducible refine blockQ_r ?_ | with_reducible refine blockQ_e rfl ?_ | with_reducible refine blockQ_o rfl ?_ | with_reducible refine loopQ_e ?_ | with_reducible refine loopQ_r ?_ | with_reducible refine midQ_e ?_ | with_reducible refine midQ_r ?_ | with_reducible refine roundQ_n ?_ | with_reducible refine roundQ_e ?_ | with_reducible refine roundQ_r ?_))
  refine T.seqI (fun s1 => s1 = mkS [(0, .v (iV a)), (1, .v (iV n)), (4, .v (iV 0)), (5, .v (iV (if n < 0 ∧ a < 0 then (-1 : Int) else 1))), (6, .v (uV n.natAbs))] [] 57 true) ?_ ?_
  ·by_cases c : n < 0
   ·have k1 : decide (n < 0) = true := by simpa using c
    have hng : IntKind.u64.wrap (0 - (18446744073709551616 + n)) = ((n.natAbs : Nat) : Int) := by rw [IntKind.wrap_u64]; omega
    rw [if_pos c]
    by_cases d : a < 0
    ·have k2 : decide (a < 0) = true := by simpa using d
     rw [if_pos ⟨c, d⟩]
     refine goA ?_
     refine evG ggA (ss_neg (InB_of rfl) rfl hng) ?_
     refine goA ?_
     exact midQ_intro (by exact entA) rfl
    ·have k2 : decide (a < 0) = false := by simpa using d
     rw [if_neg (fun h => d h.2)]
     refine goA ?_
     refine evG ggA (ss_neg (InB_of rfl) rfl hng) ?_
     refine goA ?_
     exact midQ_intro (by exact entA) rfl
   ·have k1 : decide (n < 0) = false := by simpa using c
    have e : n = ((n.natAbs : Nat) : Int) := by omega
    rw [if_neg c, if_neg (fun h => c h.1)]
    refine goA ?_
    refine midQ_intro (s' := mkS [(0, .v (iV a)), (1, .v (iV n)), (4, .v (iV 0)), (5, .v (iV 1)), (6, .v (.p (.int .u64 n)))] [] 57 true) (by exact entA) ?_
    unfold uV
    rw [← e]
  ·rintro _ rfl
   generalize (if n < 0 ∧ a < 0 then (-1 : Int) else 1) = o at *
   have hNl : n.natAbs ≠ 0 := by omega
   clear hN k0 h0
   generalize n.natAbs = N at *
   have hcall := tz64_p (x := N) hNl (by omega)
   obtain ⟨-, hz64⟩ := tz_odd (x := N) hNl (by omega)
   have hshr := shr_nat N (tz N) hz64
   have hMl : N >>> tz N ≤ N := by rw [Nat.shiftRight_eq_div_pow]; exact Nat.div_le_self _ _
   obtain ⟨-, -, h3, h4⟩ := hsp
   have hj := (jac_eq h3 (by omega) h4 a).1
   have hz0 : tz N = 0 → N >>> tz N = N := fun e => by rw [e]; rfl
   generalize hM : N >>> tz N = M at *
   generalize tz N = z at *
   have hred := reduced_p (a := a) (m := M) (by unfold Bn; omega) (by omega) (by omega)
   have hjac := jacobi_p (a := (a % (M : Int)).toNat) (m := M) (by have := Int.emod_lt_of_pos a (show (0 : Int) < M by omega); omega) (by omega) h3 hj
   have hres := residue_p (x := a) (m := 8) (by decide) (by decide)
   have hJ := sy_cases (jac 14 (a % (M : Int)).toNat M 0)
   generalize sy (jac 14 (a % (M : Int)).toNat M 0) = J at *
   generalize hG : (if z > 0 ∧ a % 2 = 0 then (0 : Int) else (if z % 2 = 1 ∧ (a % 8 = 3 ∨ a % 8 = 5) then -o else o) * J) = G
   clear hM
   refine goA ?_
   refine evG ggA (ss_call (InB_of rfl) rfl rfl hcall) ?_
   refine runA ?_
   refine ev_nil ?_
   (repeat (first | with_reducible refine seqQ_n ?_ | with_reducible refine seqQ_e ?_ | with_reducible refine seqQ_r ?_ | with_reducible refine blockQ_n ?_ | with_reducible refine blockQ_r ?_ | with_reducible refine blockQ_e rfl ?_ | with_reducible refine blockQ_o rfl ?_ | with_reducible refine loopQ_e ?_ | with_reducible refine loopQ_r ?_ | with_reducible refine midQ_e ?_ | with_reducible refine midQ_r ?_ | with_reducible refine roundQ_n ?_ | with_reducible refine roundQ_e ?_ | with_reducible refine roundQ_r ?_))
   have hoJ : Bn 1 (o * J) ∧ Bn 1 (-o * J) := by unfold Bn; rcases ho with rfl | rfl <;> rcases hJ with rfl | rfl | rfl <;> decide
   unfold Bn at hoJ
   by_cases c0 : z = 0
   ·have := hz0 c0
    subst this c0
    have k1 : decide (((0 : Nat) : Int) > 0) = false := rfl
    rw [if_neg (fun h => absurd h.1 (by decide)), if_neg (fun h => absurd h.1 (by decide))] at hG
    subst hG
    refine goA ?_
    refine evG ggA (ss_call (InB_of rfl) rfl rfl hred) ?_
    refine goA ?_
    refine evG ggA (ss_call (InB_of rfl) rfl rfl hjac) ?_
    refine goA ?_
    exact rfl
   ·have k1 : decide ((z : Int) > 0) = true := by simp; omega
    by_cases c1 : a % 2 = 0
    ·have k2 : (a.tmod 2 == 0) = true := by rw [beq_iff_eq]; exact (tmod2 a).2 c1
     rw [if_pos ⟨by omega, c1⟩] at hG
     subst hG
     refine goA ?_
     refine evG ggA (ss_div (op := .rem) (InB_of rfl) rfl rfl (by omega) rfl) ?_
     refine goA ?_
     exact rfl
    ·have k2 : (a.tmod 2 == 0) = false := by rw [beq_eq_false_iff_ne]; exact fun h => c1 ((tmod2 a).1 h)
     rw [if_neg (fun h => c1 h.2)] at hG
     by_cases c2 : z % 2 = 1
     ·have k3 : ((z : Int).tmod 2 == 1) = true := by show (((z % 2 : Nat) : Int) == 1) = true; rw [c2]; rfl
      by_cases c3 : a % 8 = 3
      ·have k4 : (a % 8 == 3) = true := by simpa using c3
       rw [if_pos ⟨c2, .inl c3⟩] at hG
       subst hG
       have e0 : 0 - o = -o := by omega
       refine goA ?_
       refine evG ggA (ss_div (op := .rem) (InB_of rfl) rfl rfl (by omega) rfl) ?_
       refine goA ?_
       refine evG ggA (ss_shr (InB_of rfl) rfl rfl (by omega) hshr) ?_
       refine goA ?_
       refine evG ggA (ss_call (InB_of rfl) rfl rfl hres) ?_
       refine goA ?_
       refine evG ggA (ss_div (op := .rem) (InB_of rfl) rfl rfl (by omega) rfl) ?_
       refine goA ?_
       rw [e0]
       refine goA ?_
       refine evG ggA (ss_call (InB_of rfl) rfl rfl hred) ?_
       refine goA ?_
       refine evG ggA (ss_call (InB_of rfl) rfl rfl hjac) ?_
       refine goA ?_
       exact rfl
      ·have k4 : (a % 8 == 3) = false := by simpa using c3
       by_cases c4 : a % 8 = 5
       ·have k5 : (a % 8 == 5) = true := by simpa using c4
        rw [if_pos ⟨c2, .inr c4⟩] at hG
        subst hG
        have e0 : 0 - o = -o := by omega
        refine goA ?_
        refine evG ggA (ss_div (op := .rem) (InB_of rfl) rfl rfl (by omega) rfl) ?_
        refine goA ?_
        refine evG ggA (ss_shr (InB_of rfl) rfl rfl (by omega) hshr) ?_
        refine goA ?_
        refine evG ggA (ss_call (InB_of rfl) rfl rfl hres) ?_
        refine goA ?_
        refine evG ggA (ss_div (op := .rem) (InB_of rfl) rfl rfl (by omega) rfl) ?_
        refine goA ?_
        rw [e0]
        refine goA ?_
        refine evG ggA (ss_call (InB_of rfl) rfl rfl hred) ?_
        refine goA ?_
        refine evG ggA (ss_call (InB_of rfl) rfl rfl hjac) ?_
        refine goA ?_
        exact rfl
       ·have k5 : (a % 8 == 5) = false := by simpa using c4
        rw [if_neg (fun h => by omega)] at hG
        subst hG
        refine goA ?_
        refine evG ggA (ss_div (op := .rem) (InB_of rfl) rfl rfl (by omega) rfl) ?_
        refine goA ?_
        refine evG ggA (ss_shr (InB_of rfl) rfl rfl (by omega) hshr) ?_
        refine goA ?_
        refine evG ggA (ss_call (InB_of rfl) rfl rfl hres) ?_
        refine goA ?_
        refine evG ggA (ss_div (op := .rem) (InB_of rfl) rfl rfl (by omega) rfl) ?_
        refine goA ?_
        refine evG ggA (ss_call (InB_of rfl) rfl rfl hred) ?_
        refine goA ?_
        refine evG ggA (ss_call (InB_of rfl) rfl rfl hjac) ?_
        refine goA ?_
        exact rfl
     ·have k3 : ((z : Int).tmod 2 == 1) = false := by show (((z % 2 : Nat) : Int) == 1) = false; simp; omega
      rw [if_neg (fun h => c2 h.1)] at hG
      subst hG
      refine goA ?_
      refine evG ggA (ss_div (op := .rem) (InB_of rfl) rfl rfl (by omega) rfl) ?_
      refine goA ?_
      refine evG ggA (ss_shr (InB_of rfl) rfl rfl (by omega) hshr) ?_
      refine goA ?_
      refine evG ggA (ss_call (InB_of rfl) rfl rfl hres) ?_
      refine goA ?_
      refine evG ggA (ss_div (op := .rem) (InB_of rfl) rfl rfl (by omega) rfl) ?_
      refine goA ?_
      refine evG ggA (ss_call (InB_of rfl) rfl rfl hred) ?_
      refine goA ?_
      refine evG ggA (ss_call (InB_of rfl) rfl rfl hjac) ?_
      refine goA ?_
      exact rfl
end Ab
