/- The statement QuadformClasses: walked. -/
import Derived.Test.YtajlkcnlfiikeaaQwU
import Derived.Test.YtajlkcnlfiikeaaQwR
set_option linter.all false
namespace Ab
open Go Go.RowKit Go.Proofs Hp Qf
set_option maxRecDepth 100000

theorem mod_p {x m : Int} (hx : Bd 4000000000000000000 x) (hm : 0 < m) (hm2 : m ≤ 1000000000000) : PC Try.prog 46 [iV x, iV m] (iV (x % m)) := by
  rw [emod_t hm]
  have h3 := tmod_lt (a := x) (b := m) (by omega)
  unfold Bd at hx
  refine pc_body1 true Try.func46 rfl rfl rfl (Nat.le_of_ble_eq_true rfl) CellT.tmp ?_
  refine goA ?_
  refine evG ggA (ss_div (op := .rem) (InB_of rfl) rfl rfl (by omega) rfl) ?_
  refine runA ?_
  by_cases h : x.tmod m < 0
  · have k : decide (x.tmod m < 0) = true := by simpa using h
    rw [if_pos h]
    refine goA ?_
    exact rfl
  · have k : decide (x.tmod m < 0) = false := by simpa using h
    rw [if_neg h]
    refine goA ?_
    exact rfl
theorem tmod_pos {x m : Int} (h : 0 ≤ x) : x.tmod m = x % m := Int.tmod_eq_emod_of_nonneg h
theorem posC_far {d : Int} (h : d < -4000 ∨ -1 < d) : posC d = 2 := by unfold posC; rw [if_pos h]
theorem possibleG (d : Int) : PC Try.prog 58 [iV d] (iV (posC d)) := by
  by_cases h : d < -4000 ∨ -1 < d
  · rw [posC_far h]
    by_cases l1 : d < -4000
    · have k : decide (d < -4000) = true := by simpa using l1
      refine pc_body1 true Try.func58 rfl rfl rfl (Nat.le_of_ble_eq_true rfl) CellT.tmp ?_
      refine goA ?_
      exact rfl
    · have k1 : decide (d < -4000) = false := by simpa using l1
      have k : decide (d > -1) = true := by simp; omega
      refine pc_body1 true Try.func58 rfl rfl rfl (Nat.le_of_ble_eq_true rfl) CellT.tmp ?_
      refine goA ?_
      exact rfl
  · exact possible_p (by unfold Bd; omega)
theorem ClassesG (d : Int) : PC Try.prog 22 [iV d] (clsO d) := by
  by_cases h : posC d = 0
  · exact Classes_p (by have := posC_zero h; unfold Bd; omega)
  have c1 := possibleG d
  unfold clsO
  rw [if_neg h]
  have k : (posC d != 0) = true := by simpa using h
  generalize posC d = c at *
  refine pc_body2 true Try.func22 rfl rfl rfl (Nat.le_of_ble_eq_true rfl) CellT.tmp CellT.tmp ?_
  refine goA ?_
  refine evG ggA (ss_call (InB_of rfl) rfl rfl c1) ?_
  refine goA ?_
  exact rfl
theorem NumberG (d : Int) : PC Try.prog 29 [iV d] (numO d) := by
  by_cases h : posC d = 0
  · exact Number_p (by have := posC_zero h; unfold Bd; omega)
  have c1 := possibleG d
  unfold numO
  rw [if_neg h]
  have k : (posC d != 0) = true := by simpa using h
  generalize posC d = c at *
  refine pc_body2 true Try.func29 rfl rfl rfl (Nat.le_of_ble_eq_true rfl) CellT.tmp CellT.tmp ?_
  refine goA ?_
  refine evG ggA (ss_call (InB_of rfl) rfl rfl c1) ?_
  refine goA ?_
  exact rfl
theorem weightedG (d : Int) : PC Try.prog 30 [iV d] (wclO d) := by
  by_cases h : posC d = 0
  · exact weighted_p (by have := posC_zero h; unfold Bd; omega)
  have c1 := possibleG d
  unfold wclO
  rw [if_neg h]
  have k : (posC d != 0) = true := by simpa using h
  generalize posC d = c at *
  refine pc_body2 true Try.func30 rfl rfl rfl (Nat.le_of_ble_eq_true rfl) (CellT.agg agg_rat) CellT.tmp ?_
  refine goA ?_
  refine evG ggA (ss_call (InB_of rfl) rfl rfl c1) ?_
  refine goA ?_
  exact rfl
theorem IdentityG (d : Int) : PC Try.prog 23 [iV d] (idO d) := by
  by_cases h : posC d = 0
  · exact Identity_p (by have := posC_zero h; unfold Bd; omega)
  have c1 := possibleG d
  unfold idO
  rw [if_neg h]
  have k : (posC d != 0) = true := by simpa using h
  generalize posC d = c at *
  refine pc_body2 true Try.func23 rfl rfl rfl (Nat.le_of_ble_eq_true rfl) (CellT.agg agg_F) CellT.tmp ?_
  refine goA ?_
  refine evG ggA (ss_call (InB_of rfl) rfl rfl c1) ?_
  refine goA ?_
  exact rfl
theorem ridentity_p {d : Int} (h0 : -4000 ≤ d) (h1 : d < 0) : PC Try.prog 36 [iV d] (fA (idF d)) := by
  have c1 := mod_p (x := d) (m := 2) (by unfold Bd; omega) (by decide) (by decide)
  have hm : d % 2 = 0 ∨ d % 2 = 1 := by omega
  have ht : d.tmod 2 = 0 ↔ d % 2 = 0 := by
    rw [← Int.dvd_iff_tmod_eq_zero]
    omega
  unfold idF
  rcases hm with hm | hm
  · rw [if_pos (ht.2 hm)]
    rw [hm] at c1
    have z := tdiv_bd (y := 4) (N := 4000) (x := 0 - d) (by unfold Bd; omega)
    unfold Bd at z
    refine pc_body1 true Try.func36 rfl rfl rfl (Nat.le_of_ble_eq_true rfl) (CellT.agg agg_F) ?_
    refine goA ?_
    refine evG ggA (ss_call (InB_of rfl) rfl rfl c1) ?_
    refine goA ?_
    refine evG ggA (ss_div (InB_of rfl) rfl rfl (by omega) (w64 (by omega) (by omega))) ?_
    refine goA ?_
    exact rfl
  · rw [if_neg (fun h => by have := ht.1 h; omega)]
    rw [hm] at c1
    have z := tdiv_bd (y := 4) (N := 4001) (x := 1 - d) (by unfold Bd; omega)
    unfold Bd at z
    refine pc_body1 true Try.func36 rfl rfl rfl (Nat.le_of_ble_eq_true rfl) (CellT.agg agg_F) ?_
    refine goA ?_
    refine evG ggA (ss_call (InB_of rfl) rfl rfl c1) ?_
    refine goA ?_
    refine evG ggA (ss_div (InB_of rfl) rfl rfl (by omega) (w64 (by omega) (by omega))) ?_
    refine goA ?_
    exact rfl
theorem err_p (d : Int) : PC Try.prog 31 [iV d] (iV (posC d)) := by
  unfold posC
  by_cases h : d < -4000 ∨ -1 < d
  · rw [if_pos h]
    by_cases l1 : 0 ≤ d
    · have k : decide (d ≥ 0) = true := by simpa using l1
      refine pc_body1 true Try.func31 rfl rfl rfl (Nat.le_of_ble_eq_true rfl) CellT.tmp ?_
      refine goA ?_
      exact rfl
    · have k1 : decide (d ≥ 0) = false := by simpa using l1
      have k : decide (d < -4000) = true := by simp; omega
      refine pc_body1 true Try.func31 rfl rfl rfl (Nat.le_of_ble_eq_true rfl) CellT.tmp ?_
      refine goA ?_
      exact rfl
  rw [if_neg h]
  have c1 := mod_p (x := d) (m := 4) (by unfold Bd; omega) (by decide) (by decide)
  have k1 : decide (d ≥ 0) = false := by simp; omega
  have k2 : decide (d < -4000) = false := by simp; omega
  rw [tmod_pos (show 0 ≤ 0 - d by omega)]
  by_cases c : 1 < d % 4
  · have k : decide (d % 4 > 1) = true := by simpa using c
    rw [if_pos (by omega)]
    refine pc_body1 true Try.func31 rfl rfl rfl (Nat.le_of_ble_eq_true rfl) CellT.tmp ?_
    refine goA ?_
    refine evG ggA (ss_call (InB_of rfl) rfl rfl c1) ?_
    refine goA ?_
    exact rfl
  · have k : decide (d % 4 > 1) = false := by simpa using c
    rw [if_neg (by omega)]
    refine pc_body1 true Try.func31 rfl rfl rfl (Nat.le_of_ble_eq_true rfl) CellT.tmp ?_
    refine goA ?_
    refine evG ggA (ss_call (InB_of rfl) rfl rfl c1) ?_
    refine goA ?_
    exact rfl
theorem posC_mod {d : Int} (h : posC d = 0) : d % 4 = 0 ∨ d % 4 = 1 := by
  have hz := posC_zero h
  unfold posC at h
  rw [if_neg (by omega)] at h
  split at h
  · cases h
  · rename_i h1
    rw [tmod_pos (show 0 ≤ 0 - d by omega)] at h1
    omega
theorem idF_facts {d : Int} (h : posC d = 0) : (idF d).Pos ∧ FBd 10000 (idF d) ∧ (idF d).disc = d ∧ (idF d).ct = 1 := by
  have hz := posC_zero h
  have hm := posC_mod h
  have ht : d.tmod 2 = 0 ↔ d % 2 = 0 := by
    rw [← Int.dvd_iff_tmod_eq_zero]
    omega
  have hd : (idF d).disc = d := by
    unfold idF
    split
    · rename_i h2
      rw [Int.tdiv_eq_ediv_of_nonneg (by omega)]
      show 0 * 0 - 4 * 1 * ((0 - d) / 4) = d
      have := ht.1 h2
      omega
    · rename_i h2
      rw [Int.tdiv_eq_ediv_of_nonneg (by omega)]
      show 1 * 1 - 4 * 1 * ((1 - d) / 4) = d
      have : ¬ d % 2 = 0 := fun e => h2 (ht.2 e)
      omega
  have ha : (idF d).a = 1 := by unfold idF; split <;> rfl
  refine ⟨⟨by rw [ha]; decide, by rw [hd]; exact hz.2⟩, ?_, hd, ?_⟩
  · unfold idF
    split
    · rw [Int.tdiv_eq_ediv_of_nonneg (by omega)]
      exact ⟨by unfold Bd; simp only; omega, by unfold Bd; simp only; omega, by unfold Bd; simp only; omega⟩
    · rw [Int.tdiv_eq_ediv_of_nonneg (by omega)]
      exact ⟨by unfold Bd; simp only; omega, by unfold Bd; simp only; omega, by unfold Bd; simp only; omega⟩
  · unfold F.ct
    rw [ha]
    simp
theorem autN_id {d : Int} (h : posC d = 0) : autN (idF d) = uni d := by
  obtain ⟨p, -, hd, hc⟩ := idF_facts h
  have e := units_eq p
  rw [hd, hc] at e
  rw [show ((1 : Nat) : Int) * ((1 : Nat) : Int) = 1 from rfl, Int.tdiv_one] at e
  exact e.symm
theorem rweighted_p {d : Int} (h : posC d = 0) : PC Try.prog 35 [iV d] (encQ (wcl d)) := by
  have hz := posC_zero h
  obtain ⟨p, b, -, -⟩ := idF_facts h
  have c1 := rclasses_p hz.1 hz.2
  have c2 := ridentity_p hz.1 hz.2
  have c3 := rautomorphs_p p b
  rw [autN_id h] at c3
  have hu := uni_cases d
  have hl : (cls d).length ≤ 74 * 36 := cA_len d 36 (Nat.le_refl _)
  have c4 := frac_g (n := 2 * ((cls d).length : Nat)) (d := uni d) (by unfold Bd; omega) (by omega) (by unfold Bd; omega)
  have e : Rat.divInt (2 * ((cls d).length : Nat)) (uni d) = wcl d := by
    unfold wcl
    rcases hu with e | e | e <;> rw [e]
    · rw [show (6 : Int) = 2 * 3 from rfl, Rat.divInt_mul_left (by decide)]; rfl
    · rw [show (4 : Int) = 2 * 2 from rfl, Rat.divInt_mul_left (by decide)]; rfl
    · have := Rat.divInt_mul_left (n := ((cls d).length : Nat)) (d := 1) (a := 2) (by decide)
      exact this
  rw [e] at c4
  have hlm : ((cls d).map fA).length = (cls d).length := List.length_map ..
  rw [← hlm] at c4 hl
  clear e p b hlm
  generalize wcl d = w at *
  generalize uni d = u at *
  generalize (cls d).map fA = L at *
  generalize idF d = i at *
  refine pc_body1 true Try.func35 rfl rfl rfl (Nat.le_of_ble_eq_true rfl) (CellT.agg agg_rat) ?_
  refine goA ?_
  refine evG ggA (ss_call (InB_of rfl) rfl rfl c1) ?_
  refine goA ?_
  refine evG ggA (ss_call (InB_of rfl) rfl rfl c2) ?_
  refine goA ?_
  refine evG ggA (ss_call (InB_of rfl) rfl rfl c3) ?_
  refine goA ?_
  refine evG ggA (ss_call (InB_of rfl) rfl rfl c4) ?_
  refine goA ?_
  exact rfl
set_option maxHeartbeats 2000000 in
theorem classesL_p (d : Int) : PC Try.prog 8 [iV d] (bV true) := by
  have ca := awake_p
  have c1 := ClassesG d
  have c2 := NumberG d
  have c3 := weightedG d
  have c4 := IdentityG d
  have c5 := err_p d
  unfold clsO at c1
  unfold numO at c2
  unfold wclO at c3
  unfold idO at c4
  by_cases h : posC d = 0
  case neg =>
    rw [if_neg h] at c1 c2 c3 c4
    have k : (posC d != 0) = true := by simpa using h
    have k2 : (posC d == posC d) = true := by simp
    have cz := sameRat_p ((false, []), (false, [])) ((false, []), (false, [])) (by decide) (by decide)
    rw [decide_eq_true rfl] at cz
    generalize posC d = c at *
    refine pc_body1 true Try.func8 rfl rfl rfl (Nat.le_of_ble_eq_true rfl) CellT.tmp ?_
    refine goA ?_
    refine evG ggA (ss_call (InB_of rfl) rfl rfl ca) ?_
    refine goA ?_
    refine evG ggA (ss_call (InB_of rfl) rfl rfl c1) ?_
    refine goA ?_
    refine evG ggA (ss_call (InB_of rfl) rfl rfl c2) ?_
    refine goA ?_
    refine evG ggA (ss_call (InB_of rfl) rfl rfl c3) ?_
    refine goA ?_
    refine evG ggA (ss_call (InB_of rfl) rfl rfl c4) ?_
    refine goA ?_
    refine evG ggA (ss_call (InB_of rfl) rfl rfl c5) ?_
    refine goA ?_
    refine evG ggA (ss_call (InB_of rfl) rfl rfl cz) ?_
    refine goA ?_
    refine evG ggA (ss_eq3 (InB_of rfl) rfl rfl rfl rfl) ?_
    refine goA ?_
    exact rfl
  rw [if_pos h] at c1 c2 c3 c4
  rw [h] at c5
  have hz := posC_zero h
  have d1 := rclasses_p hz.1 hz.2
  have d2 := rsame_p (cls d) (cls d) (by have : (cls d).length ≤ 74 * 36 := cA_len d 36 (Nat.le_refl _); omega) (by have : (cls d).length ≤ 74 * 36 := cA_len d 36 (Nat.le_refl _); omega)
  rw [decide_eq_true rfl] at d2
  have d3 := rweighted_p h
  have d4 := ridentity_p hz.1 hz.2
  have hw := wcl_ht d
  have d5 := sameRat_p (rq (wcl d)) (rq (wcl d)) (Nat.le_trans (dgs_len (z := (wcl d).num.natAbs) (k := 4) hw.1) (by decide)) (Nat.le_trans (dgs_len (z := ((wcl d).den : Int).natAbs) (k := 4) (by rw [Int.natAbs_natCast]; exact hw.2)) (by decide))
  rw [decide_eq_true rfl, ← encQ_raw] at d5
  have hlm : ((cls d).map fA).length = (cls d).length := List.length_map ..
  rw [← hlm] at c2
  have k3 : ((((cls d).map fA).length : Int) == (((cls d).map fA).length : Int)) = true := by simp
  have e0 : encQ (wcl d) = .agg (ci (wcl d).num ++ ci (wcl d).den) := rfl
  rw [e0] at c3 d3 d5
  clear hlm hw hz h e0
  generalize (cls d).map fA = L at *
  generalize wcl d = w at *
  generalize idF d = i at *
  refine pc_body1 true Try.func8 rfl rfl rfl (Nat.le_of_ble_eq_true rfl) CellT.tmp ?_
  refine goA ?_
  refine evG ggA (ss_call (InB_of rfl) rfl rfl ca) ?_
  refine goA ?_
  refine evG ggA (ss_call (InB_of rfl) rfl rfl c1) ?_
  refine goA ?_
  refine evG ggA (ss_call (InB_of rfl) rfl rfl c2) ?_
  refine goA ?_
  refine evG ggA (ss_call (InB_of rfl) rfl rfl c3) ?_
  refine goA ?_
  refine evG ggA (ss_call (InB_of rfl) rfl rfl c4) ?_
  refine goA ?_
  refine evG ggA (ss_call (InB_of rfl) rfl rfl c5) ?_
  refine goA ?_
  refine evG ggA (ss_call (InB_of rfl) rfl rfl d1) ?_
  refine goA ?_
  refine evG ggA (ss_call (InB_of rfl) rfl rfl d2) ?_
  refine goA ?_
  refine evG ggA (ss_call (InB_of rfl) rfl rfl d3) ?_
  refine goA ?_
  refine evG ggA (ss_call (InB_of rfl) rfl rfl d5) ?_
  refine goA ?_
  refine evG ggA (ss_call (InB_of rfl) rfl rfl d4) ?_
  refine goA ?_
  refine evG ggA (ss_eq3 (InB_of rfl) rfl rfl rfl rfl) ?_
  refine goA ?_
  rw [decide_eq_true rfl]
  exact rfl
end Ab
