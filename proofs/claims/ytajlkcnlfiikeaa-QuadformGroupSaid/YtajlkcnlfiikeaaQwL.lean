/- Hurwitz class numbers: walked. -/
import Derived.Test.YtajlkcnlfiikeaaQwK
set_option linter.all false
namespace Ab
open Go Go.RowKit Go.Proofs Hp Qf
set_option maxRecDepth 100000

def hwT (n f : Int) : Rat := if n.tmod (f * f) = 0 ∧ posC ((0 - n).tdiv (f * f)) = 0 then wcl ((0 - n).tdiv (f * f)) else 0
def hwS (n : Int) : Nat → Rat
  | 0 => 0
  | j + 1 => hwS n j + hwT n ((j : Int) + 1)
def hw (n : Int) : Rat := if n = 0 then Rat.divInt (-1) 12 else hwS n 63
def hwO (n : Int) : AV := if n < 0 ∨ 4000 < n then .tup [.agg [.p (.bool false), .sl [], .p (.bool false), .sl []], iV 2] else .tup [encQ (hw n), iV 0]
theorem wcl_ht (d : Int) : Ht (wcl d) 4 := by
  have hu := uni_cases d
  have hl := cA_len d 36 (Nat.le_refl _)
  have hll : (cls d).length ≤ 74 * 36 := hl
  exact divInt_ht (small4 (by unfold Bd; omega)) (small4 (by unfold Bd; rcases hu with e | e | e <;> rw [e] <;> decide)) (by decide)
theorem ht0 : Ht (0 : Rat) 1 := by
  have := divInt_ht (p := 0) (d := 1) (k := 1) (by decide) (by decide) (by decide)
  simpa using this
theorem hwT_ht (n f : Int) : Ht (hwT n f) 4 := by
  unfold hwT
  split
  · exact wcl_ht _
  · exact ht0.mono (by decide)
theorem hwS_ht (n : Int) : ∀ j, Ht (hwS n j) (1 + 5 * j)
  | 0 => ht0
  | j + 1 => (ht_add (hwS_ht n j) (hwT_ht n _)).mono (by omega)
theorem hwT_zero {n f : Int} (h0 : 0 < n) (h : n < f * f) : hwT n f = 0 := by
  unfold hwT
  rw [if_neg]
  rintro ⟨e, -⟩
  rw [Int.tmod_eq_of_lt (by omega) h] at e
  omega
theorem hwS_stop {n : Int} (h0 : 0 < n) {j : Nat} (h : n < ((j : Int) + 1) * ((j : Int) + 1)) : ∀ m, hwS n (j + m) = hwS n j
  | 0 => rfl
  | m + 1 => by
    show hwS n (j + m + 1) = _
    rw [hwS, hwS_stop h0 h m, hwT_zero h0, Rat.add_zero]
    refine Int.lt_of_lt_of_le h (Int.mul_le_mul (by omega) (by omega) (by omega) (by omega))
set_option maxHeartbeats 4000000 in
theorem hurwitz_p {n : Int} (hn : Bd 4000000000000000000 n) : PC Try.prog 50 [iV n] (hwO n) := by
  unfold hwO
  by_cases l1 : n < 0
  case pos =>
    have k : decide (n < 0) = true := by simpa using l1
    rw [if_pos (.inl l1)]
    refine pc_body2 true Try.func50 rfl rfl rfl (Nat.le_of_ble_eq_true rfl) (CellT.agg agg_rat) CellT.tmp ?_
    refine goA ?_
    exact rfl
  have k1 : decide (n < 0) = false := by simpa using l1
  by_cases l2 : 4000 < n
  case pos =>
    have k : decide (n > 4000) = true := by simpa using l2
    rw [if_pos (.inr l2)]
    refine pc_body2 true Try.func50 rfl rfl rfl (Nat.le_of_ble_eq_true rfl) (CellT.agg agg_rat) CellT.tmp ?_
    refine goA ?_
    exact rfl
  have k2 : decide (n > 4000) = false := by simpa using l2
  rw [if_neg (by omega)]
  by_cases l3 : n = 0
  case pos =>
    have k : (n == 0) = true := by simpa using l3
    have c1 := iof_p (-1) (by decide) (by decide)
    have c2 := iof_p 12 (by decide) (by decide)
    have c3 := make_p (p := -1) (q := 12) (small4 (by unfold Bd; decide)) (small4 (by unfold Bd; decide)) (by decide)
    unfold hw
    rw [if_pos l3]
    refine pc_body2 true Try.func50 rfl rfl rfl (Nat.le_of_ble_eq_true rfl) (CellT.agg agg_rat) CellT.tmp ?_
    refine goA ?_
    refine evG ggA (ss_call (InB_of rfl) rfl rfl c1) ?_
    refine goA ?_
    refine evG ggA (ss_call (InB_of rfl) rfl rfl c2) ?_
    refine goA ?_
    refine evG ggA (ss_call (InB_of rfl) rfl rfl c3) ?_
    refine goA ?_
    exact rfl
  have k3 : (n == 0) = false := by simpa using l3
  have hw0 : hw n = hwS n 63 := by unfold hw; rw [if_neg l3]
  rw [hw0]
  have c0 := rof_p 0 (by decide) (by decide)
  have e0 : encQ (((0 : Int)) : Rat) = .agg (ci (hwS n 0).num ++ ci (hwS n 0).den) := rfl
  rw [e0] at c0
  refine pc_body2 true Try.func50 rfl rfl rfl (Nat.le_of_ble_eq_true rfl) (CellT.agg agg_rat) CellT.tmp ?_
  refine goA ?_
  refine evG ggA (ss_call (InB_of rfl) rfl rfl c0) ?_
  refine goA ?_
  refine T.loop (fun k s1 => ∃ j : Nat, j ≤ 63 ∧ k = 64 - j ∧ s1 = mkS [(0, .v (iV n)), (2, .ptr 2 0), (4, .ptr 4 0), (5, .v (iV ((j : Int) + 1)))] [(2, varQ0), (4, .var ((ci (hwS n j).num ++ ci (hwS n j).den).map .v))] 54 true) 64
    (s' := mkS [(0, .v (iV n)), (2, .ptr 2 0), (4, .ptr 4 0), (5, .v (iV 1))] [(2, varQ0), (4, .var ((ci (hwS n 0).num ++ ci (hwS n 0).den).map .v))] 54 true) (by exact entA) ⟨0, by decide, rfl, rfl⟩ ?_
  rintro _ _ ⟨j, hj, rfl, rfl⟩
  have q1 := bmul (show Bd 64 ((j : Int) + 1) by unfold Bd; omega) (show Bd 64 ((j : Int) + 1) by unfold Bd; omega)
  unfold Bd at q1 hn
  have hsp := Int.mul_pos (show (0 : Int) < (j : Int) + 1 by omega) (show (0 : Int) < (j : Int) + 1 by omega)
  by_cases c1 : ((j : Int) + 1) * ((j : Int) + 1) ≤ n
  case neg =>
    have b1 : decide (((j : Int) + 1) * ((j : Int) + 1) ≤ n) = false := by simpa using c1
    have e := hwS_stop (n := n) (by omega) (j := j) (by omega) (63 - j)
    rw [show j + (63 - j) = 63 by omega] at e
    rw [e]
    clear e hw0 e0 c0
    generalize hwS n j = q at *
    refine goA ?_
    exact rfl
  have b1 : decide (((j : Int) + 1) * ((j : Int) + 1) ≤ n) = true := by simpa using c1
  have hj62 : j ≤ 62 := by
    refine Classical.byContradiction fun hk => ?_
    obtain rfl : j = 63 := by omega
    omega
  have es : hwS n (j + 1) = hwS n j + hwT n ((j : Int) + 1) := rfl
  have ej : ((j + 1 : Nat) : Int) + 1 = (j : Int) + 1 + 1 := by omega
  have hh1 := hwS_ht n j
  have hh2 := wcl_ht ((0 - n).tdiv (((j : Int) + 1) * ((j : Int) + 1)))
  have cad := radd_p (isV_encQ hh1) (by omega) (isV_encQ hh2) (by omega)
  have hbt := tdiv_bd (y := ((j : Int) + 1) * ((j : Int) + 1)) (N := 4000) (x := 0 - n) (by unfold Bd; omega)
  have cw := weighted_p (d := (0 - n).tdiv (((j : Int) + 1) * ((j : Int) + 1))) (hbt.mono (by decide))
  unfold hwT at es
  unfold Bd at hbt
  have fin : ∀ (q : Rat), hwS n (j + 1) = q → ∀ s2 : AS, s2 = mkS [(0, .v (iV n)), (2, .ptr 2 0), (4, .ptr 4 0), (5, .v (iV ((j : Int) + 1 + 1)))] [(2, varQ0), (4, .var ((ci q.num ++ ci q.den).map .v))] 54 true →
      ∃ j' : Nat, j' ≤ 63 ∧ 64 - (j + 1) = 64 - j' ∧ s2 = mkS [(0, .v (iV n)), (2, .ptr 2 0), (4, .ptr 4 0), (5, .v (iV ((j' : Int) + 1)))] [(2, varQ0), (4, .var ((ci (hwS n j').num ++ ci (hwS n j').den).map .v))] 54 true :=
    fun q e s2 e2 => ⟨j + 1, by omega, rfl, by rw [e2, e, ej]⟩
  generalize hwS n (j + 1) = Q at *
  clear hw0 e0 c0 ej hh1 hh2
  generalize hwS n j = q at *
  by_cases c2 : n.tmod (((j : Int) + 1) * ((j : Int) + 1)) = 0
  case neg =>
    have b2 : (n.tmod (((j : Int) + 1) * ((j : Int) + 1)) != 0) = true := by simpa using c2
    rw [if_neg (fun h => c2 h.1), Rat.add_zero] at es
    refine goA ?_
    refine evG ggA (ss_div (op := .rem) (InB_of rfl) rfl rfl (by omega) rfl) ?_
    refine goA ?_
    exact loopQ_intro (k := 64 - (j + 1)) (s' := mkS [(0, .v (iV n)), (2, .ptr 2 0), (4, .ptr 4 0), (5, .v (iV ((j : Int) + 1 + 1)))] [(2, varQ0), (4, .var ((ci q.num ++ ci q.den).map .v))] 54 true) (by omega) (by exact entA) (fin q es _ rfl)
  have b2 : (n.tmod (((j : Int) + 1) * ((j : Int) + 1)) != 0) = false := by simpa using c2
  unfold wclO at cw
  by_cases c3 : posC ((0 - n).tdiv (((j : Int) + 1) * ((j : Int) + 1))) = 0
  · rw [if_pos ⟨c2, c3⟩] at es
    rw [if_pos c3] at cw
    generalize wcl ((0 - n).tdiv (((j : Int) + 1) * ((j : Int) + 1))) = r at *
    have e1 : encQ r = .agg (ci r.num ++ ci r.den) := rfl
    have e2 : encQ q = .agg (ci q.num ++ ci q.den) := rfl
    have e3 : encQ (q + r) = .agg (ci (q + r).num ++ ci (q + r).den) := rfl
    rw [e1] at cw cad
    rw [e2, e3] at cad
    refine goA ?_
    refine evG ggA (ss_div (op := .rem) (InB_of rfl) rfl rfl (by omega) rfl) ?_
    refine goA ?_
    refine evG ggA (ss_div (InB_of rfl) rfl rfl (by omega) (w64 (by omega) (by omega))) ?_
    refine goA ?_
    refine evG ggA (ss_call (InB_of rfl) rfl rfl cw) ?_
    refine goA ?_
    refine evG ggA (ss_call (InB_of rfl) rfl rfl cad) ?_
    refine goA ?_
    exact loopQ_intro (k := 64 - (j + 1)) (s' := mkS [(0, .v (iV n)), (2, .ptr 2 0), (4, .ptr 4 0), (5, .v (iV ((j : Int) + 1 + 1)))] [(2, varQ0), (4, .var ((ci (q + r).num ++ ci (q + r).den).map .v))] 54 true) (by omega) (by exact entA) (fin (q + r) es _ rfl)
  · rw [if_neg (fun h => c3 h.2), Rat.add_zero] at es
    rw [if_neg c3] at cw
    have k4 : (posC ((0 - n).tdiv (((j : Int) + 1) * ((j : Int) + 1))) == 0) = false := by simpa using c3
    generalize posC ((0 - n).tdiv (((j : Int) + 1) * ((j : Int) + 1))) = c at *
    refine goA ?_
    refine evG ggA (ss_div (op := .rem) (InB_of rfl) rfl rfl (by omega) rfl) ?_
    refine goA ?_
    refine evG ggA (ss_div (InB_of rfl) rfl rfl (by omega) (w64 (by omega) (by omega))) ?_
    refine goA ?_
    refine evG ggA (ss_call (InB_of rfl) rfl rfl cw) ?_
    refine goA ?_
    exact loopQ_intro (k := 64 - (j + 1)) (s' := mkS [(0, .v (iV n)), (2, .ptr 2 0), (4, .ptr 4 0), (5, .v (iV ((j : Int) + 1 + 1)))] [(2, varQ0), (4, .var ((ci q.num ++ ci q.den).map .v))] 54 true) (by omega) (by exact entA) (fin q es _ rfl)
end Ab
