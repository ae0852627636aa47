/- What the program's comparison of lists of digits computes, its machine words, its copies and its integers out of a sign and digits; lists are not longer than 2^44. -/
import Derived.Test.YtmcfohngblbpbaaApp
namespace Hp
open Go Go.RowKit Go.Proofs

/-- the result is this value -/
def IsV (v : Value) (_ : World) (u : Value) : Prop := u = v
def cmpZ (a b : Int) : Int := if a < b then -1 else if a = b then 0 else 1
theorem cmpZ_lt {a b : Int} (h : a < b) : cmpZ a b = -1 := by simp [cmpZ, h]
theorem cmpZ_gt {a b : Int} (h : b < a) : cmpZ a b = 1 := by unfold cmpZ; rw [if_neg (by omega), if_neg (by omega)]
theorem cmpZ_eq (a : Int) : cmpZ a a = 0 := by simp [cmpZ]

theorem compare_c {w : World} {va vb : Value} {n m : Nat} {f g : Nat → Int} (ha : Dg w va n f) (hb : Dg w vb m g) (hn : n ≤ L) (hm : m ≤ L) (cf : Canon f n) (cg : Canon g m) :
    Calls Try.prog 113 #[va, vb] w (Ret w (IsV (.int .i64 (cmpZ (val f n) (val g m))))) := by
  have H1 : Hid (n < m → cmpZ (val f n) (val g m) = sgn (n - m)) := fun h => by
    have : val f n < val g m := by
      by_cases hc : val g m ≤ val f n
      · have := canon_len hb.dig ha.dig cg hc; omega
      · omega
    rw [cmpZ_lt this]; unfold sgn; rw [if_pos (by omega)]
  have H2 : Hid (m < n → cmpZ (val f n) (val g m) = sgn (n - m)) := fun h => by
    have : val g m < val f n := by
      by_cases hc : val f n ≤ val g m
      · have := canon_len ha.dig hb.dig cf hc; omega
      · omega
    rw [cmpZ_gt this]; unfold sgn; rw [if_neg (by omega), if_pos (by omega)]
  have HA := Lib.hid ha.dig
  have HB := Lib.hid hb.dig
  obtain ⟨xa, ca, rfl, hca, hda⟩ := ha
  obtain ⟨xb, cb, rfl, hcb, hdb⟩ := hb
  unfold L at hn hm
  by_cases hnm : n = m
  · subst hnm
    have hbb : ((n : Int) != (n : Int)) = false := by simp
    clear H1 H2
    go_enter Try.func113, Try.ntmps113
    go_wp2_with fail
    go_loopw [5] (fun i wr => ∃ k : Nat, k ≤ n ∧ i = .int .i64 ((k : Int) - 1) ∧ Hid (∀ i, k ≤ i → i < n → f i = g i) ∧ Hid (Below w.heap.size w wr)) (fun i _ => (intOf i + 1).toNat)
    case atStart => exact ⟨n, Nat.le_refl _, rfl, fun i a b => by omega, Below.refl _ _⟩
    case round =>
      obtain ⟨k, hk, rfl, HI, HW⟩ := hrel
      by_cases h0 : 0 < k
      · rcases hda with hda | ⟨b, off, rfl, hda⟩
        · omega
        rcases hdb with hdb | ⟨b', off', rfl, hdb⟩
        · omega
        obtain ⟨j, rfl⟩ : ∃ j, k = j + 1 := ⟨k - 1, by omega⟩
        rw [show (((j + 1 : Nat) : Int) - 1) = (j : Int) from by omega]
        have hc1 := (hda.below HW.out).cell j (by omega)
        have hc2 := (hdb.below HW.out).cell j (by omega)
        have hj0 : (0 : Int) ≤ (j : Int) := by omega
        have hj1 : (j : Int) < (n : Int) := by omega
        clear hda hdb
        by_cases e : f j = g j
        · have hne : (f j != g j) = false := by simp [e]
          have HE := Lib.hid e
          clear e
          go_wp2
          go_quiet (fail)
          go_wp2
          go_roundw
          case rel => exact ⟨j, by omega, rfl, fun i a b => by
                        by_cases e : i = j
                        · rw [e]; exact HE.out
                        · exact HI.out i (by omega) b, HW.out.trans ⟨rfl, rfl, rfl, Nat.le_refl _, fun _ _ => rfl⟩⟩
          case measure => first | (simp [intOf]; done) | (simp [intOf]; omega)
        · have hne : (f j != g j) = true := by simp [e]
          by_cases hl : f j < g j
          · have HE := Lib.hid (cmpZ_lt (val_lt_of HA.out HB.out (show j < n by omega) (fun i a b => HI.out i (by omega) b) hl))
            have hdl : decide (f j < g j) = true := by simp [hl]
            clear e
            go_wp2
            go_quiet (fail)
            go_wp2
            go_quiet (fail)
            go_wp2
            go_ret
            exact .mk rfl (HW.out.trans ⟨rfl, rfl, rfl, Nat.le_refl _, fun _ _ => rfl⟩) (by rw [HE.out]; try rfl)
          · have HE := Lib.hid (cmpZ_gt (val_lt_of HB.out HA.out (show j < n by omega) (fun i a b => (HI.out i (by omega) b).symm) (by omega)))
            have hdl : decide (f j < g j) = false := by simp [hl]
            clear e
            go_wp2
            go_quiet (fail)
            go_wp2
            go_quiet (fail)
            go_wp2
            go_ret
            exact .mk rfl (HW.out.trans ⟨rfl, rfl, rfl, Nat.le_refl _, fun _ _ => rfl⟩) (by rw [HE.out]; try rfl)
      · obtain rfl : k = 0 := by omega
        have HE : Hid (cmpZ (val f n) (val g n) = 0) := by
          have : val f n = val g n := val_congr (fun i hi => HI.out i (by omega) hi)
          show cmpZ _ _ = 0
          rw [this]; exact cmpZ_eq _
        go_wp2
        go_ret
        exact .mk rfl HW.out (by rw [HE.out]; try rfl)
  · have HE : Hid (cmpZ (val f n) (val g m) = sgn (n - m)) := by
      by_cases h : n < m
      · exact H1.out h
      · exact H2.out (by omega)
    have hbb : ((n : Int) != (m : Int)) = true := by simp; omega
    clear H1 H2
    go_enter Try.func113, Try.ntmps113
    go_wp2_with fail
    refine (sign_c _ _).mono ?_
    rintro e w' ⟨rfl, rfl⟩
    go_wp2
    go_ret
    exact .mk rfl (Below.refl _ _) (by rw [HE.out]; try rfl)
end Hp
