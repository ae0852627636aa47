/- Lengths and ints read. -/
import Derived.Test.YtbpdgaolmikjbaaGreatRdB
set_option linter.all false
namespace Ab
open Go Go.RowKit Go.Proofs Hp
set_option maxRecDepth 100000
set_option maxHeartbeats 4000000
theorem Zbd : Tryz.prog.underlying 3 = some (.int .i64) := by kernel_rfl
theorem Zaw {l l' : List Nat} (h : ∃ j, l' = l.drop j) : l'.length ≤ l.length := by
 obtain ⟨j, rfl⟩ := h
 rw [List.length_drop]; omega
theorem r_length (l : List Nat) (hl : By l) (hn : l.length ≤ 1000000000) (b : Bool) (lv : Int) : ∃ (n : Nat) (l' : List Nat) (b' : Bool), PCM false Tryz.prog 106 [.ptr 100 0] (RR l b lv) true (.v (iV n)) (RR l' b' lv) ∧ n ≤ l'.length ∧ (∃ j, l' = l.drop j) ∧ (b = true → b' = true) ∧ (b' = false → l'.length < l.length) ∧
  ∀ m tail, m ≤ tail.length → b = false → l = eN m ++ tail → n = m ∧ l' = tail ∧ b' = false := by
 obtain ⟨n, l', b1, c, h1, h2, h3, h4, h5⟩ := r_number l hl b lv
 have hl' := Zaw h2
 have eml : (l'.map nV).length = l'.length := List.length_map ..
 have e1 : IntKind.u64.wrap (((l'.map nV).length : Int)) = (l'.length : Int) := by rw [eml]; exact u64w (by omega) (by omega)
 by_cases hgt : l'.length < n
 ·have d1 : decide ((n : Int) > (l'.length : Int)) = true := decide_eq_true (by omega)
  refine ⟨0, l', true, ?_, Nat.zero_le _, h2, fun _ => rfl, fun h => (by cases h), fun m tail hm hb e => ?_⟩
  ·refine Zay Tryz.func106 rfl rfl rfl (Nat.le_of_ble_eq_true rfl) ?_
   refine goI ?_
   refine mcA c ?_
   refine goI ?_
   refine evG ggA (Zag (Zaa rfl) Zbd Za0 rfl e1) ?_
   refine goI ?_
   exact ⟨.inr rfl, by exact Zak⟩
  ·obtain ⟨g1, g2, g3⟩ := h5 m tail (by have := congrArg List.length e; rw [List.length_append] at this; omega) hb e
   rw [g1, g2] at hgt; omega
 ·have d1 : decide ((n : Int) > (l'.length : Int)) = false := decide_eq_false (by omega)
  refine ⟨n, l', b1, ?_, by omega, h2, h3, h4, fun m tail hm hb e => h5 m tail (by have := congrArg List.length e; rw [List.length_append] at this; omega) hb e⟩
  refine Zay Tryz.func106 rfl rfl rfl (Nat.le_of_ble_eq_true rfl) ?_
  refine goI ?_
  refine mcA c ?_
  refine goI ?_
  refine evG ggA (Zag (Zaa rfl) Zbd Za0 rfl e1) ?_
  refine goI ?_
  refine evG ggA (Zag (Zaa rfl) Za0 Zbd rfl (w64 (by omega) (by omega))) ?_
  refine goI ?_
  exact ⟨.inr rfl, by exact Zak⟩
def unz (u : Nat) : Int := if u % 2 = 1 then -((u / 2 : Nat) : Int) - 1 else ((u / 2 : Nat) : Int)
theorem unz_zg (w : Int) : unz (zg w) = w := by
 unfold unz zg
 split
 ·rw [if_pos (by omega)]; omega
 ·rw [if_neg (by omega)]; omega
theorem unz_ok {u : Nat} (h : u < 18446744073709551616) : I64 (unz u) := by
 unfold unz I64
 split <;> omega
theorem r_int (l : List Nat) (hl : By l) (b : Bool) (lv : Int) : ∃ (v : Int) (l' : List Nat) (b' : Bool), PCM false Tryz.prog 107 [.ptr 100 0] (RR l b lv) true (.v (iV v)) (RR l' b' lv) ∧ I64 v ∧ (∃ j, l' = l.drop j) ∧ (b = true → b' = true) ∧ (b' = false → l'.length < l.length) ∧
  ∀ w tail, I64 w → b = false → l = eI w ++ tail → v = w ∧ l' = tail ∧ b' = false := by
 obtain ⟨n, l', b1, c, h1, h2, h3, h4, h5⟩ := r_number l hl b lv
 refine ⟨unz n, l', b1, ?_, unz_ok h1, h2, h3, h4, fun w tail hw hb e => ?_⟩
 ·have e0 := and1 (x := n) (by omega)
  have e1 : (n : Int).fdiv (2 ^ (min (1 : Int).toNat 64)) = ((n / 2 : Nat) : Int) := by rw [Int.fdiv_eq_ediv_of_nonneg _ (by decide)]; rfl
  refine Zay Tryz.func107 rfl rfl rfl (Nat.le_of_ble_eq_true rfl) ?_
  by_cases ho : n % 2 = 1
  ·have ev : unz n = -((n / 2 : Nat) : Int) - 1 := by unfold unz; rw [if_pos ho]
   have e2 := not64 (x := n / 2) (by omega)
   have e3 : IntKind.i64.wrap ((18446744073709551615 - n / 2 : Nat) : Int) = unz n := by rw [IntKind.wrap_i64, ev]; omega
   rw [ho] at e0
   refine goI ?_
   refine mcA c ?_
   refine goI ?_
   refine evG ggA (Zbp (Zaa rfl) rfl rfl rfl e0) ?_
   refine goI ?_
   refine evG ggA (Zbx (Zaa rfl) rfl rfl (by decide) e1) ?_
   refine evG ggA (ss_not64 (Zaa rfl) rfl e2) ?_
   refine evG ggA (Zag (Zaa rfl) Za0 Zbd rfl e3) ?_
   refine goI ?_
   exact ⟨.inr rfl, by exact Zak⟩
  ·have ev : unz n = ((n / 2 : Nat) : Int) := by unfold unz; rw [if_neg ho]
   have e3 : IntKind.i64.wrap ((n / 2 : Nat) : Int) = unz n := by rw [IntKind.wrap_i64, ev]; omega
   have ho : n % 2 = 0 := by omega
   rw [ho] at e0
   refine goI ?_
   refine mcA c ?_
   refine goI ?_
   refine evG ggA (Zbp (Zaa rfl) rfl rfl rfl e0) ?_
   refine goI ?_
   refine evG ggA (Zbx (Zaa rfl) rfl rfl (by decide) e1) ?_
   refine evG ggA (Zag (Zaa rfl) Za0 Zbd rfl e3) ?_
   refine goI ?_
   exact ⟨.inr rfl, by exact Zak⟩
 ·obtain ⟨g1, g2, g3⟩ := h5 (zg w) tail (zg_lt hw) hb e
  exact ⟨by rw [g1, unz_zg], g2, g3⟩
end Ab
