/- The reader's parts: bytes and numbers. -/
import Derived.Test.YtbpdgaolmikjbaaGreatIcB
set_option linter.all false
namespace Ab
open Go Go.RowKit Go.Proofs Hp
set_option maxRecDepth 100000
set_option maxHeartbeats 4000000
abbrev RR (l : List Nat) (b : Bool) (lv : Int) : List (Nat × Blk) := [(100, .var [.v (.sl (l.map nV)), .v (boV b), .v (iV lv)])]
def qV' (n : Nat) : AV := .p (.int .u64 n)
theorem Zdw (l : List Nat) : ∀ a, a ∈ l.map nV → a.cells.length = 1 := fun a h => by
 obtain ⟨n, -, rfl⟩ := List.mem_map.1 h; rfl
theorem PCM.up {dm : Bool} {P : Program} {f : FuncId} {args : List TV} {L L' : List (Nat × Blk)} {nd : Bool} {res : TV} (h : PCM false P f args L nd res L') : PCM dm P f args L nd res L' := ⟨h.1, fun w M0 hM => h.2 w M0 hM.weak⟩
theorem r_byte_bad (l : List Nat) (b : Bool) (lv : Int) (h : b = true ∨ l = []) (nd : Bool := true) : PCM false Tryz.prog 145 [.ptr 100 0] (RR l b lv) nd (.v (nV 0)) (RR l true lv) := by
  cases nd
  all_goals
    refine Zay Tryz.func145 rfl rfl rfl (Nat.le_of_ble_eq_true rfl) ?_
    cases b with
    | true =>
      refine goI ?_
      exact ⟨.inr rfl, by exact Zak⟩
    | false =>
      obtain rfl : l = [] := by simpa using h
      refine goI ?_
      exact ⟨.inr rfl, by exact Zak⟩
theorem r_byte (c : Nat) (l : List Nat) (lv : Int) (nd : Bool := true) : PCM false Tryz.prog 145 [.ptr 100 0] (RR (c :: l) false lv) nd (.v (nV c)) (RR l false lv) := by
 have d1 : ((((c :: l).map nV).length : Int) == 0) = false := by simp; omega
 have hx : ((c :: l).map nV)[(0 : Int).toNat]? = some (nV c) := rfl
 have hln : (1 : Int) ≤ (((c :: l).map nV).length : Int) := by simp; omega
 cases nd
 all_goals
  refine Zay Tryz.func145 rfl rfl rfl (Nat.le_of_ble_eq_true rfl) ?_
  refine goI ?_
  refine evG ggA (Zab (Zaa rfl) (Zac rfl) rfl rfl (by decide) hx rfl) ?_
  refine goI ?_
  refine evG ggA (ss_slice_l (Zaa rfl) (Zac rfl) rfl (Zdw (c :: l)) rfl (by decide) hln) ?_
  refine goI ?_
  exact ⟨.inr rfl, by exact Zak⟩
def rdN : Nat → Nat → List Nat → Nat × List Nat × Bool
 | _, _, [] => (0, [], true)
 | k, n, c :: l => if k = 9 ∧ 1 < c then (0, l, true) else if c < 128 then (n + c % 128 * 2 ^ (7 * k), l, c == 0 && decide (0 < k)) else rdN (k + 1) (n + c % 128 * 2 ^ (7 * k)) l
theorem rdn_bad (l : List Nat) (lv : Int) : PCM false Tryz.prog 129 [.ptr 100 0] (RR l true lv) true (.v (qV' 0)) (RR l true lv) := by
 have c := r_byte_bad l true lv (.inl rfl)
 refine Zay Tryz.func129 rfl rfl rfl (Nat.le_of_ble_eq_true rfl) ?_
 refine goI ?_
 refine T.unroll 1 ?_
 refine goI ?_
 refine mcA c ?_
 refine goI ?_
 exact ⟨.inr rfl, by exact Zak⟩
theorem rd_lt {k n c : Nat} (hk : k ≤ 9) (hn : n < 2 ^ (7 * k)) (h9 : ¬ (k = 9 ∧ 1 < c)) : n + c % 128 * 2 ^ (7 * k) < 2 ^ 64 ∧ (k < 9 → n + c % 128 * 2 ^ (7 * k) < 2 ^ (7 * (k + 1))) := by
 by_cases h : k = 9
 ·have hc : c ≤ 1 := by omega
  subst h
  clear h9
  simp only [Nat.reduceMul, Nat.reduceAdd, Nat.reducePow] at *
  omega
 ·have : k = 0 ∨ k = 1 ∨ k = 2 ∨ k = 3 ∨ k = 4 ∨ k = 5 ∨ k = 6 ∨ k = 7 ∨ k = 8 := by omega
  clear h9 h hk
  rcases this with rfl | rfl | rfl | rfl | rfl | rfl | rfl | rfl | rfl
  all_goals
   simp only [Nat.reduceMul, Nat.reduceAdd, Nat.reducePow] at *
   omega
theorem rdn_p (l : List Nat) (hl : By l) (lv : Int) : PCM false Tryz.prog 129 [.ptr 100 0] (RR l false lv) true (.v (qV' (rdN 0 0 l).1)) (RR (rdN 0 0 l).2.1 (rdN 0 0 l).2.2 lv) := by
  refine Zay Tryz.func129 rfl rfl rfl (Nat.le_of_ble_eq_true rfl) ?_
  refine goI ?_
  refine T.loop (fun N s1 => ∃ (k n : Nat) (q : List Nat), N = 9 - k ∧ k ≤ 9 ∧ n < 2 ^ (7 * k) ∧ By q ∧ rdN 0 0 l = rdN k n q ∧ s1 = mkP [(0, .ptr 100 0), (3, .v (qV' n)), (4, .v (iV ((7 * k : Nat) : Int)))] (RR q false lv) 48 true [100]) 9
    (s' := mkP [(0, .ptr 100 0), (3, .v (qV' 0)), (4, .v (iV ((7 * 0 : Nat) : Int)))] (RR l false lv) 48 true [100]) (by exact Zak) ⟨0, 0, l, rfl, by omega, by omega, hl, rfl, rfl⟩ ?_
  rintro _ _ ⟨k, n, q, rfl, hk, hn, hq, hr, rfl⟩
  rw [hr]
  cases q with
  | nil =>
    have c := r_byte_bad [] false lv (.inr rfl)
    rw [rdN]
    refine goI ?_
    refine mcA c ?_
    refine goI ?_
    exact ⟨.inr rfl, by exact Zak⟩
  | cons c q =>
    have hc := hq c (List.mem_cons_self ..)
    have hq' : By q := fun x hx => hq x (List.mem_cons_of_mem _ hx)
    have cb := r_byte c q lv
    have d1 : decide (((7 * k : Nat) : Int) > 63) = false := decide_eq_false (by omega)
    rw [rdN]
    by_cases hk9 : k = 9 ∧ 1 < c
    · rw [if_pos hk9]
      obtain ⟨rfl, h1⟩ := hk9
      have d2 : (((7 * 9 : Nat) : Int) == 63) = true := rfl
      have d3 : decide ((c : Int) > 1) = true := decide_eq_true (by omega)
      refine goI ?_
      refine mcA cb ?_
      refine goI ?_
      exact ⟨.inr rfl, by exact Zak⟩
    · rw [if_neg hk9]
      obtain ⟨b1, b2⟩ := rd_lt hk hn hk9
      have e1 : IntKind.u64.wrap (((c % 128 : Nat) : Int) * 2 ^ (min (((7 * k : Nat) : Int)).toNat IntKind.u64.bits)) = ((c % 128 * 2 ^ (7 * k) : Nat) : Int) := by
        rw [Int.toNat_natCast, show min (7 * k) IntKind.u64.bits = 7 * k from Nat.min_eq_left (by show 7 * k ≤ 64; omega)]
        have : ((c % 128 : Nat) : Int) * 2 ^ (7 * k) = ((c % 128 * 2 ^ (7 * k) : Nat) : Int) := by rw [Int.natCast_mul, Int.natCast_pow]; rfl
        rw [this]
        exact u64w (by omega) (by omega)
      have e2 := or64 hn b1
      have hs : (((7 * k : Nat) : Int)) + 7 = ((7 * (k + 1) : Nat) : Int) := by omega
      generalize hX : n + c % 128 * 2 ^ (7 * k) = X at *
      have key : ((((7 * k : Nat) : Int) == 63) = false) ∨ ((((7 * k : Nat) : Int) == 63) = true ∧ decide ((c : Int) > 1) = false ∧ c < 128) := by
        by_cases h : k = 9
        · subst h
          refine .inr ⟨rfl, decide_eq_false (by omega), by omega⟩
        · refine .inl ?_
          simp
          omega
      by_cases h128 : c < 128
      · rw [if_pos h128]
        have d4 : decide ((c : Int) < 128) = true := decide_eq_true (by omega)
        by_cases hc0 : c = 0
        · subst hc0
          have d5 : (((0 : Nat) : Int) == 0) = true := rfl
          by_cases hk0 : 0 < k
          · have d6 : decide (((7 * k : Nat) : Int) > 0) = true := decide_eq_true (by omega)
            rw [show ((0 : Nat) == 0 && decide (0 < k)) = true by simp [hk0]]
            rcases key with d2 | ⟨d2, d3, -⟩
            all_goals
              refine goI ?_
              refine mcA cb ?_
              refine goI ?_
              refine evG ggA (Zbp (Zaa rfl) rfl rfl rfl (and8 hc)) ?_
              refine evG ggA (Zag (Zaa rfl) Za3 Za0 rfl (u64w (by omega) (by omega))) ?_
              refine goI ?_
              refine evG ggA (Zdf (Zaa rfl) rfl rfl (by omega) e1) ?_
              refine evG ggA (Zbp (Zaa rfl) rfl rfl rfl e2) ?_
              refine goI ?_
              exact ⟨.inr rfl, by exact Zak⟩
          · have d6 : decide (((7 * k : Nat) : Int) > 0) = false := decide_eq_false (by omega)
            rw [show ((0 : Nat) == 0 && decide (0 < k)) = false by simp [hk0]]
            rcases key with d2 | ⟨d2, d3, -⟩
            all_goals
              refine goI ?_
              refine mcA cb ?_
              refine goI ?_
              refine evG ggA (Zbp (Zaa rfl) rfl rfl rfl (and8 hc)) ?_
              refine evG ggA (Zag (Zaa rfl) Za3 Za0 rfl (u64w (by omega) (by omega))) ?_
              refine goI ?_
              refine evG ggA (Zdf (Zaa rfl) rfl rfl (by omega) e1) ?_
              refine evG ggA (Zbp (Zaa rfl) rfl rfl rfl e2) ?_
              refine goI ?_
              exact ⟨.inr rfl, by exact Zak⟩
        · have d5 : ((c : Int) == 0) = false := by simp; omega
          rw [show (c == 0 && decide (0 < k)) = false by simp [hc0]]
          rcases key with d2 | ⟨d2, d3, -⟩
          all_goals
            refine goI ?_
            refine mcA cb ?_
            refine goI ?_
            refine evG ggA (Zbp (Zaa rfl) rfl rfl rfl (and8 hc)) ?_
            refine evG ggA (Zag (Zaa rfl) Za3 Za0 rfl (u64w (by omega) (by omega))) ?_
            refine goI ?_
            refine evG ggA (Zdf (Zaa rfl) rfl rfl (by omega) e1) ?_
            refine evG ggA (Zbp (Zaa rfl) rfl rfl rfl e2) ?_
            refine goI ?_
            exact ⟨.inr rfl, by exact Zak⟩
      · rw [if_neg h128]
        have d4 : decide ((c : Int) < 128) = false := decide_eq_false (by omega)
        have d2 : (((7 * k : Nat) : Int) == 63) = false := by
          rcases key with d2 | ⟨-, -, h⟩
          · exact d2
          · exact absurd h h128
        have hk8 : k < 9 := by
          rcases Nat.lt_or_ge k 9 with h | h
          · exact h
          · exfalso
            have : k = 9 := by omega
            subst this
            cases d2
        refine goI ?_
        refine mcA cb ?_
        refine goI ?_
        refine evG ggA (Zbp (Zaa rfl) rfl rfl rfl (and8 hc)) ?_
        refine evG ggA (Zag (Zaa rfl) Za3 Za0 rfl (u64w (by omega) (by omega))) ?_
        refine goI ?_
        refine evG ggA (Zdf (Zaa rfl) rfl rfl (by omega) e1) ?_
        refine evG ggA (Zbp (Zaa rfl) rfl rfl rfl e2) ?_
        refine goI ?_
        exact Zad (k := 9 - (k + 1)) (s' := mkP [(0, .ptr 100 0), (3, .v (qV' X)), (4, .v (iV (((7 * k : Nat) : Int) + 7)))] (RR q false lv) 48 true [100]) (by omega) (by exact Zak) ⟨k + 1, X, q, rfl, by omega, b2 hk8, hq', rfl, by rw [hs]⟩
end Ab
