/- How large expressions are: the program's count and the document's. -/
import Derived.Test.YtbpdgaolmikjbaaGreatCaA
set_option linter.all false
namespace Ab
open Go Go.RowKit Go.Proofs Hp
set_option maxRecDepth 100000
set_option maxHeartbeats 4000000
mutual
def fit : PX → Nat → Nat → Option Nat
 | .mk _ _ _ _ gs, L, n => if L = 0 ∨ n = 0 then none else fits gs (L - 1) (n - 1)
def fits : List PX → Nat → Nat → Option Nat
  | [], _, n => some n
  | a :: l, L, n => match fit a L n with
    | none => none
    | some m => fits l L m
end
theorem fits_app : ∀ (l k : List PX) (L n : Nat), fits (l ++ k) L n = (fits l L n).bind (fits k L)
  | [], k, L, n => by simp [fits]
  | a :: l, k, L, n => by
    rw [List.cons_append, fits, fits]
    cases fit a L n with
    | none => rfl
    | some m => exact fits_app l k L m
mutual
theorem fit_le : ∀ (a : PX) (L n m : Nat), fit a L n = some m → m ≤ n
  | .mk _ _ _ _ gs, L, n, m, h => by
    rw [fit] at h
    split at h
    · cases h
    · have := fits_le gs (L - 1) (n - 1) m h; omega
theorem fits_le : ∀ (l : List PX) (L n m : Nat), fits l L n = some m → m ≤ n
  | [], L, n, m, h => by rw [fits] at h; injection h with h; omega
  | a :: l, L, n, m, h => by
    rw [fits] at h
    cases hf : fit a L n with
    | none => rw [hf] at h; cases h
    | some k =>
      rw [hf] at h
      have h1 := fit_le a L n k hf
      have h2 := fits_le l L k m h
      omega
end
theorem fits_snoc {gs : List PX} {i : Nat} {x : PX} {L n m : Nat} (hg : gs[i]? = some x) (h : fits (gs.take i) L n = some m) : fits (gs.take (i + 1)) L n = fit x L m := by
 rw [List.take_add_one, hg, fits_app, h]
 show (match fit x L m with | none => none | some k => fits [] L k) = _
 cases fit x L m with
 | none => rfl
 | some k => rfl
theorem fits_fail {gs : List PX} {i : Nat} {x : PX} {L n m : Nat} (hg : gs[i]? = some x) (h : fits (gs.take i) L n = some m) (hf : fit x L m = none) : fits gs L n = none := by
 have := fits_snoc hg h
 rw [hf] at this
 rw [← List.take_append_drop (i + 1) gs, fits_app, this]; rfl
mutual
def cnt : PX → Nat → Nat → Nat × Bool
 | .mk _ _ _ _ gs, L, N => if N + 1 > 1000 ∨ L = 0 then (N + 1, false) else cnts gs (L - 1) (N + 1)
def cnts : List PX → Nat → Nat → Nat × Bool
 | [], _, N => (N, true)
 | a :: l, L, N => if (cnt a L N).2 then cnts l L (cnt a L N).1 else ((cnt a L N).1, false)
end
mutual
theorem cnt_fit : ∀ (a : PX) (L N : Nat), N ≤ 1000 → fit a L (1000 - N) = (if (cnt a L N).2 then some (1000 - (cnt a L N).1) else none) ∧ ((cnt a L N).2 = true → (cnt a L N).1 ≤ 1000)
  | .mk op ns c nm gs, L, N, h => by
    rw [fit, cnt]
    by_cases hb : N + 1 > 1000 ∨ L = 0
    · rw [if_pos hb, if_pos (by omega)]
      exact ⟨by simp, fun e => by cases e⟩
    · rw [if_neg hb, if_neg (by omega)]
      have := cnts_fit gs (L - 1) (N + 1) (by omega)
      rw [show 1000 - (N + 1) = 1000 - N - 1 by omega] at this
      exact this
theorem cnts_fit : ∀ (l : List PX) (L N : Nat), N ≤ 1000 → fits l L (1000 - N) = (if (cnts l L N).2 then some (1000 - (cnts l L N).1) else none) ∧ ((cnts l L N).2 = true → (cnts l L N).1 ≤ 1000)
  | [], L, N, h => by
    rw [fits, cnts]
    exact ⟨by simp, fun _ => h⟩
  | a :: l, L, N, h => by
    obtain ⟨h1, h2⟩ := cnt_fit a L N h
    rw [fits, cnts, h1]
    cases hc : (cnt a L N).2 with
    | false => exact ⟨by simp, fun e => by simp at e⟩
    | true =>
      have := cnts_fit l L (cnt a L N).1 (h2 hc)
      simpa using this
end
theorem cnts_snoc : ∀ {gs : List PX} {i : Nat} {x : PX} {L N : Nat}, gs[i]? = some x → (cnts (gs.take i) L N).2 = true → cnts (gs.take (i + 1)) L N = cnt x L (cnts (gs.take i) L N).1 ∧ ((cnt x L (cnts (gs.take i) L N).1).2 = false → cnts gs L N = cnt x L (cnts (gs.take i) L N).1)
  | [], i, x, L, N, hg, _ => by simp at hg
  | a :: l, 0, x, L, N, hg, _ => by
    have : a = x := by simpa using hg
    subst this
    show (cnts [a] L N = cnt a L N) ∧ ((cnt a L N).2 = false → cnts (a :: l) L N = cnt a L N)
    rw [cnts, cnts]
    cases hc : cnt a L N with
    | mk m b => cases b <;> simp [cnts, hc]
  | a :: l, i + 1, x, L, N, hg, h => by
    have hg : l[i]? = some x := by simpa using hg
    rw [List.take_succ_cons] at h ⊢
    rw [List.take_succ_cons]
    rw [cnts] at h ⊢
    rw [cnts, cnts]
    cases hc : (cnt a L N).2 with
    | false => rw [hc] at h; simp at h
    | true =>
      rw [hc] at h
      simp only [if_true] at h ⊢
      exact cnts_snoc hg h
theorem px_av (op : Int) (ns : List Int) (c : BR) (nm : ByteArray) (gs : List PX) : PX.av (.mk op ns c nm gs) = .agg (iV op :: .sl (ns.map iV) :: (c.cs ++ [tV nm, .sl (gs.map PX.av)])) := by
 show AV.agg (PX.cs _) = _
 rw [PX.cs, PX.avs_map]
abbrev SN (N : Nat) : List (Nat × Blk) := [(100, .var [.v (iV N)])]
theorem size_p : ∀ (k : Nat) (a : PX), sizeOf a ≤ k → a.ok → ∀ lv N : Nat, lv ≤ 101 → N ≤ 1000 → PCM true Tryz.prog 121 [.v a.av, .ptr 100 0, .v (iV lv)] (SN N) true (.v (boV (cnt a (101 - lv) N).2)) (SN (cnt a (101 - lv) N).1) := by
  intro k
  induction k with
  | zero => intro a hs; cases a; simp at hs
  | succ k ih =>
    rintro ⟨op, ns, c, nm, gs⟩ hs ha lv N hlv hN
    obtain ⟨-, -, -, -, h6, h7⟩ := ha
    have cg : ∀ x, x ∈ gs → ∀ lv N : Nat, lv ≤ 101 → N ≤ 1000 → PCM true Tryz.prog 121 [.v x.av, .ptr 100 0, .v (iV lv)] (SN N) true (.v (boV (cnt x (101 - lv) N).2)) (SN (cnt x (101 - lv) N).1) := fun x hx => ih x (by have := List.sizeOf_lt_of_mem hx; simp at hs; omega) ((PX.oks_iff gs).1 h6 x hx)
    clear ih hs h6
    rw [px_av]
    have hinc : ((N : Nat) : Int) + 1 = ((N + 1 : Nat) : Int) := by omega
    obtain ⟨⟨g1, d1⟩, ⟨g2, d2⟩⟩ := c
    by_cases hbad : N + 1 > 1000 ∨ 101 - lv = 0
    · rw [cnt, if_pos hbad]
      refine Zay Tryz.func121 rfl rfl rfl (Nat.le_of_ble_eq_true rfl) ?_
      by_cases hn : N + 1 > 1000
      · have q1 : decide (((N : Nat) : Int) + 1 > 1000) = true := decide_eq_true (by omega)
        refine goI ?_
        exact ⟨.inr rfl, by exact Zak⟩
      · have q1 : decide (((N : Nat) : Int) + 1 > 1000) = false := decide_eq_false (by omega)
        have q2 : decide (((lv : Nat) : Int) > 100) = true := decide_eq_true (by omega)
        refine goI ?_
        exact ⟨.inr rfl, by exact Zak⟩
    · have q1 : decide (((N : Nat) : Int) + 1 > 1000) = false := decide_eq_false (by omega)
      have q2 : decide (((lv : Nat) : Int) > 100) = false := decide_eq_false (by omega)
      rw [cnt, if_neg hbad, show 101 - lv - 1 = 100 - lv by omega]
      have eml : (gs.map PX.av).length = gs.length := List.length_map ..
      have hN1 : N + 1 ≤ 1000 := by omega
      refine Zay Tryz.func121 rfl rfl rfl (Nat.le_of_ble_eq_true rfl) ?_
      refine goI ?_
      refine T.loop (fun K s1 => ∃ i : Nat, K = gs.length - i ∧ i ≤ gs.length ∧ (cnts (gs.take i) (100 - lv) (N + 1)).2 = true ∧ s1 = mkP [(1, .ptr 100 0), (2, .v (iV lv)), (23, .v (.sl (gs.map PX.av))), (24, .v (iV gs.length)), (25, .v (iV i))] (SN (cnts (gs.take i) (100 - lv) (N + 1)).1) 36 true [100]) gs.length
        (s' := mkP [(1, .ptr 100 0), (2, .v (iV lv)), (23, .v (.sl (gs.map PX.av))), (24, .v (iV ((gs.map PX.av).length : Nat))), (25, .v (iV ((0 : Nat) : Int)))] (SN (N + 1)) 36 true [100]) (by exact Zak) ⟨0, rfl, Nat.zero_le _, by rw [List.take_zero, cnts], by rw [eml, List.take_zero, cnts]⟩ ?_
      rintro _ _ ⟨i, rfl, hi, hok, rfl⟩
      by_cases hlt : i < gs.length
      · have d1' : decide ((i : Int) < (gs.length : Int)) = true := decide_eq_true (by omega)
        have hg : gs[i]? = some gs[i] := List.getElem?_eq_getElem hlt
        have hxi : (gs.map PX.av)[((i : Nat) : Int).toNat]? = some (PX.av gs[i]) := by rw [Int.toNat_natCast, List.getElem?_map, hg]; rfl
        obtain ⟨e1, e2⟩ := cnts_snoc (L := 100 - lv) (N := N + 1) hg hok
        have c := cg gs[i] (List.getElem_mem hlt) (lv + 1) (cnts (gs.take i) (100 - lv) (N + 1)).1 (by omega) ((cnts_fit _ _ _ hN1).2 hok)
        rw [show 101 - (lv + 1) = 100 - lv by omega, show ((lv + 1 : Nat) : Int) = (lv : Int) + 1 by omega] at c
        clear hg
        generalize gs[i] = x at *
        generalize (cnts (gs.take i) (100 - lv) (N + 1)).1 = M at *
        generalize hr : cnt x (100 - lv) M = r at *
        obtain ⟨op', ns', ⟨⟨ga, da⟩, ⟨gb, db⟩⟩, nm', gs'⟩ := x
        obtain ⟨R, rb⟩ := r
        refine goI ?_
        refine evG ggA (Zab (Zaa rfl) (Zac rfl) rfl rfl (by omega) hxi rfl) ?_
        refine goI ?_
        refine mcA c ?_
        cases rb with
        | false =>
          rw [e2 rfl]
          refine goI ?_
          exact ⟨.inr rfl, by exact Zak⟩
        | true =>
          refine goI ?_
          exact Zad (k := gs.length - (i + 1)) (s' := mkP [(1, .ptr 100 0), (2, .v (iV lv)), (23, .v (.sl (gs.map PX.av))), (24, .v (iV gs.length)), (25, .v (iV ((i : Int) + 1)))] (SN R) 36 true [100]) (by omega) (by exact Zak) ⟨i + 1, rfl, hlt, by rw [e1], by rw [e1]; rfl⟩
      · obtain rfl : i = gs.length := by omega
        have d1' : decide ((gs.length : Int) < (gs.length : Int)) = false := decide_eq_false (by omega)
        rw [List.take_length] at hok ⊢
        rw [hok]
        refine goI ?_
        exact ⟨.inr rfl, by exact Zak⟩
def fitB (a : PX) : Bool := (fit a 100 1000).isSome
theorem zero_i64 : Ze8 Tryz.prog 3 [.int .i64 0] := Zcl (v := .int .i64 0) (by kernel_rfl) rfl
theorem small_p {a : PX} (ha : a.ok) : PC Tryz.prog 91 [a.av] (boV (fitB a)) := by
 have c := size_p _ a (Nat.le_refl _) ha 1 0 (by omega) (by omega)
 have e : fitB a = (cnt a 100 0).2 := by
  unfold fitB
  have := (cnt_fit a 100 0 (by omega)).1
  rw [show 1000 - 0 = 1000 from rfl] at this
  rw [this]
  cases (cnt a 100 0).2 <;> rfl
 rw [e]
 rw [show 101 - 1 = 100 from rfl] at c
 generalize cnt a 100 0 = r at *
 obtain ⟨R, rb⟩ := r
 obtain ⟨op, ns, ⟨⟨ga, da⟩, ⟨gb, db⟩⟩, nm, gs⟩ := a
 refine Zas true Tryz.func91 rfl rfl rfl (Nat.le_of_ble_eq_true rfl) Za4.tmp ?_
 refine goI ?_
 refine evG ggA (Zcv (Zaa rfl) zero_i64 rfl rfl rfl) ?_
 refine goI ?_
 refine mcS [(100, 3)] c ?_
 refine goI ?_
 exact rfl
end Ab
