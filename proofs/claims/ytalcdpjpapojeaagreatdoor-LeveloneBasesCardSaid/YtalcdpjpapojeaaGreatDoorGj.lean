/- Elimination of equations, one for each column (Gauss, Jordan). -/
import Derived.Test.YtalcdpjpapojeaaGreatDoorLx
import Derived.Test.YtalcdpjpapojeaaGreatDoorTt
import Derived.Test.YtalcdpjpapojeaaGreatDoorVA
import Derived.Test.YtalcdpjpapojeaaGreatDoorZJ
set_option linter.all false
namespace Ab
open Go Go.RowKit Go.Proofs Hp
set_option maxRecDepth 100000
def gcl (c : Rat) (a b : List Rat) : List Rat := List.zipWith (fun x y => x - c * y) a b
theorem gcl_tk (x : Rat) (f g : Nat → Rat) (n : Nat) : gcl x (tk f n) (tk g n) = tk (fun j => f j - x * g j) n := by
 unfold gcl tk
 rw [List.zipWith_map, List.zipWith_self]
theorem gcl_len {x : Rat} {a b : List Rat} {n : Nat} (ha : a.length = n) (hb : b.length = n) : (gcl x a b).length = n := by
 unfold gcl
 rw [List.length_zipWith, ha, hb, Nat.min_self]
theorem gcl_get {x : Rat} {a b : List Rat} {n : Nat} (ha : a.length = n) (hb : b.length = n) (j : Nat) (hj : j < n) : (gcl x a b).getD j 0 = a.getD j 0 - x * b.getD j 0 := by
 have e := gcl_tk x (fun i => a.getD i 0) (fun i => b.getD i 0) n
 rw [← ha, ← tk_of a, ha] at e
 rw [← hb, ← tk_of b, hb] at e
 rw [e, Zda hj]
theorem gcl_zero {a b : List Rat} {n : Nat} (ha : a.length = n) (hb : b.length = n) : gcl 0 a b = a := by
 have e := gcl_tk 0 (fun i => a.getD i 0) (fun i => b.getD i 0) n
 rw [← ha, ← tk_of a, ha] at e
 rw [← hb, ← tk_of b, hb] at e
 rw [e]
 conv => rhs; rw [tk_of a, ha]
 exact Zc6 fun j _ => by grind
def elt (M : List (List Rat)) (i j : Nat) : Rat := (M.getD i []).getD j 0
def pvt (M : List (List Rat)) (c : Nat) : Nat := c + lead ((M.drop c).map fun r => r.getD c 0)
def swpL (M : List (List Rat)) (c p : Nat) : List (List Rat) := (M.set c (M.getD p [])).set p (M.getD c [])
def pivL (S : List (List Rat)) (c : Nat) : List Rat := (S.getD c []).map fun x => x * (1 / elt S c c)
def elimL (S : List (List Rat)) (c : Nat) : List (List Rat) := (List.range S.length).map fun i => if i = c then pivL S c else gcl (elt S i c) (S.getD i []) (pivL S c)
def gj1 (c : Nat) (M : List (List Rat)) : Option (List (List Rat)) := if pvt M c < M.length then some (elimL (swpL M c (pvt M c)) c) else none
def gjS (M : List (List Rat)) : Nat → Option (List (List Rat))
  | 0 => some M
  | c + 1 => match gjS M c with
    | none => none
    | some M' => gj1 c M'
def RL2 (M : List (List Rat)) (m : Nat) : Prop := ∀ i, i < M.length → (M.getD i []).length = m
theorem Zeb {α : Type} (l : List α) (i j : Nat) (x d : α) : (l.set i x).getD j d = if i = j ∧ j < l.length then x else l.getD j d := by
 rw [List.getD_eq_getElem?_getD, List.getD_eq_getElem?_getD, List.getElem?_set]
 by_cases h : i = j
 ·subst h
  by_cases h2 : i < l.length
  ·rw [if_pos rfl, if_pos h2, if_pos ⟨rfl, h2⟩]; rfl
  ·rw [if_pos rfl, if_neg h2, if_neg (fun x => h2 x.2), List.getElem?_eq_none oM]
 ·rw [if_neg h, if_neg (fun x => h x.1)]
theorem swp_len (M : List (List Rat)) (c p : Nat) : (swpL M c p).length = M.length := by unfold swpL; simp
theorem swp_get (M : List (List Rat)) {c p : Nat} (hc : c < M.length) (hp : p < M.length) (i : Nat) : (swpL M c p).getD i [] = M.getD (if i = p then c else if i = c then p else i) [] := by
 unfold swpL
 rw [Zeb, List.length_set, Zeb]
 by_cases h1 : p = i
 ·rw [if_pos (show p = i ∧ i < M.length from ⟨h1, oM⟩), if_pos h1.symm]
 ·rw [if_neg (show ¬ (p = i ∧ i < M.length) from fun h => h1 h.1), if_neg (show ¬ i = p from fun h => h1 h.symm)]
  by_cases h2 : c = i
  ·rw [if_pos (show c = i ∧ i < M.length from ⟨h2, oM⟩), if_pos h2.symm]
  ·rw [if_neg (show ¬ (c = i ∧ i < M.length) from fun h => h2 h.1), if_neg (show ¬ i = c from fun h => h2 h.symm)]
theorem elim_len (S : List (List Rat)) (c : Nat) : (elimL S c).length = S.length := by unfold elimL; simp
theorem elim_get (S : List (List Rat)) (c : Nat) {i : Nat} (hi : i < S.length) : (elimL S c).getD i [] = if i = c then pivL S c else gcl (elt S i c) (S.getD i []) (pivL S c) := by
 unfold elimL
 rw [List.getD_eq_getElem?_getD, List.getElem?_map, List.getElem?_range hi]
 rfl
theorem pivL_get {S : List (List Rat)} {c m : Nat} (h : (S.getD c []).length = m) {j : Nat} (hj : j < m) : (pivL S c).getD j 0 = elt S c j * (1 / elt S c c) := by
 unfold pivL
 rw [List.getD_eq_getElem?_getD, List.getElem?_map, List.getElem?_eq_getElem oM]
 have e : elt S c j = (S.getD c [])[j] := by
  unfold elt
  rw [List.getD_eq_getElem?_getD (l := S.getD c []), List.getElem?_eq_getElem oM]
  rfl
 rw [e]
 rfl
theorem Zgq {M : List (List Rat)} {c : Nat} (h : pvt M c < M.length) : c ≤ pvt M c ∧ elt M (pvt M c) c ≠ 0 ∧ ∀ i, c ≤ i → i < pvt M c → elt M i c = 0 := by
 unfold pvt at h
 have hl : ((M.drop c).map fun r => r.getD c 0).length = M.length - c := by simp
 have e : ∀ k, k < M.length - c → ((M.drop c).map fun r => r.getD c 0)[k]? = some (elt M (c + k) c) := fun k hk => by
  rw [List.getElem?_map, List.getElem?_drop, List.getElem?_eq_getElem oM]
  unfold elt
  rw [List.getD_eq_getElem?_getD (l := M), List.getElem?_eq_getElem oM]
  rfl
 refine ⟨by unfold pvt; omega, ?_, fun i h1 h2 => ?_⟩
 ·have := Zga _ _ (e (lead ((M.drop c).map fun r => r.getD c 0)) oM)
  unfold pvt
  exact this
 ·unfold pvt at h2
  have h3 := Zfn _ (i - c) (show i - c < lead ((M.drop c).map fun r => r.getD c 0) by omega)
  rw [e (i - c) oM] at h3
  injection h3 with h3
  rw [show c + (i - c) = i by omega] at h3
  exact h3
theorem pvt_none {M : List (List Rat)} {c : Nat} (h : ¬ pvt M c < M.length) : ∀ i, c ≤ i → i < M.length → elt M i c = 0 := fun i h1 h2 => by
 unfold pvt at h
 have h3 := Zfn ((M.drop c).map fun r => r.getD c 0) (i - c) (by
  have := Zc2 ((M.drop c).map fun r => r.getD c 0)
  simp at this
  omega)
 rw [List.getElem?_map, List.getElem?_drop, List.getElem?_eq_getElem oM] at h3
 unfold elt
 rw [List.getD_eq_getElem?_getD (l := M), List.getElem?_eq_getElem oM]
 have h4 : M[c + (i - c)].getD c 0 = 0 := by simpa using h3
 have h5 : M[i] = M[c + (i - c)] := by congr 1; omega
 show M[i].getD c 0 = 0
 rw [h5]
 exact h4
structure Col (M M' : List (List Rat)) (c m : Nat) : Prop where
 l : M'.length = M.length
 r : RL2 M' m
 x : ∃ p, c ≤ p ∧ p < M.length ∧ elt M p c ≠ 0 ∧ (∀ j, j < m → elt M' c j = elt M p j * (1 / elt M p c)) ∧ ∀ i, i < M.length → i ≠ c → ∃ i', i' < M.length ∧ (i' = if i = p then c else i) ∧ ∀ j, j < m → elt M' i j = elt M i' j - elt M i' c * (elt M p j * (1 / elt M p c))
theorem gj1_col {M M' : List (List Rat)} {c m : Nat} (hM : RL2 M m) (hc : c < m) (h : gj1 c M = some M') : Col M M' c m := by
 unfold gj1 at h
 split at h
 ·rename_i hp
  injection h with h
  subst h
  obtain ⟨h1, h2, h3⟩ := Zgq hp
  generalize pvt M c = p at *
  have hcl : c < M.length := oM
  have hg := swp_get M hcl hp
  have hSl := swp_len M c p
  have hSc : (swpL M c p).getD c [] = M.getD p [] := by
   rw [hg]
   by_cases e : c = p
   ·rw [if_pos e, e]
   ·rw [if_neg e, if_pos rfl]
  have hl : (M.getD p []).length = m := hM p hp
  have hSr : RL2 (swpL M c p) m := fun i hi => by
   rw [hg]
   rw [hSl] at hi
   split
   ·exact hM c hcl
   ·split
    ·exact hl
    ·exact hM i hi
  have hcc : elt (swpL M c p) c c = elt M p c := by unfold elt; rw [hSc]
  have hpv : ∀ j, j < m → (pivL (swpL M c p) c).getD j 0 = elt M p j * (1 / elt M p c) := fun j hj => by
   rw [pivL_get (hSr c (by rw [hSl]; exact hcl)) hj, hcc]
   unfold elt
   rw [hSc]
  have hpl : (pivL (swpL M c p) c).length = m := by unfold pivL; rw [List.length_map, hSc, hl]
  refine ⟨by rw [elim_len, hSl], fun i hi => ?_, p, h1, hp, h2, fun j hj => ?_, fun i hi hic => ⟨if i = p then c else i, by split <;> omega, rfl, fun j hj => ?_⟩⟩
  ·rw [elim_len] at hi
   rw [elim_get _ _ hi]
   split
   ·exact hpl
   ·exact gcl_len (hSr i hi) hpl
  ·unfold elt
   rw [elim_get _ _ (by rw [hSl]; exact hcl), if_pos rfl]
   exact hpv j hj
  ·have hiS : i < (swpL M c p).length := by rw [hSl]; exact hi
   have e : (swpL M c p).getD i [] = M.getD (if i = p then c else i) [] := by
    rw [hg]
    by_cases e1 : i = p
    ·rw [if_pos e1, if_pos e1]
    ·rw [if_neg e1, if_neg hic, if_neg e1]
   unfold elt
   rw [elim_get _ _ hiS, if_neg hic, gcl_get (hSr i hiS) hpl j hj, hpv j hj]
   unfold elt
   rw [e]
 ·cases h
def SolT (t : Rat) (M : List (List Rat)) (n : Nat) (x : Nat → Rat) : Prop := ∀ i, i < M.length → su (fun j => elt M i j * x j) n = t * elt M i n
theorem su_comb (f g x : Nat → Rat) (a : Rat) (n : Nat) : su (fun j => (f j - a * g j) * x j) n = su (fun j => f j * x j) n - a * su (fun j => g j * x j) n := by
 have e : su (fun j => (f j - a * g j) * x j) n = su (fun j => f j * x j + (-a) * (g j * x j)) n := Zbk fun j _ => by grind
 rw [e, su_add, Zf0]
 grind
theorem su_scal (g x : Nat → Rat) (a : Rat) (n : Nat) : su (fun j => g j * a * x j) n = a * su (fun j => g j * x j) n := by
 rw [← Zf0]
 exact Zbk fun j _ => by grind
theorem Col.sol {M M' : List (List Rat)} {c n : Nat} (h : Col M M' c (n + 1)) (hc : c < n) (t : Rat) (x : Nat → Rat) : SolT t M n x ↔ SolT t M' n x := by
 obtain ⟨h1, h2, p, h3, h4, h5, h6, h7⟩ := h
 have hcl : c < M.length := oM
 -- the row of the pivot
 have e6 : su (fun j => elt M' c j * x j) n = 1 / elt M p c * su (fun j => elt M p j * x j) n := by
  rw [← su_scal]
  exact Zbk fun j hj => by rw [h6 j oM]
 have e6n : elt M' c n = elt M p n * (1 / elt M p c) := h6 n oM
 have hinv : elt M p c * (1 / elt M p c) = 1 := by rw [Rat.div_def, Rat.one_mul]; exact Rat.mul_inv_cancel _ h5
 have e7 : ∀ i, i < M.length → i ≠ c → ∃ i', i' < M.length ∧ (i' = if i = p then c else i) ∧ su (fun j => elt M' i j * x j) n = su (fun j => elt M i' j * x j) n - elt M i' c * (1 / elt M p c * su (fun j => elt M p j * x j) n) ∧ elt M' i n = elt M i' n - elt M i' c * (elt M p n * (1 / elt M p c)) := fun i hi hic => by
  obtain ⟨i', k1, k2, k3⟩ := h7 i hi hic
  refine ⟨i', k1, k2, ?_, k3 n oM⟩
  rw [← su_scal, ← su_comb]
  exact Zbk fun j hj => by rw [k3 j oM]
 constructor
 ·intro hs i hi
  rw [h1] at hi
  by_cases hic : i = c
  ·subst hic
   rw [e6, e6n, hs p h4]
   grind
  ·obtain ⟨i', k1, -, k2, k3⟩ := e7 i hi hic
   rw [k2, k3, hs i' k1, hs p h4]
   grind
 ·intro hs
  have hpr : su (fun j => elt M p j * x j) n = t * elt M p n := by
   have := hs c oM
   rw [e6, e6n] at this
   have h9 : elt M p c * (1 / elt M p c * su (fun j => elt M p j * x j) n) = elt M p c * (t * (elt M p n * (1 / elt M p c))) := by rw [this]
   have h10 : elt M p c * (1 / elt M p c * su (fun j => elt M p j * x j) n) = su (fun j => elt M p j * x j) n := by rw [← Rat.mul_assoc, hinv, Rat.one_mul]
   have h11 : elt M p c * (t * (elt M p n * (1 / elt M p c))) = (elt M p c * (1 / elt M p c)) * (t * elt M p n) := by grind
   rw [h10, h11, hinv, Rat.one_mul] at h9
   exact h9
  have key : ∀ i', i' < M.length → (∃ i, i < M.length ∧ i ≠ c ∧ i' = if i = p then c else i) → su (fun j => elt M i' j * x j) n = t * elt M i' n := by
   rintro i' - ⟨i, hi, hic, he⟩
   obtain ⟨i2, -, k2, k3, k4⟩ := e7 i hi hic
   rw [← he] at k2
   subst k2
   have := hs i oM
   rw [k3, k4, hpr] at this
   grind
  intro i hi
  by_cases hip : i = p
  ·rw [hip]; exact hpr
  ·by_cases hic : i = c
   ·subst hic
    exact key i hi ⟨p, h4, fun e => hip e.symm, by rw [if_pos rfl]⟩
   ·exact key i hi ⟨i, hi, hic, by rw [if_neg hip]⟩
def UniC (M : List (List Rat)) (c : Nat) : Prop := ∀ j, j < c → ∀ i, i < M.length → elt M i j = if i = j then 1 else 0
theorem Col.uni {M M' : List (List Rat)} {c m : Nat} (h : Col M M' c m) (hc : c < m) (hu : UniC M c) : UniC M' (c + 1) := by
 obtain ⟨h1, h2, p, h3, h4, h5, h6, h7⟩ := h
 have hinv : elt M p c * (1 / elt M p c) = 1 := by rw [Rat.div_def, Rat.one_mul]; exact Rat.mul_inv_cancel _ h5
 intro j hj i hi
 rw [h1] at hi
 by_cases hjc : j = c
 ·subst hjc
  by_cases hij : i = j
  ·subst hij
   rw [h6 i hc, if_pos rfl, hinv]
  ·obtain ⟨i', k1, -, k2⟩ := h7 i hi hij
   rw [k2 j hc, hinv, if_neg hij]
   grind
 ·have hp : elt M p j = 0 := by rw [hu j oM p h4, if_neg oM]
  by_cases hic : i = c
  ·subst hic
   rw [h6 j oM, hp, Rat.zero_mul, if_neg oM]
  ·obtain ⟨i', k1, k3, k2⟩ := h7 i hi hic
   rw [k2 j oM, hp, Rat.zero_mul, Rat.mul_zero, hu j oM i' k1]
   have : (i' = j) ↔ (i = j) := by
    by_cases e : i = p
    ·rw [if_pos e] at k3; omega
    ·rw [if_neg e] at k3; omega
   simp only [this]
   grind
structure GjOK (M0 M : List (List Rat)) (c n : Nat) : Prop where
 l : M.length = M0.length
 r : RL2 M (n + 1)
 s : ∀ t x, SolT t M0 n x ↔ SolT t M n x
 u : UniC M c
theorem gj_ok {M0 : List (List Rat)} {n : Nat} (h0 : RL2 M0 (n + 1)) : ∀ c, c ≤ n → ∀ M, gjS M0 c = some M → GjOK M0 M c n
  | 0, _, M, h => by
    injection h with h
    subst h
    exact ⟨rfl, h0, fun _ _ => Iff.rfl, fun j hj => absurd hj (Nat.not_lt_zero _)⟩
  | c + 1, hc, M, h => by
    unfold gjS at h
    cases hg : gjS M0 c with
    | none => rw [hg] at h; cases h
    | some M1 =>
      rw [hg] at h
      obtain ⟨k1, k2, k3, k4⟩ := gj_ok h0 c oM M1 hg
      have hcol := gj1_col k2 oM h
      exact ⟨hcol.l.trans k1, hcol.r, fun t x => (k3 t x).trans (hcol.sol oM t x), hcol.uni oM k4⟩
def exRes (n : Nat) (M : List (List Rat)) : Option (List Rat) := if (List.range M.length).all (fun i => decide (i < n) || decide (elt M i n = 0)) then some ((List.range (min n M.length)).map fun i => elt M i n) else none
theorem gj_rows {M0 : List (List Rat)} : ∀ c M, gjS M0 c = some M → M.length = M0.length ∧ c ≤ M0.length
  | 0, M, h => by
    injection h with h
    subst h
    exact ⟨rfl, Nat.zero_le _⟩
  | c + 1, M, h => by
    unfold gjS at h
    cases hg : gjS M0 c with
    | none => rw [hg] at h; cases h
    | some M1 =>
      rw [hg] at h
      obtain ⟨k1, k2⟩ := gj_rows c M1 hg
      have h : gj1 c M1 = some M := h
      unfold gj1 at h
      split at h
      · rename_i hp
        injection h with h
        subst h
        have := (Zgq hp).1
        rw [elim_len, swp_len]
        exact ⟨k1, oM⟩
      · cases h
end Ab

namespace Ab
open Go Go.RowKit Go.Proofs Hp
set_option maxRecDepth 100000
def gup (V : Nat → AV) (es : List AV) (k : Nat) : List AV := (List.range es.length).map fun j => if j < k then V j else es.getD j rz
theorem gup_len (V : Nat → AV) (es : List AV) (k : Nat) : (gup V es k).length = es.length := by unfold gup; simp
theorem gup_at (V : Nat → AV) (es : List AV) (k j : Nat) (hj : j < es.length) : (gup V es k)[j]? = if j < k then some (V j) else es[j]? := by
 unfold gup
 rw [List.getElem?_map, List.getElem?_range hj]
 show some (if j < k then V j else es.getD j rz) = _
 split
 ·rfl
 ·rw [List.getD_eq_getElem?_getD, List.getElem?_eq_getElem hj]; rfl
theorem gup_0 (V : Nat → AV) (es : List AV) : gup V es 0 = es := by
 refine List.ext_getElem? fun j => ?_
 by_cases hj : j < es.length
 ·rw [gup_at V es 0 j hj, if_neg oM]
 ·rw [List.getElem?_eq_none (by rw [gup_len]; omega), List.getElem?_eq_none oM]
theorem gup_n (V : Nat → AV) (es : List AV) {n : Nat} (hn : es.length = n) : gup V es n = (List.range n).map V := by
 unfold gup
 rw [hn]
 exact List.map_congr_left fun j hj => if_pos (List.mem_range.1 hj)
theorem gup_set (V : Nat → AV) (es : List AV) (k : Nat) : (gup V es k).set k (V k) = gup V es (k + 1) := by
 refine List.ext_getElem? fun j => ?_
 by_cases hj : j < es.length
 ·by_cases e : k = j
  ·subst e
   rw [List.getElem?_set_self (by rw [gup_len]; exact hj), gup_at _ _ _ _ hj, if_pos oM]
  ·rw [List.getElem?_set_ne e, gup_at _ _ _ _ hj, gup_at _ _ _ _ hj]
   by_cases h : j < k
   ·rw [if_pos h, if_pos oM]
   ·rw [if_neg h, if_neg oM]
 ·rw [List.getElem?_eq_none (by rw [List.length_set, gup_len]; omega), List.getElem?_eq_none (by rw [gup_len]; omega)]
def grow (r : List Rat) : AV := .sl (r.map encQ)
theorem rowM {sz : Nat} {ty : TypeId} {R : List (List AV)} {i : Nat} {r : List AV} (h : R[i]? = some r) : (mkT [] [] sz ty R 0).m (i + 1000) = some (.lst sz ty r) := mkT_hr h
def eqM (Rw : List (List Rat)) (b : List Rat) : List (List Rat) := (List.range b.length).map fun c => (Rw.map fun r => r.getD c 0) ++ [b.getD c 0]
def encM (M : List (List Rat)) : List (List AV) := M.map fun r => r.map encQ
theorem Ze4 (M : List (List Rat)) : (encM M).length = M.length := List.length_map ..
theorem Zfx {M : List (List Rat)} {i : Nat} (h : i < M.length) : (encM M)[i]? = some ((M.getD i []).map encQ) := by
 unfold encM
 rw [List.getElem?_map, List.getD_eq_getElem?_getD, List.getElem?_eq_getElem h]
 rfl
theorem eqM_len (Rw : List (List Rat)) (b : List Rat) : (eqM Rw b).length = b.length := by unfold eqM; simp
theorem eqM_at {Rw : List (List Rat)} {b : List Rat} {c : Nat} (h : c < b.length) : (eqM Rw b)[c]? = some ((Rw.map fun r => r.getD c 0) ++ [b.getD c 0]) := by
 unfold eqM
 rw [List.getElem?_map, List.getElem?_range h]
 rfl
theorem eqM_r (Rw : List (List Rat)) (b : List Rat) : RL2 (eqM Rw b) (Rw.length + 1) := fun i hi => by
 rw [eqM_len] at hi
 rw [List.getD_eq_getElem?_getD, eqM_at hi]
 show ((Rw.map fun r => r.getD i 0) ++ [b.getD i 0]).length = _
 simp
def exA (n : Nat) : Option (List (List Rat)) → AV
  | none => .tup [.sl [], bV false, bV false]
  | some M => match exRes n M with
    | none => .tup [.sl [], bV true, bV false]
    | some x => .tup [.sl (x.map encQ), bV true, bV true]
def midM (S : List (List Rat)) (c i : Nat) : List (List Rat) := (List.range S.length).map fun k => if k < i then (elimL S c).getD k [] else if k = c then pivL S c else S.getD k []
theorem midM_len (S : List (List Rat)) (c i : Nat) : (midM S c i).length = S.length := by unfold midM; simp
theorem Zgs (S : List (List Rat)) (c i : Nat) {k : Nat} (hk : k < S.length) : (midM S c i).getD k [] = if k < i then (elimL S c).getD k [] else if k = c then pivL S c else S.getD k [] := by
 unfold midM
 rw [List.getD_eq_getElem?_getD, List.getElem?_map, List.getElem?_range hk]
 rfl
theorem Zf8 {A B : List (List Rat)} (h : A.length = B.length) (k : ∀ i, i < A.length → A.getD i [] = B.getD i []) : A = B := by
 refine List.ext_getElem? fun i => ?_
 by_cases hi : i < A.length
 ·have := k i hi
  rw [List.getD_eq_getElem?_getD, List.getD_eq_getElem?_getD, List.getElem?_eq_getElem hi, List.getElem?_eq_getElem oM] at this
  rw [List.getElem?_eq_getElem hi, List.getElem?_eq_getElem oM]
  exact congrArg some this
 ·rw [List.getElem?_eq_none oM, List.getElem?_eq_none oM]
theorem midM_0 (S : List (List Rat)) (c : Nat) : midM S c 0 = S.set c (pivL S c) := by
 refine Zf8 (by rw [midM_len, List.length_set]) fun i hi => ?_
 rw [midM_len] at hi
 rw [Zgs _ _ _ hi, if_neg oM, Zeb]
 by_cases e : i = c
 ·rw [if_pos e, if_pos ⟨e.symm, hi⟩]
 ·rw [if_neg e, if_neg (fun h => e h.1.symm)]
theorem midM_n (S : List (List Rat)) (c : Nat) {N : Nat} (h : S.length = N) : midM S c N = elimL S c := by
 refine Zf8 (by rw [midM_len, elim_len]) fun i hi => ?_
 rw [midM_len] at hi
 rw [Zgs _ _ _ hi, if_pos oM]
theorem midM_step (S : List (List Rat)) (c i : Nat) : (midM S c i).set i ((elimL S c).getD i []) = midM S c (i + 1) := by
 refine Zf8 (by rw [List.length_set, midM_len, midM_len]) fun k hk => ?_
 rw [List.length_set, midM_len] at hk
 rw [Zeb, midM_len, Zgs _ _ _ hk, Zgs _ _ _ hk]
 by_cases e : i = k
 ·subst e
  rw [if_pos ⟨rfl, hk⟩, if_pos oM]
 ·rw [if_neg (fun h => e h.1)]
  by_cases h : k < i
  ·rw [if_pos h, if_pos oM]
  ·rw [if_neg h, if_neg (show ¬ k < i + 1 by omega)]
theorem encM_set (M : List (List Rat)) (i : Nat) (r : List Rat) : (encM M).set i (r.map encQ) = encM (M.set i r) := by
 unfold encM
 rw [List.map_set]
theorem encM_swp (M : List (List Rat)) {c p : Nat} (hc : c < M.length) (hp : p < M.length) : ((encM M).set c ((encM M).getD p [])).set p ((encM M).getD c []) = encM (swpL M c p) := by
 have h : ∀ i, i < M.length → (encM M).getD i [] = (M.getD i []).map encQ := fun i hi => by rw [List.getD_eq_getElem?_getD, Zfx hi]; rfl
 rw [h p hp, h c hc, encM_set, encM_set]
 rfl
theorem Ze2 {l : List Rat} {m j : Nat} (h : l.length = m) (hj : j < m) : (l.map encQ)[j]? = some (encQ (l.getD j 0)) := by
 rw [List.getElem?_map, List.getD_eq_getElem?_getD, List.getElem?_eq_getElem oM]
 rfl
theorem upd_mul (over : Rat) (l : List Rat) {m : Nat} (h : l.length = m) : gup (fun j => encQ (l.getD j 0 * over)) (l.map encQ) m = (l.map fun x => x * over).map encQ := by
 rw [gup_n _ _ (by rw [List.length_map, h])]
 refine List.ext_getElem? fun j => ?_
 by_cases hj : j < m
 ·rw [List.getElem?_map, List.getElem?_range hj, Ze2 (by rw [List.length_map, h]) hj]
  show some (encQ (l.getD j 0 * over)) = some (encQ ((l.map fun x => x * over).getD j 0))
  congr 2
  rw [List.getD_eq_getElem?_getD, List.getD_eq_getElem?_getD, List.getElem?_map, List.getElem?_eq_getElem oM]
  rfl
 ·rw [List.getElem?_eq_none (by simp; omega), List.getElem?_eq_none (by simp; omega)]
theorem upd_clr (f : Rat) (a b : List Rat) {m : Nat} (ha : a.length = m) (hb : b.length = m) : gup (fun j => encQ (a.getD j 0 - f * b.getD j 0)) (a.map encQ) m = (gcl f a b).map encQ := by
 rw [gup_n _ _ (by rw [List.length_map, ha])]
 refine List.ext_getElem? fun j => ?_
 by_cases hj : j < m
 ·rw [List.getElem?_map, List.getElem?_range hj, Ze2 (gcl_len ha hb) hj, gcl_get ha hb j hj]
  rfl
 ·rw [List.getElem?_eq_none (by simp; omega), List.getElem?_eq_none (by rw [List.length_map, gcl_len ha hb]; omega)]
theorem gEnt {A H : Prop} (h : H) (imp : H → A := by intro h; exact Ent.mkTi rfl rfl rfl (by first | exact ⟨⟨rfl, Zf3 h⟩, trivial⟩ | exact ⟨⟨rfl, Zf3 h⟩, ⟨rfl, loOK_4⟩, trivial⟩ | exact ⟨⟨rfl, Zf3 h⟩, ⟨rfl, trivial⟩, trivial⟩) (fun i r h => by first | exact mkT_hr h | exact rowM h) (by repeat (first | exact trivial | refine ⟨⟨rfl, okR_v⟩, ?_⟩ | refine ⟨⟨rfl, okR_1 rfl rfl⟩, ?_⟩))) : A := imp h
theorem gj_stay {M0 : List (List Rat)} {c : Nat} (h : gjS M0 c = none) : ∀ k, gjS M0 (c + k) = none
  | 0 => h
  | k + 1 => by
    rw [← Nat.add_assoc]
    unfold gjS
    rw [gj_stay h k]
set_option maxHeartbeats 64000000 in
theorem express_p {Rw : List (List Rat)} {b : List Rat} {n N K : Nat} (hn : Rw.length = n) (hr : ∀ r, r ∈ Rw → r.length = N) (hb : b.length = N) (hn2 : n ≤ 1000) (hN : N ≤ 1000) (hK : 1 ≤ K ∧ K ≤ 1000000000)
  (hh : ∀ c, c ≤ n → ∀ M, gjS (eqM Rw b) c = some M → ∀ i, i < N → ∀ j, Ht (elt M i j) K) :
  PC Tryz.prog 43 [.sl (Rw.map grow), .sl (b.map encQ)] (exA n (gjS (eqM Rw b) n)) := by
 have c1 := q_p 1 dC dC
 have c1 : PC Tryz.prog 35 [iV 1] (encQ 1) := c1
 have hE := eqM_len Rw b
 have hEr := eqM_r Rw b
 have hEa := fun c (h : c < b.length) => eqM_at (Rw := Rw) h
 rw [hb] at hE hEa
 rw [hn] at hEr
 have hRi : ∀ i, i < n → (Rw.map grow)[((i : Nat) : Int).toNat]? = some (grow (Rw.getD i [])) ∧ (Rw.getD i []).length = N := fun i hi => by
  rw [show ((i : Nat) : Int).toNat = i by omega, List.getElem?_map, List.getD_eq_getElem?_getD, List.getElem?_eq_getElem oM]
  exact ⟨rfl, hr _ (List.getElem_mem _)⟩
 have hBl : (b.map encQ).length = N := by rw [List.length_map, hb]
 have hBa : ∀ c, c < N → (b.map encQ)[((c : Nat) : Int).toNat]? = some (encQ (b.getD c 0)) := fun c hc => by rw [show ((c : Nat) : Int).toNat = c by omega]; exact Ze2 hb hc
 have hRl : (Rw.map grow).length = n := by rw [List.length_map, hn]
 obtain ⟨RA, hRA⟩ : ∃ RA, RA = Rw.map grow := ⟨_, rfl⟩
 obtain ⟨BA, hBA⟩ : ∃ BA, BA = b.map encQ := ⟨_, rfl⟩
 rw [← hRA] at hRi hRl
 rw [← hBA] at hBl hBa
 rw [← hRA, ← hBA]
 obtain ⟨res, hres⟩ : ∃ res, res = exA n (gjS (eqM Rw b) n) := ⟨_, rfl⟩
 rw [← hres]
 have hwr : ∃ a1 a2 a3, res = .tup [a1, a2, a3] := by
  rw [hres]
  cases gjS (eqM Rw b) n with
  | none => exact ⟨_, _, _, rfl⟩
  | some M => unfold exA; simp only; cases exRes n M <;> exact ⟨_, _, _, rfl⟩
 obtain ⟨a1, a2, a3, hw⟩ := hwr
 rw [hw]
 rw [hw] at hres
 refine pc_body3 true Tryz.func43 rfl rfl rfl (Nat.le_of_ble_eq_true rfl) Zac.tmp Zac.tmp Zac.tmp ?_
 refine r1A ?_
 refine r1A ?_
 rw [hRl]
 refine r1A ?_
 refine T.seqE (mkT [(7, .v (iV n)), (8, .ot 99 N)] [(99, .tl 31 (hid (n + 1) N))] 4 39 (encM (eqM Rw b)) 208) ?_ ?_
 ·refine T.weak (Ent.nilot (t := 8) (k := 99) (ty := 31) rfl rfl) ?_
  refine r1A ?_
  refine T.block ?_
  refine T.loop (fun k s1 => ∃ c : Nat, k = N - c ∧ c ≤ N ∧ s1 = mkT [(0, .v (.sl RA)), (1, .v (.sl BA)), (7, .v (iV n)), (8, .ot 99 c), (9, .v (iV c))] [(99, .tl 31 (hid (n + 1) c))] 4 39 (encM ((eqM Rw b).take c)) 208) N
   (s' := mkT [(0, .v (.sl RA)), (1, .v (.sl BA)), (7, .v (iV n)), (8, .ot 99 0), (9, .v (iV ((0 : Nat) : Int)))] [(99, .tl 31 (hid (n + 1) 0))] 4 39 (encM ((eqM Rw b).take 0)) 208) (Ent.mkTi rfl rfl rfl ⟨⟨rfl, Zf3 rfl⟩, trivial⟩ (fun i r h => by cases h) ⟨⟨rfl, okR_v⟩, ⟨rfl, okR_v⟩, ⟨rfl, okR_v⟩, ⟨rfl, okR_1 rfl rfl⟩, ⟨rfl, okR_v⟩, trivial⟩) ⟨0, rfl, Nat.zero_le _, rfl⟩ ?_
  rintro _ _ ⟨c, rfl, hc, rfl⟩
  have hRc : (encM ((eqM Rw b).take c)).length = c := by rw [Ze4, List.length_take, hE]; omega
  by_cases hcN : c < N
  ·have d1 : decide ((c : Int) < (N : Int)) = true := decide_eq_true oM
   have hpush : encM ((eqM Rw b).take (c + 1)) = encM ((eqM Rw b).take c) ++ [((Rw.map fun r => r.getD c 0) ++ [b.getD c 0]).map encQ] := by
    rw [List.take_add_one, hEa c hcN]
    unfold encM
    rw [List.map_append]
    rfl
   have hfin : ∃ c' : Nat, N - (c + 1) = N - c' ∧ c' ≤ N ∧ mkT [(0, .v (.sl RA)), (1, .v (.sl BA)), (7, .v (iV n)), (8, .ot 99 (c + 1)), (9, .v (iV ((c : Int) + 1)))] [(99, .tl 31 (hid (n + 1) (c + 1)))] 4 39 (encM ((eqM Rw b).take c) ++ [((Rw.map fun r => r.getD c 0) ++ [b.getD c 0]).map encQ]) 208 = mkT [(0, .v (.sl RA)), (1, .v (.sl BA)), (7, .v (iV n)), (8, .ot 99 c'), (9, .v (iV c'))] [(99, .tl 31 (hid (n + 1) c'))] 4 39 (encM ((eqM Rw b).take c')) 208 := ⟨c + 1, rfl, hcN, by rw [hpush]; rfl⟩
   have hBc := hBa c hcN
   have hx0 : ∀ i, i < n → ((Rw.map fun r => r.getD c 0).take i) ++ [(Rw.getD i []).getD c 0] = (Rw.map fun r => r.getD c 0).take (i + 1) := fun i hi => by
    have e1 : (Rw.map fun r => r.getD c 0)[i]? = some ((Rw.getD i []).getD c 0) := by
     rw [List.getElem?_map, List.getElem?_eq_getElem (show i < Rw.length by omega), List.getD_eq_getElem?_getD (l := Rw), List.getElem?_eq_getElem (show i < Rw.length by omega)]
     rfl
    rw [List.take_add_one, e1]
    rfl
   have hxl : ∀ i, i ≤ n → (((Rw.map fun r => r.getD c 0).take i).map encQ).length = i := fun i hi => by rw [List.length_map, List.length_take, List.length_map, hn]; omega
   have hxn : (Rw.map fun r => r.getD c 0).take n = Rw.map fun r => r.getD c 0 := List.take_of_length_le (by rw [List.length_map, hn]; exact Nat.le_refl _)
   have hRj : ∀ i, i < n → ((Rw.getD i []).map encQ)[((c : Nat) : Int).toNat]? = some (encQ ((Rw.getD i []).getD c 0)) := fun i hi => by rw [show ((c : Nat) : Int).toNat = c by omega]; exact Ze2 (hRi i hi).2 hcN
   generalize encM ((eqM Rw b).take (c + 1)) = P1 at *
   generalize encM ((eqM Rw b).take c) = P0 at *
   rw [show (((Rw.map fun r => r.getD c 0) ++ [b.getD c 0]).map encQ) = ((Rw.map fun r => r.getD c 0).map encQ) ++ [encQ (b.getD c 0)] by rw [List.map_append]; rfl] at hpush hfin
   generalize b.getD c 0 = bc at *
   generalize (Rw.map fun r => r.getD c 0) = XR at *
   clear hh hEa hEr hres
   refine goA ?_
   rw [hBl]
   refine goA ?_
   refine T.weak (Ent.nilown (t := 10) (k := 50) (sz := 4) (ty := 39) rfl rfl) ?_
   refine T.loop (fun k s1 => ∃ i : Nat, k = n - i ∧ i ≤ n ∧ s1 = mkT [(0, .v (.sl RA)), (1, .v (.sl BA)), (7, .v (iV n)), (8, .ot 99 c), (9, .v (iV c)), (10, .own 50 i), (11, .v (iV i))] [(99, .tl 31 (hid (n + 1) c)), (50, .lst 4 39 ((XR.take i).map encQ))] 4 39 (P0) 208) n
    (s' := mkT [(0, .v (.sl RA)), (1, .v (.sl BA)), (7, .v (iV n)), (8, .ot 99 c), (9, .v (iV c)), (10, .own 50 0), (11, .v (iV ((0 : Nat) : Int)))] [(99, .tl 31 (hid (n + 1) c)), (50, .lst 4 39 ((XR.take 0).map encQ))] 4 39 (P0) 208) (gEnt (hRc.symm)) ⟨0, rfl, Nat.zero_le _, rfl⟩ ?_
   rintro _ _ ⟨i, rfl, hi, rfl⟩
   have hxli := hxl i hi
   by_cases hin : i < n
   ·have d2 : decide ((i : Int) < (n : Int)) = true := decide_eq_true oM
    obtain ⟨g1, g2⟩ := hRi i hin
    have g3 := hRj i hin
    have hx1 := hx0 i hin
    have hfin2 : ∃ i' : Nat, n - (i + 1) = n - i' ∧ i' ≤ n ∧ mkT [(0, .v (.sl RA)), (1, .v (.sl BA)), (7, .v (iV n)), (8, .ot 99 c), (9, .v (iV c)), (10, .own 50 (i + 1)), (11, .v (iV ((i : Int) + 1)))] [(99, .tl 31 (hid (n + 1) c)), (50, .lst 4 39 ((XR.take i).map encQ ++ [encQ ((Rw.getD i []).getD c 0)]))] 4 39 (P0) 208 = mkT [(0, .v (.sl RA)), (1, .v (.sl BA)), (7, .v (iV n)), (8, .ot 99 c), (9, .v (iV c)), (10, .own 50 i'), (11, .v (iV i'))] [(99, .tl 31 (hid (n + 1) c)), (50, .lst 4 39 ((XR.take i').map encQ))] 4 39 (P0) 208 := ⟨i + 1, rfl, hin, by rw [← hx1, List.map_append]; rfl⟩
    have g1 : RA[((i : Nat) : Int).toNat]? = some (.sl ((Rw.getD i []).map encQ)) := g1
    have hRwl : ((Rw.getD i []).map encQ).length = N := by rw [List.length_map, g2]
    generalize (Rw.getD i []).map encQ = RI at *
    generalize (Rw.getD i []).getD c 0 = q at *
    generalize (XR.take i).map encQ = XA at *
    clear hfin hx0 hxl hRi hRj hBa hpush hx1
    refine goA ?_
    refine ixG g1 ?_
    refine ixG g3 ?_
    refine evG ggA (Zaw (Zaa rfl) (Zaf rfl) rfl rfl rfl rfl (Zci rfl rfl) (Nat.le_of_ble_eq_true rfl)) ?_
    refine evG ggA (Zct (a := encQ q) (Zaa rfl) (Zaf rfl) rfl rfl hxli rfl rfl dC rfl oM (Nat.le_of_ble_eq_true rfl) rfl) ?_
    refine goA ?_
    exact Zab (k := n - (i + 1)) (s' := mkT [(0, .v (.sl RA)), (1, .v (.sl BA)), (7, .v (iV n)), (8, .ot 99 c), (9, .v (iV c)), (10, .own 50 (i + 1)), (11, .v (iV ((i : Int) + 1)))] [(99, .tl 31 (hid (n + 1) c)), (50, .lst 4 39 (XA ++ [encQ q]))] 4 39 (P0) 208) oM (gEnt (hRc.symm)) hfin2
   ·obtain rfl : i = n := oM
    have d2 : decide ((i : Int) < (i : Int)) = false := decide_eq_false oM
    rw [hxn] at hxli ⊢
    generalize XR.map encQ = XA at *
    clear hx0 hxl hRi hRj hBa hxn
    refine goA ?_
    refine ixG hBc ?_
    refine evG ggA (Zaw (Zaa rfl) (Zaf rfl) rfl rfl rfl rfl (Zci rfl rfl) (Nat.le_of_ble_eq_true rfl)) ?_
    refine evG ggA (Zct (a := encQ bc) (Zaa rfl) (Zaf rfl) rfl rfl hxli rfl rfl dC rfl oM (Nat.le_of_ble_eq_true rfl) rfl) ?_
    refine evG ggA (ss_bslice_tl 51 (Zaa rfl) rfl (Zaf rfl) rfl rfl rfl) ?_
    refine evM (ms_append_ot (Zaa rfl) (Zaf rfl) rfl rfl (Zaq _ _) rfl rfl rfl dC (by unfold maxLen; omega) oM rfl rfl ?_)
    refine goA ?_
    exact Zab (k := N - (c + 1)) (s' := mkT [(0, .v (.sl RA)), (1, .v (.sl BA)), (7, .v (iV i)), (8, .ot 99 (c + 1)), (9, .v (iV ((c : Int) + 1)))] [(99, .tl 31 (hid (i + 1) (c + 1)))] 4 39 (P0 ++ [XA ++ [encQ bc]]) 208) oM (Ent.pushT rfl rfl rfl hRc rfl rfl (fun i r h => by first | exact mkT_hr h | exact rowM h) ⟨⟨rfl, fun j hj => by cases hj⟩, ⟨rfl, fun j hj => by cases hj⟩, ⟨rfl, fun j hj => by cases hj⟩, ⟨rfl, fun j hj => List.mem_singleton.1 hj⟩, ⟨rfl, fun j hj => by cases hj⟩, trivial⟩) hfin
  ·obtain rfl : c = N := oM
   have d1 : decide ((c : Int) < (c : Int)) = false := decide_eq_false oM
   rw [List.take_of_length_le oM] at hRc ⊢
   clear hh hEa hEr hres hRi hBa
   generalize encM (eqM Rw b) = EE at *
   refine goA ?_
   rw [hBl]
   refine goA ?_
   exact Zae (s' := mkT [(7, .v (iV n)), (8, .ot 99 c)] [(99, .tl 31 (hid (n + 1) c))] 4 39 (EE) 208) (gEnt (hRc.symm)) rfl
 refine T.seqI (fun s1 => ∃ M, gjS (eqM Rw b) n = some M ∧ s1 = mkT [(7, .v (iV n)), (8, .ot 99 N)] [(99, .tl 31 (hid (n + 1) N))] 4 39 (encM M) 208) ?_ ?_
 ·refine goA ?_
  refine T.loop (fun k s1 => ∃ (c : Nat) (M : List (List Rat)), k = n - c ∧ c ≤ n ∧ gjS (eqM Rw b) c = some M ∧ s1 = mkT [(7, .v (iV n)), (8, .ot 99 N), (12, .v (iV (c : Nat)))] [(99, .tl 31 (hid (n + 1) N))] 4 39 (encM M) 208) n
   (s' := mkT [(7, .v (iV n)), (8, .ot 99 N), (12, .v (iV ((0 : Nat) : Int)))] [(99, .tl 31 (hid (n + 1) N))] 4 39 (encM (eqM Rw b)) 208) (Ent.mkTi rfl rfl rfl ⟨⟨rfl, Zf3 (by rw [Ze4, hE])⟩, trivial⟩ (fun i r h => by first | exact mkT_hr h | exact rowM h) ⟨⟨rfl, okR_v⟩, ⟨rfl, okR_1 rfl rfl⟩, ⟨rfl, okR_v⟩, trivial⟩) ⟨0, eqM Rw b, rfl, Nat.zero_le _, rfl, rfl⟩ ?_
  rintro _ _ ⟨c, M, rfl, hc, hg, rfl⟩
  obtain ⟨hMl, hMr, -, -⟩ := gj_ok (n := n) hEr c hc M hg
  rw [hE] at hMl
  have hMh := hh c hc M hg
  have hNr : N = (encM M).length := by rw [Ze4, hMl]
  by_cases hcn : c < n
  ·have d1 : decide ((c : Int) < (n : Int)) = true := decide_eq_true oM
   have hgn : gjS (eqM Rw b) (c + 1) = gj1 c M := by
    show (match gjS (eqM Rw b) c with | none => none | some M' => gj1 c M') = _
    rw [hg]
   have hMg : ∀ i, i < N → (encM M)[i]? = some ((M.getD i []).map encQ) := fun i hi => Zfx oM
   have hMw : ∀ i, i < N → ((M.getD i []).map encQ).length = n + 1 := fun i hi => by rw [List.length_map]; exact hMr i oM
   have hMe : ∀ i, i < N → ∀ j, j < n + 1 → ((M.getD i []).map encQ)[j]? = some (encQ (elt M i j)) := fun i hi j hj => Ze2 (hMr i oM) hj
   obtain ⟨pv, hpv⟩ : ∃ pv, pv = pvt M c := ⟨_, rfl⟩
   have hcpv : c ≤ pv := by rw [hpv]; unfold pvt; omega
   have hz : ∀ p, c ≤ p → p < pv → p < N → elt M p c = 0 := fun p h1 h2 h3 => by
    by_cases h : pvt M c < M.length
    ·exact (Zgq h).2.2 p h1 oM
    ·exact pvt_none h p h1 oM
   refine goA ?_
   refine T.loop (fun k s1 => ∃ p : Nat, k = pv - p ∧ c ≤ p ∧ p ≤ pv ∧ s1 = mkT [(7, .v (iV n)), (8, .ot 99 N), (12, .v (iV (c : Nat))), (13, .v (iV (p : Nat)))] [(99, .tl 31 (hid (n + 1) N))] 4 39 (encM M) 208) (pv - c)
    (s' := mkT [(7, .v (iV n)), (8, .ot 99 N), (12, .v (iV (c : Nat))), (13, .v (iV (c : Nat)))] [(99, .tl 31 (hid (n + 1) N))] 4 39 (encM M) 208) (gEnt hNr) ⟨c, rfl, Nat.le_refl _, hcpv, rfl⟩ ?_
   rintro _ _ ⟨p, rfl, hcp, hpp, rfl⟩
   by_cases hpN : p < N
   ·have d2 : decide ((p : Int) < (N : Int)) = true := decide_eq_true oM
    obtain ⟨sg, s2, cs⟩ := Zgo (Zad (hMh p hpN c)) oM
    have cs : PC Tryz.prog 24 _ _ := cs.up
    have hrw := hMg p hpN
    have hrl := hMw p hpN
    have hre := hMe p hpN c oM
    obtain ⟨g, d, g', d', e0⟩ := Zax (Zad (hMh p hpN c))
    by_cases hlt : p < pv
    ·obtain rfl : sg = 0 := s2.2 (hz p hcp hlt hpN)
     rw [e0] at hre cs
     clear hres hh hEr hEa hRi hBa hMh hMg hMw hMe hz
     refine goA ?_
     refine evG ggA (Zb6 (Zaa rfl) rfl (Za3 rfl) rfl rfl (Zaq _ _)) ?_
     refine goA ?_
     refine evG ggA (Za7 (Zaa rfl) (Zag rfl) rfl rfl (Zaq _ _) rfl oM oM) ?_
     rw [show ((p : Nat) : Int).toNat = p by omega]
     refine evG ggA (Zba (Zaa rfl) (Zbi rfl) rfl rfl (Zaq _ _) (Zcf _ hpN)) ?_
     refine goA ?_
     refine evG ggA (Zah (Zaa rfl) (Zag rfl) rfl (rowM hrw) hrl rfl oM oM) ?_
     rw [show ((c : Nat) : Int).toNat = c by omega]
     refine evG ggA (Zan (Zaa rfl) (Zbc rfl) rfl (rowM hrw) hrl hre) ?_
     refine goA ?_
     refine clG cs ?_
     exact Zab (k := pv - (p + 1)) (s' := mkT [(7, .v (iV n)), (8, .ot 99 N), (12, .v (iV (c : Nat))), (13, .v (iV ((p : Int) + 1)))] [(99, .tl 31 (hid (n + 1) N))] 4 39 (encM M) 208) oM (gEnt hNr) ⟨p + 1, rfl, oM, hlt, rfl⟩
    ·obtain rfl : p = pv := oM
     have hpl : pvt M c < M.length := oM
     obtain ⟨-, hne, -⟩ := Zgq hpl
     rw [← hpv] at hne
     have d3 : (sg == 0) = false := by simp; intro h; exact hne (s2.1 h)
     have d4 : decide ((p : Int) ≥ (N : Int)) = false := decide_eq_false oM
     have hcN : c < N := oM
     have hg1 : gj1 c M = some (elimL (swpL M c p) c) := by unfold gj1; rw [if_pos hpl, ← hpv]
     rw [hg1] at hgn
     have hSl : (swpL M c p).length = N := by rw [swp_len, hMl]
     have hSg := swp_get M (c := c) (p := p) oM oM
     have hSc : (swpL M c p).getD c [] = M.getD p [] := by
      rw [hSg]
      by_cases e : c = p
      ·rw [if_pos e, e]
      ·rw [if_neg e, if_pos rfl]
     have hSr : ∀ i, i < N → ((swpL M c p).getD i []).length = n + 1 := fun i hi => by
      rw [hSg]
      split
      ·exact hMr c oM
      ·split
       ·exact hMr p oM
       ·exact hMr i oM
     have hSh : ∀ i, i < N → ∀ j, Ht (elt (swpL M c p) i j) K := fun i hi j => by
      unfold elt
      rw [hSg]
      split
      ·exact hMh c hcN j
      ·split
       ·exact hMh p hpN j
       ·exact hMh i hi j
     have hcc : elt (swpL M c p) c c = elt M p c := by unfold elt; rw [hSc]
     have hsw := encM_swp M (c := c) (p := p) oM oM
     have hMh' := hh (c + 1) oM _ hgn
     have hrw2 := hMg c hcN
     rw [e0] at hre cs
     have hfinal : ∃ (c' : Nat) (M' : List (List Rat)), n - (c + 1) = n - c' ∧ c' ≤ n ∧ gjS (eqM Rw b) c' = some M' ∧ mkT [(7, .v (iV n)), (8, .ot 99 N), (12, .v (iV ((c : Int) + 1)))] [(99, .tl 31 (hid (n + 1) N))] 4 39 (encM (elimL (swpL M c p) c)) 208 = mkT [(7, .v (iV n)), (8, .ot 99 N), (12, .v (iV (c' : Nat)))] [(99, .tl 31 (hid (n + 1) N))] 4 39 (encM M') 208 := ⟨c + 1, _, rfl, hcn, hgn, rfl⟩
     clear hres hh hEr hEa hRi hBa hMh hMg hMe hz hgn hg1
     generalize swpL M c p = S at *
     refine goA ?_
     refine evG ggA (Zb6 (Zaa rfl) rfl (Za3 rfl) rfl rfl (Zaq _ _)) ?_
     refine goA ?_
     refine evG ggA (Za7 (Zaa rfl) (Zag rfl) rfl rfl (Zaq _ _) rfl oM oM) ?_
     rw [show ((p : Nat) : Int).toNat = p by omega]
     refine evG ggA (Zba (Zaa rfl) (Zbi rfl) rfl rfl (Zaq _ _) (Zcf _ hpN)) ?_
     refine goA ?_
     refine evG ggA (Zah (Zaa rfl) (Zag rfl) rfl (rowM hrw) hrl rfl oM oM) ?_
     rw [show ((c : Nat) : Int).toNat = c by omega]
     refine evG ggA (Zan (Zaa rfl) (Zbc rfl) rfl (rowM hrw) hrl hre) ?_
     refine goA ?_
     refine clG cs ?_
     refine evG ggA (Zb6 (Zaa rfl) rfl (Za3 rfl) rfl rfl (Zaq _ _)) ?_
     refine goA ?_
     refine evG ggA (Za7 (Zaa rfl) (Zag rfl) rfl rfl (Zaq _ _) rfl oM oM) ?_
     rw [show ((p : Nat) : Int).toNat = p by omega]
     refine evG ggA (Zba (Zaa rfl) (Zbi rfl) rfl rfl (Zaq _ _) (Zcf _ hpN)) ?_
     refine goA ?_
     refine evG ggA (Za7 (Zaa rfl) (Zag rfl) rfl rfl (Zaq _ _) rfl oM oM) ?_
     rw [show ((c : Nat) : Int).toNat = c by omega]
     refine evG ggA (Zba (Zaa rfl) (Zbi rfl) rfl rfl (Zaq _ _) (Zcf _ hcN)) ?_
     refine goA ?_
     refine evG ggA (Za7 (Zaa rfl) (Zag rfl) rfl rfl (Zaq _ _) rfl oM oM) ?_
     rw [show ((c : Nat) : Int).toNat = c by omega]
     refine evG ggA (ss_store_opt rfl (Zbp rfl) rfl rfl (Zaq _ _) hcN rfl rfl rfl) ?_
     refine evG ggA (Za7 (Zaa rfl) (Zag rfl) rfl rfl (by rw [List.length_set, Zaq]) rfl oM oM) ?_
     rw [show ((p : Nat) : Int).toNat = p by omega]
     refine evG ggA (ss_store_opt rfl (Zbp rfl) rfl rfl (by rw [List.length_set, Zaq]) hpN rfl rfl rfl) ?_
     refine runA ?_
     refine Zao ?_
     refine osA ?_
     refine T.weak (Ent.swapT (L := [(7, .v (iV n)), (8, .ot 99 N), (12, .v (iV (c : Nat)))]) rfl rfl rfl hcN hpN hNr.symm rfl (fun i r h => by first | exact mkT_hr h | exact rowM h) ⟨⟨rfl, fun j hj => by cases hj⟩, ⟨rfl, fun j hj => List.mem_singleton.1 hj⟩, ⟨rfl, fun j hj => by cases hj⟩, trivial⟩) ?_
     rw [hsw]
     have hNS : N = (encM S).length := by rw [Ze4, hSl]
     have hSg2 : ∀ i, i < N → (encM S)[i]? = some ((S.getD i []).map encQ) := fun i hi => Zfx oM
     have hSw : ∀ i, i < N → ((S.getD i []).map encQ).length = n + 1 := fun i hi => by rw [List.length_map]; exact hSr i hi
     have hSe : ∀ i, i < N → ∀ j, j < n + 1 → ((S.getD i []).map encQ)[j]? = some (encQ (elt S i j)) := fun i hi j hj => Ze2 (hSr i hi) hj
     obtain ⟨x, hx⟩ : ∃ x, x = elt S c c := ⟨_, rfl⟩
     rw [← hcc, ← hx] at hne
     have hxK : Ht x K := by rw [hx]; exact hSh c hcN c
     have hfK : Ht (1 / x) K := by rw [Rat.div_def, Rat.one_mul]; exact ht_inv hxK hK.1
     have cq : PC Tryz.prog 77 _ _ := (refquo2_p (Zad ((show Ht (1 : Rat) 1 from ⟨dC, dC⟩).mono hK.1)) (Zad hxK) hK.1 hK.1 oM hne).up
     have cq : PC Tryz.prog 77 _ _ := cq
     have hpivl : (pivL S c).length = n + 1 := by unfold pivL; rw [List.length_map]; exact hSr c hcN
     have hpive : ∀ j, j < n + 1 → (pivL S c).getD j 0 = elt S c j * (1 / x) := fun j hj => by rw [pivL_get (hSr c hcN) hj, hx]
     have hEl : ∀ i, i < N → (elimL S c).getD i [] = if i = c then pivL S c else gcl (elt S i c) (S.getD i []) (pivL S c) := fun i hi => elim_get S c oM
     have hm1 : ∀ k, k < n + 1 → PC Tryz.prog 78 [encQ (elt S c k), encQ (1 / x)] (encQ (elt S c k * (1 / x))) := fun k hk => (Zb7 (Zad (hSh c hcN k)) (Zad hfK) oM).up
     have hpivK : ∀ j, Ht ((pivL S c).getD j 0) K := fun j => by
      have := hMh' c hcN j
      unfold elt at this
      rw [hEl c hcN, if_pos rfl] at this
      exact this
     have hU0 := gup_0 (fun j => encQ (elt S c j * (1 / x))) ((S.getD c []).map encQ)
     have hUl := gup_len (fun j => encQ (elt S c j * (1 / x))) ((S.getD c []).map encQ)
     have hUa := gup_at (fun j => encQ (elt S c j * (1 / x))) ((S.getD c []).map encQ)
     have hUs := gup_set (fun j => encQ (elt S c j * (1 / x))) ((S.getD c []).map encQ)
     have hUn : gup (fun j => encQ (elt S c j * (1 / x))) ((S.getD c []).map encQ) (n + 1) = (pivL S c).map encQ := by
      have := upd_mul (1 / x) (S.getD c []) (hSr c hcN)
      unfold pivL
      rw [← hx]
      exact this
     have hS0 : (encM S).set c ((S.getD c []).map encQ) = encM S := by
      rw [encM_set]
      congr 1
      refine Zf8 (by rw [List.length_set]) fun i hi => ?_
      rw [Zeb]
      split
      ·rename_i h; rw [h.1]
      ·rfl
     have hrw3 := hSg2 c hcN
     have hrl3 := hSw c hcN
     have hre3 := hSe c hcN c oM
     rw [← hx] at hre3
     obtain ⟨xg, xd, xg', xd', ex⟩ := Zax (Zad hxK)
     obtain ⟨og, od, og', od', eo⟩ := Zax (Zad hfK)
     rw [ex] at cq hre3
     rw [eo] at cq hm1
     have hcell : ∀ i, i < N → ∀ k, ∃ g d g' d', encQ (elt S i k) = .agg [.p (.bool g), .sl d, .p (.bool g'), .sl d'] := fun i hi k => Zax (Zad (hSh i hi k))
     clear hsw hcc hSc hSg hrw2 hrw hrl hre cs e0 s2 d2 d3 d4 hne
     refine goA ?_
     refine clG c1 ?_
     refine evG ggA (Za7 (Zaa rfl) (Zag rfl) rfl rfl (Zaq _ _) rfl oM oM) ?_
     rw [show ((c : Nat) : Int).toNat = c by omega]
     refine evG ggA (Zba (Zaa rfl) (Zbi rfl) rfl rfl (Zaq _ _) (Zcf _ hcN)) ?_
     refine goA ?_
     refine evG ggA (Zah (Zaa rfl) (Zag rfl) rfl (rowM hrw3) hrl3 rfl oM oM) ?_
     rw [show ((c : Nat) : Int).toNat = c by omega]
     refine evG ggA (Zan (Zaa rfl) (Zbc rfl) rfl (rowM hrw3) hrl3 hre3) ?_
     refine goA ?_
     refine clG cq ?_
     refine T.loop (fun k' s1 => ∃ k : Nat, k' = n + 1 - k ∧ k ≤ n + 1 ∧ s1 = mkT [(7, .v (iV n)), (8, .ot 99 N), (12, .v (iV (c : Nat))), (14, .ptr 14 0), (16, .v (iV (k : Nat)))] [(99, .tl 31 (hid (n + 1) N)), (14, .var [.v (.p (.bool og)), .v (.sl od), .v (.p (.bool og')), .v (.sl od')])] 4 39 ((encM S).set c (gup (fun j => encQ (elt S c j * (1 / x))) ((S.getD c []).map encQ) k)) 208) (n + 1)
      (s' := mkT [(7, .v (iV n)), (8, .ot 99 N), (12, .v (iV (c : Nat))), (14, .ptr 14 0), (16, .v (iV ((0 : Nat) : Int)))] [(99, .tl 31 (hid (n + 1) N)), (14, .var [.v (.p (.bool og)), .v (.sl od), .v (.p (.bool og')), .v (.sl od')])] 4 39 (encM S) 208) (gEnt hNS) ⟨0, rfl, Nat.zero_le _, by rw [hU0, hS0]⟩ ?_
     rintro _ _ ⟨k, rfl, hk, rfl⟩
     by_cases hkn : k < n + 1
     ·have d5 : decide ((k : Int) ≤ (n : Int)) = true := decide_eq_true oM
      have hul := hUl k
      rw [hrl3] at hul
      have hgk := hUa k k oM
      rw [if_neg oM, hSe c hcN k hkn] at hgk
      have hset := hUs k
      have cm := hm1 k hkn
      have hRk : ((encM S).set c (gup (fun j => encQ (elt S c j * (1 / x))) ((S.getD c []).map encQ) k))[c]? = some (gup (fun j => encQ (elt S c j * (1 / x))) ((S.getD c []).map encQ) k) := List.getElem?_set_self oM
      have hfin2 : ∃ k' : Nat, n + 1 - (k + 1) = n + 1 - k' ∧ k' ≤ n + 1 ∧ mkT [(7, .v (iV n)), (8, .ot 99 N), (12, .v (iV (c : Nat))), (14, .ptr 14 0), (16, .v (iV ((k : Int) + 1)))] [(99, .tl 31 (hid (n + 1) N)), (14, .var [.v (.p (.bool og)), .v (.sl od), .v (.p (.bool og')), .v (.sl od')])] 4 39 ((encM S).set c (gup (fun j => encQ (elt S c j * (1 / x))) ((S.getD c []).map encQ) (k + 1))) 208 = mkT [(7, .v (iV n)), (8, .ot 99 N), (12, .v (iV (c : Nat))), (14, .ptr 14 0), (16, .v (iV (k' : Nat)))] [(99, .tl 31 (hid (n + 1) N)), (14, .var [.v (.p (.bool og)), .v (.sl od), .v (.p (.bool og')), .v (.sl od')])] 4 39 ((encM S).set c (gup (fun j => encQ (elt S c j * (1 / x))) ((S.getD c []).map encQ) k')) 208 := ⟨k + 1, rfl, hkn, rfl⟩
      obtain ⟨g1, d1', g1', d2', e2⟩ := hcell c hcN k
      rw [e2] at hgk cm
      generalize gup (fun j => encQ (elt S c j * (1 / x))) ((S.getD c []).map encQ) (k + 1) = U' at *
      generalize gup (fun j => encQ (elt S c j * (1 / x))) ((S.getD c []).map encQ) k = U at *
      have hNS' : c < (encM S).length := oM
      generalize encM S = ES at *
      clear hfinal hUl hUa hUs hUn hm1 hSe hSh hSr hSg2 hSw hcell hMh' hpivK hpive hEl hU0 hS0 cq hMw
      refine goA ?_
      refine evG ggA (Za7 (Zaa rfl) (Zag rfl) rfl rfl (Zaq _ _) rfl oM oM) ?_
      rw [show ((c : Nat) : Int).toNat = c by omega]
      refine evG ggA (Zba (Zaa rfl) (Zbi rfl) rfl rfl (Zaq _ _) (Zcf _ hcN)) ?_
      refine goA ?_
      refine evG ggA (Za7 (Zaa rfl) (Zag rfl) rfl rfl (Zaq _ _) rfl oM oM) ?_
      rw [show ((c : Nat) : Int).toNat = c by omega]
      refine evG ggA (Zba (Zaa rfl) (Zbi rfl) rfl rfl (Zaq _ _) (Zcf _ hcN)) ?_
      refine goA ?_
      refine evG ggA (Zah (Zaa rfl) (Zag rfl) rfl (rowM hRk) hul rfl oM oM) ?_
      rw [show ((k : Nat) : Int).toNat = k by omega]
      refine evG ggA (Zan (Zaa rfl) (Zbc rfl) rfl (rowM hRk) hul hgk) ?_
      refine goA ?_
      refine clG cm ?_
      refine evG ggA (Zah (Zaa rfl) (Zag rfl) rfl (rowM hRk) hul rfl oM oM) ?_
      rw [show ((k : Nat) : Int).toNat = k by omega]
      refine evG ggA (Zbd rfl (Zbp rfl) rfl (rowM hRk) hul hkn rfl rfl (fun l h => by cases h) rfl) ?_
      rw [hset]
      refine goA ?_
      exact Zab (k := n + 1 - (k + 1)) (s' := mkT [(7, .v (iV n)), (8, .ot 99 N), (12, .v (iV (c : Nat))), (14, .ptr 14 0), (16, .v (iV ((k : Int) + 1)))] [(99, .tl 31 (hid (n + 1) N)), (14, .var [.v (.p (.bool og)), .v (.sl od), .v (.p (.bool og')), .v (.sl od')])] 4 39 (ES.set c U') 208) oM (Ent.mkTi rfl rfl rfl ⟨⟨rfl, Zf3 (by rw [List.length_set]; exact hNS)⟩, ⟨rfl, loOK_4⟩, trivial⟩ (fun i r h => upd_row (R := ES.set c U) (fun i r h => by first | exact mkT_hr h | exact rowM h) i r (by rw [List.set_set]; exact h) (by rw [List.length_set]; omega)) ⟨⟨rfl, okR_v⟩, ⟨rfl, okR_1 rfl rfl⟩, ⟨rfl, okR_v⟩, ⟨rfl, okR_1 rfl rfl⟩, ⟨rfl, okR_v⟩, trivial⟩) hfin2
     obtain rfl : k = n + 1 := oM
     have d5 : decide (((n + 1 : Nat) : Int) ≤ (n : Int)) = false := decide_eq_false oM
     rw [hUn, encM_set, ← midM_0]
     have hml := midM_len S c
     have hmg := fun i {k} (h : k < S.length) => Zgs S c i h
     have hmst := midM_step S c
     have hmN := midM_n S c hSl
     clear hUl hUa hUs hUn hm1 hU0 hS0 cq hrw3 hrl3 hre3 hMw hxK hfK
     refine goA ?_
     refine T.loop (fun k' s1 => ∃ i : Nat, k' = N - i ∧ i ≤ N ∧ s1 = mkT [(7, .v (iV n)), (8, .ot 99 N), (12, .v (iV (c : Nat))), (17, .v (iV (i : Nat)))] [(99, .tl 31 (hid (n + 1) N))] 4 39 (encM (midM S c i)) 208) N
      (s' := mkT [(7, .v (iV n)), (8, .ot 99 N), (12, .v (iV (c : Nat))), (17, .v (iV ((0 : Nat) : Int)))] [(99, .tl 31 (hid (n + 1) N))] 4 39 (encM (midM S c 0)) 208) (Ent.mkTi rfl rfl rfl ⟨⟨rfl, Zf3 (by rw [Ze4, hml, hSl])⟩, trivial⟩ (fun i r h => by first | exact mkT_hr h | exact rowM h) ⟨⟨rfl, okR_v⟩, ⟨rfl, okR_1 rfl rfl⟩, ⟨rfl, okR_v⟩, ⟨rfl, okR_v⟩, trivial⟩) ⟨0, rfl, Nat.zero_le _, rfl⟩ ?_
     rintro _ _ ⟨i, rfl, hi, rfl⟩
     have hNm : N = (encM (midM S c i)).length := by rw [Ze4, hml, hSl]
     by_cases hiN : i < N
     ·have d6 : decide ((i : Int) < (N : Int)) = true := decide_eq_true oM
      have hri := hmg i (k := i) oM
      rw [if_neg oM] at hri
      have hrc := hmg i (k := c) oM
      have hrc : (midM S c i).getD c [] = pivL S c := by
       rw [hrc]
       split
       ·rw [hEl c hcN, if_pos rfl]
       ·rw [if_pos rfl]
      have hgi : (encM (midM S c i))[i]? = some (((midM S c i).getD i []).map encQ) := Zfx (by rw [hml]; omega)
      have hgc : (encM (midM S c i))[c]? = some ((pivL S c).map encQ) := by rw [Zfx (by rw [hml]; omega), hrc]
      have hst2 := hmst i
      by_cases hic : i = c
      ·subst hic
       have d7 : ((i : Int) != (i : Int)) = false := by simp
       rw [if_pos rfl] at hri
       rw [hri] at hgi
       have hsame : midM S i (i + 1) = midM S i i := by
        rw [← hst2]
        refine Zf8 (by rw [List.length_set]) fun k hk => ?_
        rw [Zeb]
        split
        ·rename_i h; rw [← h.1, hEl i hcN, if_pos rfl, hri]
        ·rfl
       have hfin3 : ∃ i' : Nat, N - (i + 1) = N - i' ∧ i' ≤ N ∧ mkT [(7, .v (iV n)), (8, .ot 99 N), (12, .v (iV (i : Nat))), (17, .v (iV ((i : Int) + 1)))] [(99, .tl 31 (hid (n + 1) N))] 4 39 (encM (midM S i i)) 208 = mkT [(7, .v (iV n)), (8, .ot 99 N), (12, .v (iV (i : Nat))), (17, .v (iV (i' : Nat)))] [(99, .tl 31 (hid (n + 1) N))] 4 39 (encM (midM S i i')) 208 := ⟨i + 1, rfl, hiN, by rw [hsame]; rfl⟩
       have hwl : ((pivL S i).map encQ).length = n + 1 := by rw [List.length_map, hpivl]
       have hwe : ((pivL S i).map encQ)[i]? = some (encQ ((pivL S i).getD i 0)) := Ze2 hpivl oM
       obtain ⟨fg, fd, fg', fd', ef⟩ := Zax (Zad (hpivK i))
       rw [ef] at hwe
       have d8 : decide (((0 : Nat) : Int) ≤ (n : Int)) = true := decide_eq_true oM
       generalize encM (midM S i i) = EM at *
       clear hfinal hpivK hpive hEl hSe hSh hSr hSg2 hSw hcell hMh' hmg hmst hmN hml hst2 hsame hri hrc hgc
       refine goA ?_
       refine evG ggA (Zb6 (Zaa rfl) rfl (Za3 rfl) rfl rfl (Zaq _ _)) ?_
       refine goA ?_
       refine evG ggA (Za7 (Zaa rfl) (Zag rfl) rfl rfl (Zaq _ _) rfl oM oM) ?_
       rw [show ((i : Nat) : Int).toNat = i by omega]
       refine evG ggA (Zba (Zaa rfl) (Zbi rfl) rfl rfl (Zaq _ _) (Zcf _ hiN)) ?_
       refine goA ?_
       refine evG ggA (Zah (Zaa rfl) (Zag rfl) rfl (rowM hgi) hwl rfl oM oM) ?_
       rw [show ((i : Nat) : Int).toNat = i by omega]
       refine evG ggA (Zan (Zaa rfl) (Zbc rfl) rfl (rowM hgi) hwl hwe) ?_
       refine goA ?_
       refine T.loop (fun k' s1 => k' = 0 ∧ s1 = mkT [(7, .v (iV n)), (8, .ot 99 N), (12, .v (iV (i : Nat))), (17, .v (iV (i : Nat))), (18, .ptr 18 0), (19, .v (iV ((0 : Nat) : Int)))] [(99, .tl 31 (hid (n + 1) N)), (18, .var [.v (.p (.bool fg)), .v (.sl fd), .v (.p (.bool fg')), .v (.sl fd')])] 4 39 (EM) 208) 0
        (s' := mkT [(7, .v (iV n)), (8, .ot 99 N), (12, .v (iV (i : Nat))), (17, .v (iV (i : Nat))), (18, .ptr 18 0), (19, .v (iV ((0 : Nat) : Int)))] [(99, .tl 31 (hid (n + 1) N)), (18, .var [.v (.p (.bool fg)), .v (.sl fd), .v (.p (.bool fg')), .v (.sl fd')])] 4 39 (EM) 208) (gEnt hNm) ⟨rfl, rfl⟩ ?_
       rintro _ _ ⟨rfl, rfl⟩
       refine goA ?_
       exact Zab (k := N - (i + 1)) (s' := mkT [(7, .v (iV n)), (8, .ot 99 N), (12, .v (iV (i : Nat))), (17, .v (iV ((i : Int) + 1)))] [(99, .tl 31 (hid (n + 1) N))] 4 39 (EM) 208) oM (gEnt hNm) hfin3
      rw [if_neg hic] at hri
      have d7 : ((i : Int) != (c : Int)) = true := by simp; omega
      rw [hri] at hgi
      have hwl := hSw i hiN
      have hwe := hSe i hiN c oM
      obtain ⟨f, hf⟩ : ∃ f, f = elt S i c := ⟨_, rfl⟩
      have hfK : Ht f K := by rw [hf]; exact hSh i hiN c
      rw [← hf] at hwe
      have hEi := hEl i hiN
      rw [if_neg hic, ← hf] at hEi
      obtain ⟨sg, s2, cs⟩ := Zgo (Zad hfK) oM
      have cs : PC Tryz.prog 24 _ _ := cs.up
      obtain ⟨fg, fd, fg', fd', ef⟩ := Zax (Zad hfK)
      by_cases hf0 : f = 0
      ·obtain rfl : sg = 0 := s2.2 hf0
       have hsame : midM S c (i + 1) = midM S c i := by
        rw [← hst2]
        refine Zf8 (by rw [List.length_set]) fun k hk => ?_
        rw [Zeb]
        split
        ·rename_i h; rw [← h.1, hEi, hf0, gcl_zero (hSr i hiN) hpivl, hri]
        ·rfl
       have hfin3 : ∃ i' : Nat, N - (i + 1) = N - i' ∧ i' ≤ N ∧ mkT [(7, .v (iV n)), (8, .ot 99 N), (12, .v (iV (c : Nat))), (17, .v (iV ((i : Int) + 1)))] [(99, .tl 31 (hid (n + 1) N))] 4 39 (encM (midM S c i)) 208 = mkT [(7, .v (iV n)), (8, .ot 99 N), (12, .v (iV (c : Nat))), (17, .v (iV (i' : Nat)))] [(99, .tl 31 (hid (n + 1) N))] 4 39 (encM (midM S c i')) 208 := ⟨i + 1, rfl, hiN, by rw [hsame]; rfl⟩
       have d8 : decide (((0 : Nat) : Int) ≤ (n : Int)) = true := decide_eq_true oM
       rw [ef] at hwe cs
       generalize encM (midM S c i) = EM at *
       clear hfinal hpivK hpive hEl hSe hSh hSr hSg2 hSw hcell hMh' hmg hmst hmN hml hst2 hsame hri hrc hgc hEi
       refine goA ?_
       refine evG ggA (Zb6 (Zaa rfl) rfl (Za3 rfl) rfl rfl (Zaq _ _)) ?_
       refine goA ?_
       refine evG ggA (Za7 (Zaa rfl) (Zag rfl) rfl rfl (Zaq _ _) rfl oM oM) ?_
       rw [show ((i : Nat) : Int).toNat = i by omega]
       refine evG ggA (Zba (Zaa rfl) (Zbi rfl) rfl rfl (Zaq _ _) (Zcf _ hiN)) ?_
       refine goA ?_
       refine evG ggA (Zah (Zaa rfl) (Zag rfl) rfl (rowM hgi) hwl rfl oM oM) ?_
       rw [show ((c : Nat) : Int).toNat = c by omega]
       refine evG ggA (Zan (Zaa rfl) (Zbc rfl) rfl (rowM hgi) hwl hwe) ?_
       refine goA ?_
       refine T.loop (fun k' s1 => k' = 0 ∧ s1 = mkT [(7, .v (iV n)), (8, .ot 99 N), (12, .v (iV (c : Nat))), (17, .v (iV (i : Nat))), (18, .ptr 18 0), (19, .v (iV ((0 : Nat) : Int)))] [(99, .tl 31 (hid (n + 1) N)), (18, .var [.v (.p (.bool fg)), .v (.sl fd), .v (.p (.bool fg')), .v (.sl fd')])] 4 39 (EM) 208) 0
        (s' := mkT [(7, .v (iV n)), (8, .ot 99 N), (12, .v (iV (c : Nat))), (17, .v (iV (i : Nat))), (18, .ptr 18 0), (19, .v (iV ((0 : Nat) : Int)))] [(99, .tl 31 (hid (n + 1) N)), (18, .var [.v (.p (.bool fg)), .v (.sl fd), .v (.p (.bool fg')), .v (.sl fd')])] 4 39 (EM) 208) (gEnt hNm) ⟨rfl, rfl⟩ ?_
       rintro _ _ ⟨rfl, rfl⟩
       refine goA ?_
       refine clG cs ?_
       exact Zab (k := N - (i + 1)) (s' := mkT [(7, .v (iV n)), (8, .ot 99 N), (12, .v (iV (c : Nat))), (17, .v (iV ((i : Int) + 1)))] [(99, .tl 31 (hid (n + 1) N))] 4 39 (EM) 208) oM (gEnt hNm) hfin3
      have d8 : (sg != 0) = true := by simp; intro h; exact hf0 (s2.1 h)
      have hW0 := gup_0 (fun j => encQ (elt S i j - f * (pivL S c).getD j 0)) ((S.getD i []).map encQ)
      have hWl := gup_len (fun j => encQ (elt S i j - f * (pivL S c).getD j 0)) ((S.getD i []).map encQ)
      have hWa := gup_at (fun j => encQ (elt S i j - f * (pivL S c).getD j 0)) ((S.getD i []).map encQ)
      have hWs := gup_set (fun j => encQ (elt S i j - f * (pivL S c).getD j 0)) ((S.getD i []).map encQ)
      have hWn : gup (fun j => encQ (elt S i j - f * (pivL S c).getD j 0)) ((S.getD i []).map encQ) (n + 1) = (gcl f (S.getD i []) (pivL S c)).map encQ := upd_clr f _ _ (hSr i hiN) hpivl
      have hM0 : (encM (midM S c i)).set i ((S.getD i []).map encQ) = encM (midM S c i) := by
       rw [encM_set]
       congr 1
       refine Zf8 (by rw [List.length_set]) fun k hk => ?_
       rw [Zeb]
       split
       ·rename_i h; rw [← h.1, hri]
       ·rfl
      have hMn : (encM (midM S c i)).set i ((gcl f (S.getD i []) (pivL S c)).map encQ) = encM (midM S c (i + 1)) := by rw [encM_set, ← hEi, hst2]
      have hfin3 : ∃ i' : Nat, N - (i + 1) = N - i' ∧ i' ≤ N ∧ mkT [(7, .v (iV n)), (8, .ot 99 N), (12, .v (iV (c : Nat))), (17, .v (iV ((i : Int) + 1)))] [(99, .tl 31 (hid (n + 1) N))] 4 39 (encM (midM S c (i + 1))) 208 = mkT [(7, .v (iV n)), (8, .ot 99 N), (12, .v (iV (c : Nat))), (17, .v (iV (i' : Nat)))] [(99, .tl 31 (hid (n + 1) N))] 4 39 (encM (midM S c i')) 208 := ⟨i + 1, rfl, hiN, rfl⟩
      have hm2 : ∀ k, k < n + 1 → PC Tryz.prog 78 [encQ f, encQ ((pivL S c).getD k 0)] (encQ (f * (pivL S c).getD k 0)) := fun k hk => (Zb7 (Zad hfK) (Zad (hpivK k)) oM).up
      have hs2 : ∀ k, k < n + 1 → PC Tryz.prog 79 [encQ (elt S i k), encQ (f * (pivL S c).getD k 0)] (encQ (elt S i k - f * (pivL S c).getD k 0)) := fun k hk => (refsub2_p (Zad (hSh i hiN k)) (Zad (Zbq hfK (hpivK k) hK.1)) hK.1 oM oM).up
      have hpc : ∀ k, k < n + 1 → ((pivL S c).map encQ)[k]? = some (encQ ((pivL S c).getD k 0)) := fun k hk => Ze2 hpivl hk
      have hpcl : ∀ k, ∃ g d g' d', encQ ((pivL S c).getD k 0) = .agg [.p (.bool g), .sl d, .p (.bool g'), .sl d'] := fun k => Zax (Zad (hpivK k))
      have hpl2 : ((pivL S c).map encQ).length = n + 1 := by rw [List.length_map, hpivl]
      have hSei := hSe i hiN
      have hcelli := hcell i hiN
      rw [ef] at hwe cs hm2
      rw [← hMn, ← hWn] at hfin3
      have hNm' : i < (encM (midM S c i)).length := oM
      generalize encM (midM S c i) = EM at *
      clear hfinal hpivK hpive hEl hSe hSh hSr hSg2 hSw hcell hMh' hmg hmst hmN hml hst2 hri hrc hEi hMn hWn hfK
      generalize (pivL S c).map encQ = PV at *
      refine goA ?_
      refine evG ggA (Zb6 (Zaa rfl) rfl (Za3 rfl) rfl rfl (Zaq _ _)) ?_
      refine goA ?_
      refine evG ggA (Za7 (Zaa rfl) (Zag rfl) rfl rfl (Zaq _ _) rfl oM oM) ?_
      rw [show ((i : Nat) : Int).toNat = i by omega]
      refine evG ggA (Zba (Zaa rfl) (Zbi rfl) rfl rfl (Zaq _ _) (Zcf _ hiN)) ?_
      refine goA ?_
      refine evG ggA (Zah (Zaa rfl) (Zag rfl) rfl (rowM hgi) hwl rfl oM oM) ?_
      rw [show ((c : Nat) : Int).toNat = c by omega]
      refine evG ggA (Zan (Zaa rfl) (Zbc rfl) rfl (rowM hgi) hwl hwe) ?_
      refine goA ?_
      refine T.loop (fun k' s1 => ∃ k : Nat, k' = n + 1 - k ∧ k ≤ n + 1 ∧ s1 = mkT [(7, .v (iV n)), (8, .ot 99 N), (12, .v (iV (c : Nat))), (17, .v (iV (i : Nat))), (18, .ptr 18 0), (19, .v (iV (k : Nat)))] [(99, .tl 31 (hid (n + 1) N)), (18, .var [.v (.p (.bool fg)), .v (.sl fd), .v (.p (.bool fg')), .v (.sl fd')])] 4 39 (EM.set i (gup (fun j => encQ (elt S i j - f * (pivL S c).getD j 0)) ((S.getD i []).map encQ) k)) 208) (n + 1)
       (s' := mkT [(7, .v (iV n)), (8, .ot 99 N), (12, .v (iV (c : Nat))), (17, .v (iV (i : Nat))), (18, .ptr 18 0), (19, .v (iV ((0 : Nat) : Int)))] [(99, .tl 31 (hid (n + 1) N)), (18, .var [.v (.p (.bool fg)), .v (.sl fd), .v (.p (.bool fg')), .v (.sl fd')])] 4 39 (EM) 208) (gEnt hNm) ⟨0, rfl, Nat.zero_le _, by rw [hW0, hM0]⟩ ?_
      rintro _ _ ⟨k, rfl, hk, rfl⟩
      by_cases hkn : k < n + 1
      ·have d9 : decide ((k : Int) ≤ (n : Int)) = true := decide_eq_true oM
       have hul := hWl k
       rw [hwl] at hul
       have hgk := hWa k k oM
       rw [if_neg oM, hSei k hkn] at hgk
       have hset := hWs k
       have cm := hm2 k hkn
       have cb := hs2 k hkn
       have hpk := hpc k hkn
       obtain ⟨g1, d1', g1', d2', e2⟩ := hcelli k
       obtain ⟨g3, d3', g3', d4', e4⟩ := hpcl k
       have hRk : (EM.set i (gup (fun j => encQ (elt S i j - f * (pivL S c).getD j 0)) ((S.getD i []).map encQ) k))[i]? = some (gup (fun j => encQ (elt S i j - f * (pivL S c).getD j 0)) ((S.getD i []).map encQ) k) := List.getElem?_set_self oM
       have hRc : (EM.set i (gup (fun j => encQ (elt S i j - f * (pivL S c).getD j 0)) ((S.getD i []).map encQ) k))[c]? = some PV := by rw [List.getElem?_set_ne hic]; exact hgc
       have hfin2 : ∃ k' : Nat, n + 1 - (k + 1) = n + 1 - k' ∧ k' ≤ n + 1 ∧ mkT [(7, .v (iV n)), (8, .ot 99 N), (12, .v (iV (c : Nat))), (17, .v (iV (i : Nat))), (18, .ptr 18 0), (19, .v (iV ((k : Int) + 1)))] [(99, .tl 31 (hid (n + 1) N)), (18, .var [.v (.p (.bool fg)), .v (.sl fd), .v (.p (.bool fg')), .v (.sl fd')])] 4 39 (EM.set i (gup (fun j => encQ (elt S i j - f * (pivL S c).getD j 0)) ((S.getD i []).map encQ) (k + 1))) 208 = mkT [(7, .v (iV n)), (8, .ot 99 N), (12, .v (iV (c : Nat))), (17, .v (iV (i : Nat))), (18, .ptr 18 0), (19, .v (iV (k' : Nat)))] [(99, .tl 31 (hid (n + 1) N)), (18, .var [.v (.p (.bool fg)), .v (.sl fd), .v (.p (.bool fg')), .v (.sl fd')])] 4 39 (EM.set i (gup (fun j => encQ (elt S i j - f * (pivL S c).getD j 0)) ((S.getD i []).map encQ) k')) 208 := ⟨k + 1, rfl, hkn, rfl⟩
       rw [e2] at hgk cb
       rw [e4] at hpk cm
       generalize gup (fun j => encQ (elt S i j - f * (pivL S c).getD j 0)) ((S.getD i []).map encQ) (k + 1) = U' at *
       generalize gup (fun j => encQ (elt S i j - f * (pivL S c).getD j 0)) ((S.getD i []).map encQ) k = U at *
       obtain ⟨mg, md, mg', md', e5⟩ : ∃ g d g' d', encQ (f * (pivL S c).getD k 0) = .agg [.p (.bool g), .sl d, .p (.bool g'), .sl d'] := ⟨_, _, _, _, rfl⟩
       rw [e5] at cm cb
       clear hfin3 hWl hWa hWs hm2 hs2 hpc hpcl hcelli hSei hW0 hM0
       refine goA ?_
       refine clG cs ?_
       refine evG ggA (Za7 (Zaa rfl) (Zag rfl) rfl rfl (Zaq _ _) rfl oM oM) ?_
       rw [show ((i : Nat) : Int).toNat = i by omega]
       refine evG ggA (Zba (Zaa rfl) (Zbi rfl) rfl rfl (Zaq _ _) (Zcf _ hiN)) ?_
       refine goA ?_
       refine evG ggA (Za7 (Zaa rfl) (Zag rfl) rfl rfl (Zaq _ _) rfl oM oM) ?_
       rw [show ((i : Nat) : Int).toNat = i by omega]
       refine evG ggA (Zba (Zaa rfl) (Zbi rfl) rfl rfl (Zaq _ _) (Zcf _ hiN)) ?_
       refine goA ?_
       refine evG ggA (Zah (Zaa rfl) (Zag rfl) rfl (rowM hRk) hul rfl oM oM) ?_
       rw [show ((k : Nat) : Int).toNat = k by omega]
       refine evG ggA (Zan (Zaa rfl) (Zbc rfl) rfl (rowM hRk) hul hgk) ?_
       refine goA ?_
       refine evG ggA (Za7 (Zaa rfl) (Zag rfl) rfl rfl (Zaq _ _) rfl oM oM) ?_
       rw [show ((c : Nat) : Int).toNat = c by omega]
       refine evG ggA (Zba (Zaa rfl) (Zbi rfl) rfl rfl (Zaq _ _) (Zcf _ hcN)) ?_
       refine goA ?_
       refine evG ggA (Zah (Zaa rfl) (Zag rfl) rfl (rowM hRc) hpl2 rfl oM oM) ?_
       rw [show ((k : Nat) : Int).toNat = k by omega]
       refine evG ggA (Zan (Zaa rfl) (Zbc rfl) rfl (rowM hRc) hpl2 hpk) ?_
       refine goA ?_
       refine clG cm ?_
       refine clG cb ?_
       refine evG ggA (Zah (Zaa rfl) (Zag rfl) rfl (rowM hRk) hul rfl oM oM) ?_
       rw [show ((k : Nat) : Int).toNat = k by omega]
       refine evG ggA (Zbd rfl (Zbp rfl) rfl (rowM hRk) hul hkn rfl rfl (fun l h => by cases h) rfl) ?_
       rw [hset]
       refine goA ?_
       exact Zab (k := n + 1 - (k + 1)) (s' := mkT [(7, .v (iV n)), (8, .ot 99 N), (12, .v (iV (c : Nat))), (17, .v (iV (i : Nat))), (18, .ptr 18 0), (19, .v (iV ((k : Int) + 1)))] [(99, .tl 31 (hid (n + 1) N)), (18, .var [.v (.p (.bool fg)), .v (.sl fd), .v (.p (.bool fg')), .v (.sl fd')])] 4 39 (EM.set i U') 208) oM (Ent.mkTi rfl rfl rfl ⟨⟨rfl, Zf3 (by rw [List.length_set]; exact hNm)⟩, ⟨rfl, loOK_4⟩, trivial⟩ (fun i2 r h => upd_row (R := EM.set i U) (fun i2 r h => by first | exact mkT_hr h | exact rowM h) i2 r (by rw [List.set_set]; exact h) (by rw [List.length_set]; omega)) ⟨⟨rfl, okR_v⟩, ⟨rfl, okR_1 rfl rfl⟩, ⟨rfl, okR_v⟩, ⟨rfl, okR_v⟩, ⟨rfl, okR_1 rfl rfl⟩, ⟨rfl, okR_v⟩, trivial⟩) hfin2
      obtain rfl : k = n + 1 := oM
      have d9 : decide (((n + 1 : Nat) : Int) ≤ (n : Int)) = false := decide_eq_false oM
      have hNU : N = (EM.set i (gup (fun j => encQ (elt S i j - f * (pivL S c).getD j 0)) ((S.getD i []).map encQ) (n + 1))).length := by rw [List.length_set]; exact hNm
      generalize EM.set i (gup (fun j => encQ (elt S i j - f * (pivL S c).getD j 0)) ((S.getD i []).map encQ) (n + 1)) = EU at *
      clear hWl hWa hWs hm2 hs2 hpc hpcl hcelli hSei hW0 hM0
      refine goA ?_
      exact Zab (k := N - (i + 1)) (s' := mkT [(7, .v (iV n)), (8, .ot 99 N), (12, .v (iV (c : Nat))), (17, .v (iV ((i : Int) + 1)))] [(99, .tl 31 (hid (n + 1) N))] 4 39 (EU) 208) oM (gEnt hNU) hfin3
     obtain rfl : i = N := oM
     have d6 : decide ((i : Int) < (i : Int)) = false := decide_eq_false oM
     rw [hmN] at hNm ⊢
     clear hpivK hpive hEl hSe hSh hSr hSg2 hSw hcell hMh' hmg hmst hmN hml
     generalize encM (elimL S c) = EF at *
     refine goA ?_
     refine evG ggA (Zb6 (Zaa rfl) rfl (Za3 rfl) rfl rfl (Zaq _ _)) ?_
     refine goA ?_
     exact Zab (k := n - (c + 1)) (s' := mkT [(7, .v (iV n)), (8, .ot 99 i), (12, .v (iV ((c : Int) + 1)))] [(99, .tl 31 (hid (n + 1) i))] 4 39 (EF) 208) oM (gEnt hNm) hfinal
   ·have d2 : decide ((p : Int) < (N : Int)) = false := decide_eq_false oM
    have d4 : decide ((p : Int) ≥ (N : Int)) = true := decide_eq_true oM
    have hpl : ¬ pvt M c < M.length := by
     intro h
     have := (Zgq h).1
     omega
    have hg1 : gj1 c M = none := by unfold gj1; rw [if_neg hpl]
    rw [hg1] at hgn
    have hgN := gj_stay hgn (n - (c + 1))
    rw [show c + 1 + (n - (c + 1)) = n by omega] at hgN
    rw [hgN] at hres
    have hres : AV.tup [a1, a2, a3] = .tup [.sl [], bV false, bV false] := hres
    injection hres with hres
    injection hres with h1 hres
    injection hres with h2 hres
    injection hres with h3 hres
    subst h1 h2 h3
    clear hh hEr hEa hRi hBa hMh hMg hMw hMe hz hgn hg1 hgN
    refine goA ?_
    refine evG ggA (Zb6 (Zaa rfl) rfl (Za3 rfl) rfl rfl (Zaq _ _)) ?_
    refine goA ?_
    refine evG ggA (Zb6 (Zaa rfl) rfl (Za3 rfl) rfl rfl (Zaq _ _)) ?_
    refine goA ?_
    exact rfl
  ·obtain rfl : c = n := oM
   have d1 : decide ((c : Int) < (c : Int)) = false := decide_eq_false oM
   clear hres hh hEr hEa hRi hBa hMh
   refine goA ?_
   exact Zae (s' := mkT [(7, .v (iV c)), (8, .ot 99 N)] [(99, .tl 31 (hid (c + 1) N))] 4 39 (encM M) 208) (gEnt hNr) ⟨M, hg, rfl⟩
 rintro _ ⟨M, hg, rfl⟩
 obtain ⟨hMl, hMr, -, -⟩ := gj_ok (n := n) hEr n (Nat.le_refl _) M hg
 rw [hE] at hMl
 have hMh := hh n (Nat.le_refl _) M hg
 have hnN := (gj_rows n M hg).2
 rw [hE] at hnN
 have hNr : N = (encM M).length := by rw [Ze4, hMl]
 rw [hg] at hres
 have hres : AV.tup [a1, a2, a3] = (match exRes n M with | none => .tup [.sl [], bV true, bV false] | some x => .tup [.sl (x.map encQ), bV true, bV true]) := hres
 have hxr : exRes n M = if (List.range M.length).all (fun i => decide (i < n) || decide (elt M i n = 0)) then some ((List.range (min n M.length)).map fun i => elt M i n) else none := rfl
 have hMg : ∀ i, i < N → (encM M)[i]? = some ((M.getD i []).map encQ) := fun i hi => Zfx oM
 have hMw : ∀ i, i < N → ((M.getD i []).map encQ).length = n + 1 := fun i hi => by rw [List.length_map]; exact hMr i oM
 have hMe : ∀ i, i < N → ((M.getD i []).map encQ)[n]? = some (encQ (elt M i n)) := fun i hi => Ze2 (hMr i oM) oM
 clear hh hEr hEa hRi hBa
 refine goA ?_
 refine T.weak (Ent.nilown (t := 20) (k := 60) (sz := 4) (ty := 39) rfl rfl) ?_
 refine T.loop (fun k s1 => ∃ i : Nat, k = N - i ∧ i ≤ N ∧ (∀ j, n ≤ j → j < i → elt M j n = 0) ∧ s1 = mkT [(7, .v (iV n)), (8, .ot 99 N), (20, .own 60 (min n i)), (21, .v (iV (i : Nat)))] [(99, .tl 31 (hid (n + 1) N)), (60, .lst 4 39 ((List.range (min n i)).map fun j => encQ (elt M j n)))] 4 39 (encM M) 208) N
  (s' := mkT [(7, .v (iV n)), (8, .ot 99 N), (20, .own 60 0), (21, .v (iV ((0 : Nat) : Int)))] [(99, .tl 31 (hid (n + 1) N)), (60, .lst 4 39 ([]))] 4 39 (encM M) 208) (gEnt hNr) ⟨0, rfl, Nat.zero_le _, fun j h1 h2 => absurd h2 (Nat.not_lt_zero _), by rw [Nat.min_zero]; rfl⟩ ?_
 rintro _ _ ⟨i, rfl, hi, hz, rfl⟩
 by_cases hiN : i < N
 ·have d1 : decide ((i : Int) < (N : Int)) = true := decide_eq_true oM
  have hgi := hMg i hiN
  have hwl := hMw i hiN
  have hwe := hMe i hiN
  have hqK := hMh i hiN n
  by_cases hin : i < n
  ·have d2 : decide ((i : Int) < (n : Int)) = true := decide_eq_true oM
   have hxl : ((List.range i).map fun j => encQ (elt M j n)).length = i := by simp
   have hfin : ∃ i' : Nat, N - (i + 1) = N - i' ∧ i' ≤ N ∧ (∀ j, n ≤ j → j < i' → elt M j n = 0) ∧ mkT [(7, .v (iV n)), (8, .ot 99 N), (20, .own 60 (i + 1)), (21, .v (iV ((i : Int) + 1)))] [(99, .tl 31 (hid (n + 1) N)), (60, .lst 4 39 (((List.range i).map fun j => encQ (elt M j n)) ++ [encQ (elt M i n)]))] 4 39 (encM M) 208 = mkT [(7, .v (iV n)), (8, .ot 99 N), (20, .own 60 (min n i')), (21, .v (iV (i' : Nat)))] [(99, .tl 31 (hid (n + 1) N)), (60, .lst 4 39 ((List.range (min n i')).map fun j => encQ (elt M j n)))] 4 39 (encM M) 208 := ⟨i + 1, rfl, hiN, fun j h1 h2 => oM, by rw [show min n (i + 1) = i + 1 by omega, List.range_succ, List.map_append]; rfl⟩
   rw [show min n i = i by omega]
   generalize ((List.range i).map fun j => encQ (elt M j n)) = XS at *
   generalize elt M i n = q at *
   generalize encM M = EM at *
   clear hres hxr hMg hMw hMe hMh hz
   obtain ⟨g, d, g', d', e0⟩ := Zax (Zad hqK)
   rw [e0] at hwe hfin
   refine goA ?_
   refine evG ggA (Zb6 (Zaa rfl) rfl (Za3 rfl) rfl rfl (Zaq _ _)) ?_
   refine goA ?_
   refine evG ggA (Za7 (Zaa rfl) (Zag rfl) rfl rfl (Zaq _ _) rfl oM oM) ?_
   rw [show ((i : Nat) : Int).toNat = i by omega]
   refine evG ggA (Zba (Zaa rfl) (Zbi rfl) rfl rfl (Zaq _ _) (Zcf _ hiN)) ?_
   refine goA ?_
   refine evG ggA (Zah (Zaa rfl) (Zag rfl) rfl (rowM hgi) hwl rfl oM oM) ?_
   rw [show ((n : Nat) : Int).toNat = n by omega]
   refine evG ggA (Zan (Zaa rfl) (Zbc rfl) rfl (rowM hgi) hwl hwe) ?_
   refine goA ?_
   refine evG ggA (Zaw (Zaa rfl) (Zaf rfl) rfl rfl rfl rfl (Zci rfl rfl) (Nat.le_of_ble_eq_true rfl)) ?_
   refine evG ggA (Zct (a := .agg [.p (.bool g), .sl d, .p (.bool g'), .sl d']) (Zaa rfl) (Zaf rfl) rfl rfl hxl rfl rfl dC rfl oM (Nat.le_of_ble_eq_true rfl) rfl) ?_
   refine goA ?_
   exact Zab (k := N - (i + 1)) (s' := mkT [(7, .v (iV n)), (8, .ot 99 N), (20, .own 60 (i + 1)), (21, .v (iV ((i : Int) + 1)))] [(99, .tl 31 (hid (n + 1) N)), (60, .lst 4 39 (XS ++ [.agg [.p (.bool g), .sl d, .p (.bool g'), .sl d']]))] 4 39 (EM) 208) oM (gEnt hNr) hfin
  ·have d2 : decide ((i : Int) < (n : Int)) = false := decide_eq_false oM
   obtain ⟨sg, s2, cs⟩ := Zgo (Zad hqK) oM
   have cs : PC Tryz.prog 24 _ _ := cs.up
   rw [show min n i = n by omega]
   by_cases hq0 : elt M i n = 0
   ·obtain rfl : sg = 0 := s2.2 hq0
    have hfin : ∃ i' : Nat, N - (i + 1) = N - i' ∧ i' ≤ N ∧ (∀ j, n ≤ j → j < i' → elt M j n = 0) ∧ mkT [(7, .v (iV n)), (8, .ot 99 N), (20, .own 60 n), (21, .v (iV ((i : Int) + 1)))] [(99, .tl 31 (hid (n + 1) N)), (60, .lst 4 39 ((List.range n).map fun j => encQ (elt M j n)))] 4 39 (encM M) 208 = mkT [(7, .v (iV n)), (8, .ot 99 N), (20, .own 60 (min n i')), (21, .v (iV (i' : Nat)))] [(99, .tl 31 (hid (n + 1) N)), (60, .lst 4 39 ((List.range (min n i')).map fun j => encQ (elt M j n)))] 4 39 (encM M) 208 := ⟨i + 1, rfl, hiN, fun j h1 h2 => by
     by_cases e : j = i
     ·rw [e]; exact hq0
     ·exact hz j h1 oM, by rw [show min n (i + 1) = n by omega]; rfl⟩
    generalize ((List.range n).map fun j => encQ (elt M j n)) = XS at *
    generalize elt M i n = q at *
    generalize encM M = EM at *
    clear hres hxr hMg hMw hMe hMh hz
    obtain ⟨g, d, g', d', e0⟩ := Zax (Zad hqK)
    rw [e0] at hwe cs
    refine goA ?_
    refine evG ggA (Zb6 (Zaa rfl) rfl (Za3 rfl) rfl rfl (Zaq _ _)) ?_
    refine goA ?_
    refine evG ggA (Za7 (Zaa rfl) (Zag rfl) rfl rfl (Zaq _ _) rfl oM oM) ?_
    rw [show ((i : Nat) : Int).toNat = i by omega]
    refine evG ggA (Zba (Zaa rfl) (Zbi rfl) rfl rfl (Zaq _ _) (Zcf _ hiN)) ?_
    refine goA ?_
    refine evG ggA (Zah (Zaa rfl) (Zag rfl) rfl (rowM hgi) hwl rfl oM oM) ?_
    rw [show ((n : Nat) : Int).toNat = n by omega]
    refine evG ggA (Zan (Zaa rfl) (Zbc rfl) rfl (rowM hgi) hwl hwe) ?_
    refine goA ?_
    refine clG cs ?_
    exact Zab (k := N - (i + 1)) (s' := mkT [(7, .v (iV n)), (8, .ot 99 N), (20, .own 60 n), (21, .v (iV ((i : Int) + 1)))] [(99, .tl 31 (hid (n + 1) N)), (60, .lst 4 39 (XS))] 4 39 (EM) 208) oM (gEnt hNr) hfin
   ·have d3 : (sg != 0) = true := by simp; intro h; exact hq0 (s2.1 h)
    rw [hxr, if_neg (fun h => by
     have := List.all_eq_true.1 h i (List.mem_range.2 oM)
     rw [Bool.or_eq_true] at this
     rcases this with h | h
     ·exact hin (of_decide_eq_true h)
     ·exact hq0 (of_decide_eq_true h))] at hres
    injection hres with hres
    injection hres with h1 hres
    injection hres with h2 hres
    injection hres with h3 hres
    subst h1 h2 h3
    generalize ((List.range n).map fun j => encQ (elt M j n)) = XS at *
    generalize elt M i n = q at *
    generalize encM M = EM at *
    clear hxr hMg hMw hMe hMh hz
    obtain ⟨g, d, g', d', e0⟩ := Zax (Zad hqK)
    rw [e0] at hwe cs
    refine goA ?_
    refine evG ggA (Zb6 (Zaa rfl) rfl (Za3 rfl) rfl rfl (Zaq _ _)) ?_
    refine goA ?_
    refine evG ggA (Za7 (Zaa rfl) (Zag rfl) rfl rfl (Zaq _ _) rfl oM oM) ?_
    rw [show ((i : Nat) : Int).toNat = i by omega]
    refine evG ggA (Zba (Zaa rfl) (Zbi rfl) rfl rfl (Zaq _ _) (Zcf _ hiN)) ?_
    refine goA ?_
    refine evG ggA (Zah (Zaa rfl) (Zag rfl) rfl (rowM hgi) hwl rfl oM oM) ?_
    rw [show ((n : Nat) : Int).toNat = n by omega]
    refine evG ggA (Zan (Zaa rfl) (Zbc rfl) rfl (rowM hgi) hwl hwe) ?_
    refine goA ?_
    refine clG cs ?_
    exact rfl
 ·obtain rfl : i = N := oM
  have d1 : decide ((i : Int) < (i : Int)) = false := decide_eq_false oM
  rw [hxr, if_pos (List.all_eq_true.2 fun j hj => by
   have := List.mem_range.1 hj
   rw [Bool.or_eq_true]
   by_cases h : j < n
   ·exact .inl (decide_eq_true h)
   ·exact .inr (decide_eq_true (hz j oM oM)))] at hres
  have hx : ((List.range (min n M.length)).map fun i => elt M i n).map encQ = (List.range (min n i)).map fun j => encQ (elt M j n) := by rw [hMl, List.map_map]; rfl
  have hres : AV.tup [a1, a2, a3] = .tup [.sl (((List.range (min n M.length)).map fun i => elt M i n).map encQ), bV true, bV true] := hres
  rw [hx] at hres
  have hxl : ((List.range (min n i)).map fun j => encQ (elt M j n)).length = min n i := by simp
  injection hres with hres
  injection hres with h1 hres
  injection hres with h2 hres
  injection hres with h3 hres
  subst h1 h2 h3
  generalize ((List.range (min n i)).map (fun j => encQ (elt M j n))) = XS at *
  generalize min n i = mi at *
  clear hxr hMg hMw hMe hMh hz
  refine goA ?_
  refine evG ggA (Zb6 (Zaa rfl) rfl (Za3 rfl) rfl rfl (Zaq _ _)) ?_
  refine runA ?_
  refine Zao ?_
  refine osA ?_
  refine T.condF rfl (by assumption) ?_
  refine T.exit ?_
  refine osA ?_
  refine T.weak (s' := mkS [(20, .v (.sl XS))] [] 208 true) entA ?_
  refine goA ?_
  exact rfl
end Ab
