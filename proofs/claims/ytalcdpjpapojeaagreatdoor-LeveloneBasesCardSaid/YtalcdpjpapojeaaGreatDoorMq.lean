/- Miller's basis of any weight, of the program. -/
import Derived.Test.YtalcdpjpapojeaaGreatDoorLx
import Derived.Test.YtalcdpjpapojeaaGreatDoorSHK
set_option linter.all false
namespace Ab
open Go Go.RowKit Go.Proofs Hp
set_option maxRecDepth 100000
def mlY (zS : Nat → Nat → Int) (zL : Nat → Nat → List AV) (i : Nat) : List AV := (List.range i).map fun (a : Nat) => serA (zS a (a + 1)) (zL a (a + 1))
def mlI (zS : Nat → Nat → Int) (zL : Nat → Nat → List AV) (d t n : Nat) : List AV := (List.range d).map fun (a : Nat) => if a + t + 1 = d then serA (zS a n) (zL a n) else if a + t < d then serA (zS a (a + 1)) (zL a (a + 1)) else serA (zS a d) (zL a d)
def mlO (zS : Nat → Nat → Int) (zL : Nat → Nat → List AV) (d t : Nat) : List AV := (List.range d).map fun (a : Nat) => if a + t < d then serA (zS a (a + 1)) (zL a (a + 1)) else serA (zS a d) (zL a d)
def mlC (zS : Nat → Nat → Int) (zL : Nat → Nat → List AV) (wS : Nat → Int) (wL : Nat → List AV) (d i : Nat) : List AV := (List.range d).map fun (a : Nat) => if a < i then serA (wS a) (wL a) else serA (zS a d) (zL a d)
section
variable {zS : Nat → Nat → Int} {zL : Nat → Nat → List AV} {wS : Nat → Int} {wL : Nat → List AV} {d : Nat}
theorem Zf1 {F : Nat → AV} {i : Nat} (h : i < d) : ((List.range d).map F)[i]? = some (F i) := by rw [List.getElem?_map, List.getElem?_range h]; rfl
theorem rm_set {F G : Nat → AV} {i : Nat} (h : i < d) (hG : ∀ a, a ≠ i → a < d → F a = G a) : ((List.range d).map F).set i (G i) = (List.range d).map G := by
 apply List.ext_getElem?
 intro a
 rw [List.getElem?_set, List.length_map, List.length_range]
 by_cases e : i = a
 ·subst e
  rw [if_pos rfl, if_pos h, Zf1 h]
 ·rw [if_neg e]
  by_cases ha : a < d
  ·rw [Zf1 ha, Zf1 ha, hG a (fun x => e x.symm) ha]
  ·rw [List.getElem?_eq_none (by simp; omega), List.getElem?_eq_none (by simp; omega)]
theorem mlY_len (i : Nat) : (mlY zS zL i).length = i := by simp [mlY]
theorem mlY_s (i : Nat) : mlY zS zL i ++ [serA (zS i (i + 1)) (zL i (i + 1))] = mlY zS zL (i + 1) := by
 unfold mlY
 rw [List.range_succ, List.map_append]
 rfl
theorem mlO_0 : mlY zS zL d = mlO zS zL d 0 := List.map_congr_left fun a ha => by
 have := List.mem_range.1 ha
 rw [if_pos oM]
theorem mlI_len (t n : Nat) : (mlI zS zL d t n).length = d := by simp [mlI]
theorem mlI_0 {t i : Nat} (h : i + t + 1 = d) : mlO zS zL d t = mlI zS zL d t (i + 1) := List.map_congr_left fun a ha => by
 by_cases e : a + t + 1 = d
 ·obtain rfl : a = i := oM
  rw [if_pos oM, if_pos e]
 ·rw [if_neg e]
theorem mlI_d (t : Nat) : mlI zS zL d t d = mlO zS zL d (t + 1) := List.map_congr_left fun a ha => by
 by_cases e : a + t + 1 = d
 ·rw [if_pos e, if_neg oM]
 ·rw [if_neg e]
  by_cases e2 : a + t < d
  ·rw [if_pos e2, if_pos oM]
  ·rw [if_neg e2, if_neg oM]
theorem mlI_at {t n i : Nat} (h : i + t + 1 = d) : (mlI zS zL d t n)[i]? = some (.agg [.p (.int .i64 (zS i n)), .sl (zL i n)]) := by
 unfold mlI
 rw [Zf1 oM, if_pos h]
 rfl
theorem mlI_done {t n i : Nat} (h : d ≤ i + t) (hi : i < d) : (mlI zS zL d t n)[i]? = some (.agg [.p (.int .i64 (zS i d)), .sl (zL i d)]) := by
 unfold mlI
 rw [Zf1 hi, if_neg oM, if_neg oM]
 rfl
theorem mlI_set {t n i : Nat} (h : i + t + 1 = d) : (mlI zS zL d t n).set i (serA (zS i (n + 1)) (zL i (n + 1))) = mlI zS zL d t (n + 1) := by
 have := rm_set (d := d) (i := i) (F := fun (a : Nat) => if a + t + 1 = d then serA (zS a n) (zL a n) else if a + t < d then serA (zS a (a + 1)) (zL a (a + 1)) else serA (zS a d) (zL a d)) (G := fun (a : Nat) => if a + t + 1 = d then serA (zS a (n + 1)) (zL a (n + 1)) else if a + t < d then serA (zS a (a + 1)) (zL a (a + 1)) else serA (zS a d) (zL a d)) oM (fun a h1 h2 => by
  have e : ¬ a + t + 1 = d := oM
  simp only [if_neg e])
 rw [if_pos h] at this
 exact this
theorem mlC_0 : mlO zS zL d d = mlC zS zL wS wL d 0 := List.map_congr_left fun a ha => by
 rw [if_neg oM, if_neg oM]
theorem mlC_len (i : Nat) : (mlC zS zL wS wL d i).length = d := by simp [mlC]
theorem mlC_at {i : Nat} (h : i < d) : (mlC zS zL wS wL d i)[i]? = some (.agg [.p (.int .i64 (zS i d)), .sl (zL i d)]) := by
 unfold mlC
 rw [Zf1 h, if_neg oM]
 rfl
theorem mlC_set {i : Nat} (h : i < d) : (mlC zS zL wS wL d i).set i (serA (wS i) (wL i)) = mlC zS zL wS wL d (i + 1) := by
 have := rm_set (d := d) (i := i) (F := fun (a : Nat) => if a < i then serA (wS a) (wL a) else serA (zS a d) (zL a d)) (G := fun (a : Nat) => if a < i + 1 then serA (wS a) (wL a) else serA (zS a d) (zL a d)) h (fun a h1 h2 => by
  show (if a < i then _ else _) = (if a < i + 1 then _ else _)
  by_cases e : a < i
  ·rw [if_pos e, if_pos oM]
  ·rw [if_neg e, if_neg oM])
 rw [if_pos oM] at this
 exact this
theorem mlC_d : mlC zS zL wS wL d d = (List.range d).map fun (a : Nat) => serA (wS a) (wL a) := List.map_congr_left fun a ha => by
 rw [if_pos (List.mem_range.1 ha)]
end
set_option maxHeartbeats 16000000 in
theorem miller_gen {k p q d : Nat} {r : Int} (hd : 1 ≤ d ∧ d ≤ 4) (hk : k ≤ 40) (hp : max (q : Int) d = p) (hp40 : p ≤ 1000) (hr : (k : Int) - 12 * ((d : Int) - 1) = r) (hr0 : 0 ≤ r) {O O1 E D : List AV} {P : Nat → List AV} {xS zS sS : Nat → Nat → Int} {xL zL sL : Nat → Nat → List AV} {wS : Nat → Int} {wL : Nat → List AV} {c : Nat → Nat → Rat} {h h' : Bool} {ys ys' : List AV}
  (cdim : PC Tryz.prog 37 [iV k] (iV d))
  (cof : PC Tryz.prog 48 [iV 1] (.agg [.p (.bool h), .sl ys, .p (.bool h'), .sl ys']))
  (cmon : PC Tryz.prog 47 [.agg [.p (.bool h), .sl ys, .p (.bool h'), .sl ys'], iV 0, iV p] (.tup [serA 0 O1, iV 0]))
  (cfi : 0 < r → PC Tryz.prog 49 [iV r, iV p] (.tup [serA 0 O, iV 0])) (cfi0 : r = 0 → O1 = O)
  (cei : PC Tryz.prog 49 [iV 4, iV p] (.tup [serA 0 E, iV 0]))
  (cdel : PC Tryz.prog 27 [iV p] (.tup [serA 1 D, iV 0]))
  (cpow : ∀ i, i < d → PC Tryz.prog 67 [serA 0 E, iV (3 * ((d : Int) - 1 - i))] (.tup [serA 0 (P i), iV 0]))
  (cm0 : ∀ i, i < d → PC Tryz.prog 51 [serA 0 (P i), serA 0 O] (.tup [serA (xS i 0) (xL i 0), iV 0]))
  (cm : ∀ i, i < d → ∀ j, j < i → PC Tryz.prog 51 [serA (xS i j) (xL i j), serA 1 D] (.tup [serA (xS i (j + 1)) (xL i (j + 1)), iV 0]))
  (cc : ∀ i, i < d → PC Tryz.prog 62 [serA (xS i i) (xL i i), iV p] (.tup [serA (zS i (i + 1)) (zL i (i + 1)), iV 0]))
  (hag : ∀ i n, ∃ g xs g' xs', encQ (c i n) = .agg [.p (.bool g), .sl xs, .p (.bool g'), .sl xs'])
  (cat : ∀ i n, i < n → n < d → PC Tryz.prog 21 [.agg [.p (.int .i64 (zS i n)), .sl (zL i n)], iV n] (.tup [encQ (c i n), iV 0]))
  (csc : ∀ i n, i < n → n < d → PC Tryz.prog 69 [encQ (c i n), .agg [.p (.int .i64 (zS n d)), .sl (zL n d)]] (.tup [serA (sS i n) (sL i n), iV 0]))
  (csu : ∀ i n, i < n → n < d → PC Tryz.prog 70 [.agg [.p (.int .i64 (zS i n)), .sl (zL i n)], serA (sS i n) (sL i n)] (.tup [serA (zS i (n + 1)) (zL i (n + 1)), iV 0]))
  (cfin : ∀ i, i < d → PC Tryz.prog 62 [.agg [.p (.int .i64 (zS i d)), .sl (zL i d)], iV q] (.tup [serA (wS i) (wL i), iV 0])) :
  PC Tryz.prog 32 [iV k, iV q] (.sl ((List.range d).map fun (a : Nat) => serA (wS a) (wL a))) := by
 have d0 : ((d : Int) == 0) = false := by rw [beq_eq_false_iff_ne]; omega
 obtain ⟨hd1, hd4⟩ := hd
 refine pb1 Tryz.func32 Zac.tmp ?_
 refine goA ?_
 refine clG cdim ?_
 rw [hp]
 refine goA ?_
 refine clG cof ?_
 refine clA cmon ?_
 refine runA ?_
 refine Zao ?_
 refine osA ?_
 refine T.seqE (mkS [(1, .v (iV q)), (5, .v (iV d)), (6, .v (iV p)), (7, .ptr 7 0)] [(7, .var [.v (iV 0), .v (.sl O)])] 164 true) ?_ ?_
 ·rcases Int.lt_or_le 0 r with h0 | h0
  ·have b1 : decide (r > 0) = true := decide_eq_true h0
   have cf := cfi h0
   refine goA ?_
   rw [hr]
   refine goA ?_
   refine clG cf ?_
   exact midE
  ·have b1 : decide (r > 0) = false := decide_eq_false oM
   obtain rfl := cfi0 oM
   refine goA ?_
   rw [hr]
   refine goA ?_
   exact midE
 refine goA ?_
 refine clG cei ?_
 refine clA cdel ?_
 refine runA ?_
 refine Zao ?_
 refine osA ?_
 refine r1A ?_
 refine T.seqE (mkS [(1, .v (iV q)), (5, .v (iV d)), (14, .own 200 d)] [(200, .lst 2 33 (mlY zS zL d))] 164 true) ?_ ?_
 ·refine r1A ?_
  refine T.block ?_
  refine T.loop (fun N s1 => ∃ i : Nat, N = d - i ∧ i ≤ d ∧ s1 = mkS [(1, .v (iV q)), (5, .v (iV d)), (6, .v (iV p)), (7, .ptr 7 0), (10, .ptr 10 0), (12, .ptr 12 0), (14, .own 200 i), (61, .v (iV d)), (62, .v (iV i))] [(7, .var [.v (iV 0), .v (.sl O)]), (10, .var [.v (iV 0), .v (.sl E)]), (12, .var [.v (iV 1), .v (.sl D)]), (200, .lst 2 33 (mlY zS zL i))] 164 true) d
   (s' := mkS [(1, .v (iV q)), (5, .v (iV d)), (6, .v (iV p)), (7, .ptr 7 0), (10, .ptr 10 0), (12, .ptr 12 0), (14, .own 200 0), (61, .v (iV d)), (62, .v (iV ((0 : Nat) : Int)))] [(7, .var [.v (iV 0), .v (.sl O)]), (10, .var [.v (iV 0), .v (.sl E)]), (12, .var [.v (iV 1), .v (.sl D)]), (200, .lst 2 33 (mlY zS zL 0))] 164 true) entA ⟨0, rfl, Nat.zero_le _, rfl⟩ ?_
  rintro _ _ ⟨i, rfl, hi, rfl⟩
  by_cases hlt : i < d
  ·have b1 : decide ((i : Int) < d) = true := decide_eq_true oM
   have c1 := cpow i hlt
   have c2 := cm0 i hlt
   have c3 := cm i hlt
   have c4 := cc i hlt
   have hl := mlY_len (zS := zS) (zL := zL) i
   have hs := mlY_s (zS := zS) (zL := zL) i
   refine goA ?_
   refine clG c1 ?_
   refine clG c2 ?_
   refine T.loop (fun N s1 => ∃ j : Nat, N = i - j ∧ j ≤ i ∧ s1 = mkS [(1, .v (iV q)), (5, .v (iV d)), (6, .v (iV p)), (7, .ptr 7 0), (10, .ptr 10 0), (12, .ptr 12 0), (14, .own 200 i), (61, .v (iV d)), (62, .v (iV i)), (15, .v (iV i)), (16, .ptr 16 0), (81, .v (iV i)), (82, .v (iV j))] [(7, .var [.v (iV 0), .v (.sl O)]), (10, .var [.v (iV 0), .v (.sl E)]), (12, .var [.v (iV 1), .v (.sl D)]), (200, .lst 2 33 (mlY zS zL i)), (16, .var [.v (iV (xS i j)), .v (.sl (xL i j))])] 164 true) i
    (s' := mkS [(1, .v (iV q)), (5, .v (iV d)), (6, .v (iV p)), (7, .ptr 7 0), (10, .ptr 10 0), (12, .ptr 12 0), (14, .own 200 i), (61, .v (iV d)), (62, .v (iV i)), (15, .v (iV i)), (16, .ptr 16 0), (81, .v (iV i)), (82, .v (iV ((0 : Nat) : Int)))] [(7, .var [.v (iV 0), .v (.sl O)]), (10, .var [.v (iV 0), .v (.sl E)]), (12, .var [.v (iV 1), .v (.sl D)]), (200, .lst 2 33 (mlY zS zL i)), (16, .var [.v (iV (xS i 0)), .v (.sl (xL i 0))])] 164 true) entA ⟨0, rfl, Nat.zero_le _, rfl⟩ ?_
   rintro _ _ ⟨j, rfl, hj, rfl⟩
   by_cases hlj : j < i
   ·have b2 : decide ((j : Int) < i) = true := decide_eq_true oM
    have c3 := c3 j hlj
    refine goA ?_
    refine clG c3 ?_
    exact Zab (k := i - (j + 1)) (s' := mkS [(1, .v (iV q)), (5, .v (iV d)), (6, .v (iV p)), (7, .ptr 7 0), (10, .ptr 10 0), (12, .ptr 12 0), (14, .own 200 i), (61, .v (iV d)), (62, .v (iV i)), (15, .v (iV i)), (16, .ptr 16 0), (81, .v (iV i)), (82, .v (iV ((j + 1 : Nat) : Int)))] [(7, .var [.v (iV 0), .v (.sl O)]), (10, .var [.v (iV 0), .v (.sl E)]), (12, .var [.v (iV 1), .v (.sl D)]), (200, .lst 2 33 (mlY zS zL i)), (16, .var [.v (iV (xS i (j + 1))), .v (.sl (xL i (j + 1)))])] 164 true) oM (by rw [show ((j + 1 : Nat) : Int) = (j : Int) + 1 by omega]; exact entA) ⟨j + 1, rfl, oM, rfl⟩
   ·obtain rfl : j = i := oM
    have b2 : decide ((j : Int) < j) = false := decide_eq_false oM
    refine goA ?_
    refine clG c4 ?_
    refine evG ggA (Zaw (Zaa rfl) (Zaf rfl) rfl rfl rfl rfl (Zci rfl rfl) (Nat.le_of_ble_eq_true rfl)) ?_
    refine evG ggA (Zct (a := serA (zS j (j + 1)) (zL j (j + 1))) (Zaa rfl) (Zaf rfl) rfl rfl hl rfl rfl dC rfl oM (Nat.le_of_ble_eq_true rfl) rfl) ?_
    rw [hs]
    refine goA ?_
    exact Zab (k := d - (j + 1)) (s' := mkS [(1, .v (iV q)), (5, .v (iV d)), (6, .v (iV p)), (7, .ptr 7 0), (10, .ptr 10 0), (12, .ptr 12 0), (14, .own 200 (j + 1)), (61, .v (iV d)), (62, .v (iV ((j + 1 : Nat) : Int)))] [(7, .var [.v (iV 0), .v (.sl O)]), (10, .var [.v (iV 0), .v (.sl E)]), (12, .var [.v (iV 1), .v (.sl D)]), (200, .lst 2 33 (mlY zS zL (j + 1)))] 164 true) oM (by rw [show ((j + 1 : Nat) : Int) = (j : Int) + 1 by omega]; exact entA) ⟨j + 1, rfl, oM, rfl⟩
  ·obtain rfl : i = d := oM
   have b1 : decide ((i : Int) < i) = false := decide_eq_false oM
   refine goA ?_
   exact midE
 rw [mlO_0]
 refine T.seqE (mkS [(1, .v (iV q)), (14, .own 200 d)] [(200, .lst 2 33 (mlO zS zL d d))] 164 true) ?_ ?_
 ·refine r1A ?_
  refine T.block ?_
  refine T.loop (fun N s1 => ∃ t : Nat, N = d - t ∧ t ≤ d ∧ s1 = mkS [(1, .v (iV q)), (5, .v (iV d)), (14, .own 200 d), (18, .v (iV ((d : Int) - 1 - t)))] [(200, .lst 2 33 (mlO zS zL d t))] 164 true) d
   (s' := mkS [(1, .v (iV q)), (5, .v (iV d)), (14, .own 200 d), (18, .v (iV ((d : Int) - 1 - (0 : Nat))))] [(200, .lst 2 33 (mlO zS zL d 0))] 164 true) (by rw [show (d : Int) - 1 - (0 : Nat) = (d : Int) - 1 by omega]; exact entA) ⟨0, rfl, Nat.zero_le _, rfl⟩ ?_
  rintro _ _ ⟨t, rfl, ht, rfl⟩
  by_cases hlt : t < d
  ·have b1 : decide ((d : Int) - 1 - t ≥ 0) = true := decide_eq_true oM
   obtain ⟨i, hi⟩ : ∃ i, i + t + 1 = d := ⟨d - 1 - t, oM⟩
   have ei : (d : Int) - 1 - t = (i : Int) := oM
   have ei2 : (d : Int) - 1 - ((t + 1 : Nat) : Int) = (i : Int) - 1 := oM
   have hid : i < d := oM
   have hI0 := mlI_0 (zS := zS) (zL := zL) hi
   have hId := mlI_d (zS := zS) (zL := zL) (d := d) t
   rw [ei] at b1 ⊢
   rw [hI0]
   refine goA ?_
   refine T.loop (fun N s1 => ∃ n : Nat, N = d - n ∧ i + 1 ≤ n ∧ n ≤ d ∧ s1 = mkS [(1, .v (iV q)), (5, .v (iV d)), (14, .own 200 d), (18, .v (iV i)), (19, .v (iV n))] [(200, .lst 2 33 (mlI zS zL d t n))] 164 true) (d - (i + 1))
    (s' := mkS [(1, .v (iV q)), (5, .v (iV d)), (14, .own 200 d), (18, .v (iV i)), (19, .v (iV ((i + 1 : Nat) : Int)))] [(200, .lst 2 33 (mlI zS zL d t (i + 1)))] 164 true) (by rw [show ((i + 1 : Nat) : Int) = (i : Int) + 1 by omega]; exact entA) ⟨i + 1, rfl, Nat.le_refl _, oM, rfl⟩ ?_
   rintro _ _ ⟨n, rfl, hn1, hn, rfl⟩
   by_cases hlj : n < d
   ·have b2 : decide ((n : Int) < d) = true := decide_eq_true oM
    have c1 := cat i n oM hlj
    have c2 := csc i n oM hlj
    have c3 := csu i n oM hlj
    have hl := mlI_len (zS := zS) (zL := zL) (d := d) t n
    have hg := mlI_at (zS := zS) (zL := zL) (n := n) hi
    have hg2 := mlI_done (zS := zS) (zL := zL) (d := d) (t := t) (n := n) (i := n) oM hlj
    have hs := mlI_set (zS := zS) (zL := zL) (n := n) hi
    have hti : ((i : Int)).toNat = i := oM
    have htn : ((n : Int)).toNat = n := oM
    obtain ⟨g, xs, g', xs', e⟩ := hag i n
    rw [e] at c1 c2
    refine goA ?_
    refine evG ggA (Zah (Zaa rfl) (Zag rfl) rfl rfl hl rfl oM oM) ?_
    rw [hti]
    refine evG ggA (Zan (Zaa rfl) (Zbc rfl) rfl rfl hl hg) ?_
    refine goA ?_
    refine clG c1 ?_
    refine evG ggA (Zah (Zaa rfl) (Zag rfl) rfl rfl hl rfl oM oM) ?_
    rw [htn]
    refine evG ggA (Zan (Zaa rfl) (Zbc rfl) rfl rfl hl hg2) ?_
    refine goA ?_
    refine clG c2 ?_
    refine evG ggA (Zah (Zaa rfl) (Zag rfl) rfl rfl hl rfl oM oM) ?_
    rw [hti]
    refine evG ggA (Zan (Zaa rfl) (Zbc rfl) rfl rfl hl hg) ?_
    refine goA ?_
    refine clG c3 ?_
    refine evG ggA (Zah (Zaa rfl) (Zag rfl) rfl rfl hl rfl oM oM) ?_
    rw [hti]
    refine evG ggA (Zbd (x := serA (zS i (n + 1)) (zL i (n + 1))) rfl (Zbp rfl) rfl rfl hl hid rfl rfl (fun l e => by cases e) rfl) ?_
    rw [hs]
    refine goA ?_
    exact Zab (k := d - (n + 1)) (s' := mkS [(1, .v (iV q)), (5, .v (iV d)), (14, .own 200 d), (18, .v (iV i)), (19, .v (iV ((n + 1 : Nat) : Int)))] [(200, .lst 2 33 (mlI zS zL d t (n + 1)))] 164 true) oM (by rw [show ((n + 1 : Nat) : Int) = (n : Int) + 1 by omega]; exact entA) ⟨n + 1, rfl, oM, oM, rfl⟩
   ·obtain rfl : n = d := oM
    have b2 : decide ((n : Int) < n) = false := decide_eq_false oM
    rw [hId]
    refine goA ?_
    exact Zab (k := n - (t + 1)) (s' := mkS [(1, .v (iV q)), (5, .v (iV n)), (14, .own 200 n), (18, .v (iV ((n : Int) - 1 - ((t + 1 : Nat) : Int))))] [(200, .lst 2 33 (mlO zS zL n (t + 1)))] 164 true) oM (by rw [ei2]; exact entA) ⟨t + 1, rfl, oM, rfl⟩
  ·obtain rfl : t = d := oM
   have b1 : decide ((t : Int) - 1 - t ≥ 0) = false := decide_eq_false oM
   refine goA ?_
   exact midE
 rw [mlC_0 (wS := wS) (wL := wL)]
 refine T.seqE (mkS [(14, .own 200 d)] [(200, .lst 2 33 (mlC zS zL wS wL d d))] 164 true) ?_ ?_
 ·have hl0 := mlC_len (zS := zS) (zL := zL) (wS := wS) (wL := wL) (d := d) 0
  refine T.seq ?_
  refine regA ?_
  refine runA ?_
  refine evG ggA (Zel (Zaa rfl) rfl (Za3 rfl) rfl rfl hl0) ?_
  refine runA ?_
  refine Zao ?_
  refine Za1 ?_
  refine T.block ?_
  refine T.loop (fun N s1 => ∃ i : Nat, N = d - i ∧ i ≤ d ∧ s1 = mkS [(1, .v (iV q)), (14, .own 200 d), (146, .v (iV d)), (147, .v (iV i))] [(200, .lst 2 33 (mlC zS zL wS wL d i))] 164 true) d
   (s' := mkS [(1, .v (iV q)), (14, .own 200 d), (146, .v (iV d)), (147, .v (iV ((0 : Nat) : Int)))] [(200, .lst 2 33 (mlC zS zL wS wL d 0))] 164 true) entA ⟨0, rfl, Nat.zero_le _, rfl⟩ ?_
  rintro _ _ ⟨i, rfl, hi, rfl⟩
  by_cases hlt : i < d
  ·have b1 : decide ((i : Int) < d) = true := decide_eq_true oM
   have c1 := cfin i hlt
   have hl := mlC_len (zS := zS) (zL := zL) (wS := wS) (wL := wL) (d := d) i
   have hg := mlC_at (zS := zS) (zL := zL) (wS := wS) (wL := wL) hlt
   have hs := mlC_set (zS := zS) (zL := zL) (wS := wS) (wL := wL) hlt
   have hti : ((i : Int)).toNat = i := oM
   refine goA ?_
   refine evG ggA (Zah (Zaa rfl) (Zag rfl) rfl rfl hl rfl oM oM) ?_
   rw [hti]
   refine evG ggA (Zan (Zaa rfl) (Zbc rfl) rfl rfl hl hg) ?_
   refine goA ?_
   refine clG c1 ?_
   refine evG ggA (Zah (Zaa rfl) (Zag rfl) rfl rfl hl rfl oM oM) ?_
   rw [hti]
   refine evG ggA (Zbd (x := serA (wS i) (wL i)) rfl (Zbp rfl) rfl rfl hl hlt rfl rfl (fun l e => by cases e) rfl) ?_
   rw [hs]
   refine goA ?_
   exact Zab (k := d - (i + 1)) (s' := mkS [(1, .v (iV q)), (14, .own 200 d), (146, .v (iV d)), (147, .v (iV ((i + 1 : Nat) : Int)))] [(200, .lst 2 33 (mlC zS zL wS wL d (i + 1)))] 164 true) oM (by rw [show ((i + 1 : Nat) : Int) = (i : Int) + 1 by omega]; exact entA) ⟨i + 1, rfl, oM, rfl⟩
  ·obtain rfl : i = d := oM
   have b1 : decide ((i : Int) < i) = false := decide_eq_false oM
   refine goA ?_
   exact midE
 have hx := mlC_len (zS := zS) (zL := zL) (wS := wS) (wL := wL) (d := d) d
 refine T.weak (s' := mkS [(14, .v (.sl (mlC zS zL wS wL d d)))] [] 164 true) entA ?_
 rw [mlC_d]
 refine goA ?_
 exact rfl
end Ab

namespace Ab
open Go Go.RowKit Go.Proofs Hp
set_option maxRecDepth 100000
def mkO (p b : Int) (f : Int → Rat) : Option (Int × List Rat) := nrm b (tk (fun i => f (b + i)) (p - b).toNat)
theorem mkO_out {p b : Int} {f : Int → Rat} {K : Nat} (h0 : -100 ≤ b) (h1 : b ≤ p) (h2 : p ≤ 1000) (hf : ∀ n, n < b → f n = 0) (hK : ∀ n, b ≤ n → n < p → Ht (f n) K) : Out (mkO p b f) p f b K := by
 have := nrm_out (s := b) (l := tk (fun i => f (b + i)) (p - b).toNat) (K := K) h0 (by rw [tk_len]; omega) (fun q hq => by
  obtain ⟨i, hi, rfl⟩ := Zfb hq
  exact hK _ oM oM)
 refine this.congr (by rw [tk_len]; omega) (fun n hn => ?_) (Int.le_refl _) (Nat.le_refl _)
 by_cases h : n < b
 ·rw [Zg1 h, hf n h]
 ·rw [cf_tk oM oM]
  congr 1
  omega
end Ab

namespace Ab
open Go Go.RowKit Go.Proofs Hp
set_option maxRecDepth 100000
end Ab

namespace Ab
open Go Go.RowKit Go.Proofs Hp
set_option maxRecDepth 100000
theorem cut_out {s p : Int} {l : List Rat} {P b : Int} {f : Int → Rat} {K : Nat} (h : Out (some (s, l)) P f b K) (h1 : p ≤ P) (h0 : -100 ≤ p) : Out (cutR s l p) p f (min b p) K := by
  obtain ⟨s', l', e, h2, h3, h4, h5, h6, h7, h8⟩ := h
  injection e with e
  injection e with e1 e2
  subst e1 e2
  unfold cutR
  rw [show Zap s l.length = true from Za2.2 ⟨h2, oM, oM⟩, decide_eq_true h0, if_pos (show (true && true) = true from rfl)]
  unfold cutS
  by_cases c1 : s + (l.length : Int) ≤ p
  · rw [if_pos c1]
    unfold tdy
    rw [h8, List.drop_zero]
    exact ⟨_, _, rfl, oM, oM, oM, oM, fun n hn => by rw [show s + ((0 : Nat) : Int) = s by omega]; exact h6 n oM, h7, h8⟩
  · rw [if_neg c1]
    by_cases c2 : p ≤ s
    · rw [if_pos c2]
      refine ⟨_, _, rfl, h0, by simp, oM, oM, fun n hn => ?_, fun q hq => (by cases hq), rfl⟩
      rw [Zg1 hn, ← h6 n oM, Zg1 oM]
    · rw [if_neg c2]
      have hl : lead (l.take (p - s).toNat) = 0 := by
        cases l with
        | nil => simp at c1; omega
        | cons q r =>
          obtain ⟨j, hj⟩ : ∃ j, (p - s).toNat = j + 1 := ⟨(p - s).toNat - 1, oM⟩
          rw [hj, List.take_succ_cons]
          unfold lead at h8 ⊢
          by_cases hq : q = 0
          · rw [if_pos hq] at h8; omega
          · rw [if_neg hq]
      unfold tdy
      rw [hl, List.drop_zero]
      refine ⟨_, _, rfl, oM, by rw [List.length_take]; omega, oM, oM, fun n hn => ?_, fun q hq => h7 q (List.mem_of_mem_take hq), hl⟩
      rw [show s + ((0 : Nat) : Int) = s by omega, ← h6 n oM]
      unfold cf
      by_cases c3 : n < s
      · rw [if_pos c3, if_pos c3]
      · rw [if_neg c3, if_neg c3, List.getD_eq_getElem?_getD, List.getD_eq_getElem?_getD, List.getElem?_take, if_pos oM]
theorem out_mkX {x : Option (Int × List Rat)} {p b b' : Int} {f : Int → Rat} {K : Nat} (h : Out x p f b K) (h0 : -100 ≤ b') (h1 : b' ≤ p) (hz : ∀ n, n < b' → f n = 0) : x = mkO p b' f := by
 obtain ⟨s, l, e1, e2, e3, e4, e5, e6, e7, e8⟩ := id h
 exact Out.eq h (mkO_out (K := K + 1) h0 h1 e4 hz fun n _ hp => by
  rw [← e6 n hp]
  exact ht_cf oM (fun q hq => (e7 q hq).mono oM) n)
end Ab

namespace Ab
open Go Go.RowKit Go.Proofs Hp
set_option maxRecDepth 100000
def mdm (k : Nat) : Nat := if k % 12 = 2 then k / 12 else k / 12 + 1
def mrr (k : Nat) : Nat := k - 12 * (mdm k - 1)
def ePL : Nat → List Rat
 | 0 => tk one' 12
 | e + 1 => tk (conv (ePL e) (eiL 4 12)) 12
theorem ePL_eq : ∀ e, ePL e = tk (pq (eiV 4) e) 12
  | 0 => rfl
  | e + 1 => by
    rw [ePL, ePL_eq e]
    exact Zc6 fun k hk => conv_tk hk hk
def fV (r : Nat) : Nat → Rat := if r = 0 then one' else eiV r
def xf (k i : Nat) : Nat → Nat → Rat
 | 0 => nc (pq (eiV 4) (3 * (mdm k - 1 - i))) (fV (mrr k))
 | j + 1 => nc (xf k i j) dV
def xL (k i : Nat) : Nat → List Rat
 | 0 => tk (conv (ePL (3 * (mdm k - 1 - i))) (tk (fV (mrr k)) 12)) 12
 | j + 1 => tk (conv (xL k i j) (dL.take 12)) 12
theorem xL_eq (k i : Nat) : ∀ j, xL k i j = tk (xf k i j) 12
  | 0 => by
    rw [xL, ePL_eq]
    exact Zc6 fun a ha => conv_tk ha ha
  | j + 1 => by
    rw [xL, xL_eq k i j, dV_tk dC]
    exact Zc6 fun a ha => conv_tk ha ha
def bl (k i : Nat) : List Rat := tk (fun a => if a < i then 0 else (xL k i i).getD (a - i) 0) 12
theorem bl_get {k i a : Nat} (ha : a < 12) : (bl k i).getD a 0 = if a < i then 0 else xf k i i (a - i) := by
 unfold bl
 rw [Zda ha]
 by_cases h : a < i
 ·rw [if_pos h, if_pos h]
 ·rw [if_neg h, if_neg h, xL_eq, Zda oM]
def sub1 (r : List Rat) (n : Nat) (F : List Rat) : List Rat := tk (fun a => r.getD a 0 - r.getD n 0 * F.getD a 0) 12
def elimR (r : List Rat) (n : Nat) : List (List Rat) → List Rat
 | [] => r
 | F :: R => elimR (sub1 r n F) (n + 1) R
theorem elimR_snoc : ∀ (A : List (List Rat)) (r : List Rat) (n : Nat) (F : List Rat), elimR r n (A ++ [F]) = sub1 (elimR r n A) (n + A.length) F
  | [], r, n, F => rfl
  | G :: A, r, n, F => by
    show elimR (sub1 r n G) (n + 1) (A ++ [F]) = sub1 (elimR (sub1 r n G) (n + 1) A) (n + (A.length + 1)) F
    rw [elimR_snoc A, show n + 1 + A.length = n + (A.length + 1) by omega]
def rowsF (k : Nat) : Nat → List (List Rat)
 | 0 => []
 | t + 1 => elimR (bl k (mdm k - 1 - t)) (mdm k - t) (rowsF k t) :: rowsF k t
theorem rowsF_len (k : Nat) : ∀ t, (rowsF k t).length = t
 | 0 => rfl
 | t + 1 => by rw [rowsF, List.length_cons, rowsF_len k t]
def zl (k i n : Nat) : List Rat := elimR (bl k i) (i + 1) ((rowsF k (mdm k - 1 - i)).take (n - (i + 1)))
theorem zl_0 (k i : Nat) : zl k i (i + 1) = bl k i := by
 unfold zl
 rw [Nat.sub_self, List.take_zero]
 rfl
theorem rowsF_at (k : Nat) : ∀ t m, t ≤ mdm k → m < t → (rowsF k t)[m]? = some (zl k (mdm k - t + m) (mdm k))
  | 0, m, _, h => oM
  | t + 1, 0, ht, _ => by
    show some (elimR (bl k (mdm k - 1 - t)) (mdm k - t) (rowsF k t)) = _
    unfold zl
    have e1 : mdm k - (t + 1) + 0 = mdm k - 1 - t := oM
    have e2 : mdm k - 1 - t + 1 = mdm k - t := oM
    have e3 : mdm k - 1 - (mdm k - 1 - t) = t := oM
    rw [e1, e2, e3, List.take_of_length_le (by rw [rowsF_len]; omega)]
  | t + 1, m + 1, ht, hm => by
    show (rowsF k t)[m]? = _
    rw [rowsF_at k t m oM oM]
    congr 2
    omega
theorem zl_s {k i n : Nat} (h1 : i < n) (h2 : n < mdm k) : zl k i (n + 1) = sub1 (zl k i n) n (zl k n (mdm k)) := by
 have hl := rowsF_len k (mdm k - 1 - i)
 have e : (rowsF k (mdm k - 1 - i)).take (n + 1 - (i + 1)) = (rowsF k (mdm k - 1 - i)).take (n - (i + 1)) ++ [zl k n (mdm k)] := by
  rw [show n + 1 - (i + 1) = n - (i + 1) + 1 by omega, List.take_add_one, rowsF_at k _ _ oM oM, show mdm k - (mdm k - 1 - i) + (n - (i + 1)) = n by omega]
  rfl
 unfold zl at e ⊢
 rw [e, elimR_snoc, List.length_take, hl, show i + 1 + min (n - (i + 1)) (mdm k - 1 - i) = n by omega]
def fI (l : List Rat) (a : Int) : Rat := if a < 0 then 0 else l.getD a.toNat 0
theorem fI_low {l : List Rat} {a : Int} (h : a < 0) : fI l a = 0 := by unfold fI; rw [if_pos h]
theorem fI_sub {r F : List Rat} {n : Nat} {a : Int} (h : a < 12) : fI (sub1 r n F) a = fI r a + ((-1 : Int) : Rat) * (fI r n * fI F a) := by
 unfold fI
 by_cases h0 : a < 0
 ·rw [if_pos h0, if_pos h0, if_pos h0, Rat.mul_zero, Rat.mul_zero, Rat.add_zero]
 ·rw [if_neg h0, if_neg h0, if_neg h0, if_neg oM]
  unfold sub1
  rw [Zda oM, show ((n : Nat) : Int).toNat = n by omega, neg1Q]
  grind
def ev20 : List Nat := (List.range 21).map (2 * ·)
def hbZ (k : Nat) : Bool := (List.range (mdm k)).all fun i => (List.range (mdm k + 1)).all fun n => decide (n ≤ i) || (zl k i n).all (htB 9)
theorem hbZ_all : (ev20.all hbZ) = true := by decide +kernel
theorem ev_mem {k : Nat} (h : k % 2 = 0) (h40 : k ≤ 40) : k ∈ ev20 := List.mem_map.2 ⟨k / 2, List.mem_range.2 oM, oM⟩
theorem zl_ht {k i n : Nat} (h : k % 2 = 0) (h40 : k ≤ 40) (hi : i < n) (hn : n ≤ mdm k) : ∀ q, q ∈ zl k i n → Ht q 9 := by
 have h1 := List.all_eq_true.1 hbZ_all k (ev_mem h h40)
 have h2 := List.all_eq_true.1 (List.all_eq_true.1 h1 i (List.mem_range.2 oM)) n (List.mem_range.2 oM)
 rw [Bool.or_eq_true, decide_eq_true_eq] at h2
 rcases h2 with h2 | h2
 ·omega
 ·exact Zc3 h2
theorem fI_ht {l : List Rat} {K : Nat} (hK : 1 ≤ K) (h : ∀ q, q ∈ l → Ht q K) (a : Int) : Ht (fI l a) K := by
 unfold fI
 split
 ·exact ht0 hK
 ·exact Zcl hK h _
theorem mdm_bd {k : Nat} (h : k ≤ 40) : mdm k ≤ 4 := by unfold mdm; split <;> omega
theorem mdm_rr {k : Nat} (h : k % 2 = 0) (h1 : 1 ≤ mdm k) : k = mrr k + 12 * (mdm k - 1) ∧ (mrr k = 0 ∨ mrr k = 4 ∨ mrr k = 6 ∨ mrr k = 8 ∨ mrr k = 10 ∨ mrr k = 14) := by
 unfold mrr
 unfold mdm at h1 ⊢
 split at h1 <;> rename_i h2
 ·rw [if_pos h2]; omega
 ·rw [if_neg h2]; omega
def zO (k p i n : Nat) : Option (Int × List Rat) := mkO p 0 (fI (zl k i n))
theorem zO_out {k p i n : Nat} (h : k % 2 = 0) (h40 : k ≤ 40) (hi : i < n) (hn : n ≤ mdm k) (hp : p ≤ 12) : Out (zO k p i n) p (fI (zl k i n)) 0 9 :=
 mkO_out dC oM oM (fun a ha => fI_low ha) fun a _ _ => fI_ht dC (zl_ht h h40 hi hn) a
end Ab

namespace Ab
open Go Go.RowKit Go.Proofs Hp
set_option maxRecDepth 100000
theorem serE_ok {x : Option (Int × List Rat)} {p b : Int} {f : Int → Rat} {K : Nat} (h : Out x p f b K) : serE x = .tup [serA (sF x) ((sL x).map encQ), iV 0] := by
 obtain ⟨s, l, rfl, -⟩ := h
 rfl
theorem Out.parts {x : Option (Int × List Rat)} {p b : Int} {f : Int → Rat} {K : Nat} (h : Out x p f b K) : -100 ≤ sF x ∧ sF x + (sL x).length = p ∧ p ≤ 1000 ∧ b ≤ sF x ∧ (∀ n, n < p → cf (sF x) (sL x) n = f n) ∧ (∀ q, q ∈ sL x → Ht q K) ∧ lead (sL x) = 0 ∧ x = some (sF x, sL x) := by
 obtain ⟨s, l, rfl, h2, h3, h4, h5, h6, h7, h8⟩ := h
 exact ⟨h2, h3, h4, h5, h6, h7, h8, rfl⟩
theorem Out.vin {x : Option (Int × List Rat)} {p b : Int} {f : Int → Rat} {K : Nat} (h : Out x p f b K) : Zap (sF x) (sL x).length = true ∧ InR (sF x) ((sL x).map encQ).length := by
 obtain ⟨h1, h2, h3, -⟩ := h.parts
 exact ⟨Za2.2 ⟨h1, oM, oM⟩, ⟨oM, oM, by simp; omega⟩⟩
theorem Out.both {x y : Option (Int × List Rat)} {p b p' b' : Int} {f f' : Int → Rat} {K K1 K2 : Nat} (h : Out x p f b K1) (h' : Out y p' f' b' K2) (k1 : K1 ≤ K) (k2 : K2 ≤ K) : Both (sF x) ((sL x).map encQ) (sF y) ((sL y).map encQ) K (sL x) (sL y) :=
 ⟨fun _ _ => ⟨Zbb fun q hq => (h.parts.2.2.2.2.2.1 q hq).mono k1, Zbb fun q hq => (h'.parts.2.2.2.2.2.1 q hq).mono k2⟩, by simp, by simp, h.vin.2, h'.vin.2⟩
theorem mulTK {s t : Int} {f g : Nat → Rat} {n m : Nat} (hf0 : f 0 ≠ 0) (hg0 : g 0 ≠ 0) (hf : ∀ i, i < n → Ht (f i) 9) (hg : ∀ i, i < m → Ht (g i) 9) (s0 : 0 ≤ s) (s1 : s ≤ 20) (t0 : 0 ≤ t) (t1 : t ≤ 20) (hn : n ≤ 50) (hm : m ≤ 50) :
  PC Tryz.prog 51 [serA s ((tk f n).map encQ), serA t ((tk g m).map encQ)] (.tup [serA (s + t) ((tk (nc f g) (min n m)).map encQ), iV 0]) := by
 have c := mul_g (s := s) (es := (tk f n).map encQ) (t := t) (fs := (tk g m).map encQ) (l := tk f n) (m := tk g m) (K := 9) (M := 100)
  ⟨fun _ _ => ⟨Zbb (Ze1 hf), Zbb (Ze1 hg)⟩, by simp, by simp, Zgx oM oM oM, Zgx oM oM oM⟩ dC dC dC (fun _ => by rw [List.length_map, tk_len]; omega)
 rw [mulR_tk hf0 hg0 oM oM oM oM oM oM] at c
 exact c
theorem ePL_hb : ((List.range 10).all fun e => (ePL e).all (htB 9)) = true := by decide +kernel
theorem e4_h {e i : Nat} (he : e < 10) (hi : i < 12) : Ht (pq (eiV 4) e i) 9 := by
 have h := List.all_eq_true.1 ePL_hb e (List.mem_range.2 he)
 rw [ePL_eq] at h
 exact Zc3 h _ (List.mem_map.2 ⟨i, List.mem_range.2 hi, rfl⟩)
theorem fV_h {r i : Nat} (hr : r = 0 ∨ wOK r = true) (hi : i < 12) : Ht (fV r i) 9 := by
 unfold fV
 by_cases h : r = 0
 ·rw [if_pos h]
  unfold one'
  split
  ·exact ⟨dC, dC⟩
  ·exact ht0 dC
 ·rw [if_neg h]
  rcases hr with hr | hr
  ·exact absurd hr h
  ·exact (ei_ht hr oM).1.mono dC
theorem fV_ne {r : Nat} (hr : r = 0 ∨ wOK r = true) : fV r 0 ≠ 0 := by
 unfold fV
 by_cases h : r = 0
 ·rw [if_pos h]; unfold one'; decide
 ·rw [if_neg h]
  rcases hr with hr | hr
  ·exact absurd hr h
  ·exact Zf4 hr
def hbX (k : Nat) : Bool := (List.range (mdm k)).all fun i => (List.range (i + 1)).all fun j => (xL k i j).all (htB 9)
theorem hbX_all : (ev20.all hbX) = true := by decide +kernel
theorem xf_h {k i j a : Nat} (h : k % 2 = 0) (h40 : k ≤ 40) (hi : i < mdm k) (hj : j ≤ i) (ha : a < 12) : Ht (xf k i j a) 9 := by
 have h1 := List.all_eq_true.1 hbX_all k (ev_mem h h40)
 have h2 := List.all_eq_true.1 (List.all_eq_true.1 h1 i (List.mem_range.2 hi)) j (List.mem_range.2 oM)
 rw [xL_eq] at h2
 exact Zc3 h2 _ (List.mem_map.2 ⟨a, List.mem_range.2 ha, rfl⟩)
theorem mrr_ok {k : Nat} (h : k % 2 = 0) (h1 : 1 ≤ mdm k) : mrr k = 0 ∨ wOK (mrr k) = true := by
 rcases (mdm_rr h h1).2 with e | e | e | e | e | e
 ·exact .inl e
 all_goals (rw [e]; exact .inr rfl)
theorem xf_ne {k i : Nat} (hr : mrr k = 0 ∨ wOK (mrr k) = true) : ∀ j, xf k i j 0 ≠ 0
  | 0 => by
    show nc _ _ 0 ≠ 0
    rw [nc_0]
    exact mul_ne (pq_ne (Zf4 rfl) _) (fV_ne hr)
  | j + 1 => by
    show nc _ _ 0 ≠ 0
    rw [nc_0]
    exact mul_ne (xf_ne hr j) dV_ne
def tO (k p i n : Nat) : Option (Int × List Rat) := sclR (fI (zl k i n) n) (sF (zO k p n (mdm k))) (sL (zO k p n (mdm k)))
def wO (k p q a : Nat) : Option (Int × List Rat) := cutR (sF (zO k p a (mdm k))) (sL (zO k p a (mdm k))) q
theorem zO_first {k p i : Nat} (h : k % 2 = 0) (h40 : k ≤ 40) (hi : i < mdm k) (hp : mdm k ≤ p) (hp12 : p ≤ 12) : zO k p i (i + 1) = some ((i : Int), tk (xf k i i) (p - i)) := by
 have o : Out (some ((i : Int), tk (xf k i i) (p - i))) p (fI (zl k i (i + 1))) i 9 := by
  refine ⟨_, _, rfl, oM, by rw [tk_len]; omega, oM, Int.le_refl _, fun a ha => ?_, Ze1 fun a ha => xf_h h h40 hi (Nat.le_refl _) oM, Zeh (xf_ne (mrr_ok h oM) i)⟩
  rw [zl_0]
  unfold fI
  by_cases h0 : a < 0
  ·rw [if_pos h0, Zg1 oM]
  ·rw [if_neg h0, bl_get oM]
   by_cases h1 : a.toNat < i
   ·rw [if_pos h1, Zg1 oM]
   ·rw [if_neg h1, cf_tk oM oM]
    congr 1
    omega
 exact (out_mkX o dC oM fun a ha => fI_low ha).symm
theorem dimV_mdm {k : Nat} (h : k % 2 = 0) : dimV (k : Int) = (mdm k : Int) := by
 have e1 : (k : Int).tmod 2 = ((k % 2 : Nat) : Int) := rfl
 have e2 : (k : Int).tmod 12 = ((k % 12 : Nat) : Int) := rfl
 have e3 : (k : Int).tdiv 12 = ((k / 12 : Nat) : Int) := rfl
 unfold dimV mdm
 rw [e1, e2, e3, h, decide_eq_false (show ¬ (k : Int) < 0 by omega), if_neg dC]
 by_cases e : k % 12 = 2
 ·rw [e, if_pos dC, if_pos rfl]
 ·have e4 : (((k % 12 : Nat) : Int) == 2) = false := by rw [beq_eq_false_iff_ne]; omega
  rw [e4, if_neg dC, if_neg e]
  omega
set_option maxHeartbeats 4000000 in
theorem millerP {k q p : Nat} (h : k % 2 = 0) (h40 : k ≤ 40) (hd : 1 ≤ mdm k) (hp : p = max q (mdm k)) (hq : q ≤ 12) :
    PC Tryz.prog 32 [iV k, iV q] (.sl ((List.range (mdm k)).map fun (a : Nat) => serA (sF (wO k p q a)) ((sL (wO k p q a)).map encQ))) := by
  have hd4 := mdm_bd h40
  have hr := mrr_ok h hd
  obtain ⟨hk, hrr⟩ := mdm_rr h hd
  have hp1 : 1 ≤ p ∧ p ≤ 12 ∧ mdm k ≤ p ∧ q ≤ p := oM
  have cdim : PC Tryz.prog 37 [iV k] (iV (mdm k)) := by
    have c := dim_p (k := (k : Int)) oM oM
    have e := dimV_mdm h
    rw [e] at c
    exact c
  have h1 : Ht (1 : Rat) 9 := ⟨dC, dC⟩
  have hOf : PC Tryz.prog 48 [iV 1] (encQ 1) := Zdh 1 dC dC
  have hMon := monomial_p (a := encQ 1) (c := 1) (K := 9) (n := 0) (p := p) (Zad h1) dC
  have e1 : monR 1 0 (p : Int) = some (0, tk one' p) := by
    unfold monR
    have e : MV 0 (p : Int) = true := by unfold MV; simp; omega
    have e2 : (1 : Rat) :: List.replicate (((p : Int) - 0).toNat - 1) 0 = tk one' p := by
      rw [show ((p : Int) - 0).toNat - 1 = p - 1 by omega]
      apply List.ext_getElem?
      intro i
      unfold tk
      rw [List.getElem?_map]
      cases i with
      | zero =>
        rw [List.getElem?_range oM]
        rfl
      | succ i =>
        rw [List.getElem?_cons_succ, List.getElem?_replicate]
        by_cases hi : i + 1 < p
        · rw [List.getElem?_range hi, if_pos oM]
          show some (0 : Rat) = some (one' (i + 1))
          unfold one'
          rw [if_neg oM]
        · rw [if_neg oM, List.getElem?_eq_none (by simp; omega)]
          rfl
    rw [if_pos e, if_neg oM, e2]
    exact nrm_tk (f := one') (by unfold one'; decide) dC oM
  rw [e1] at hMon
  have cdel : PC Tryz.prog 27 [iV p] (.tup [serA 1 ((tk dV (p - 1)).map encQ), iV 0]) := by
    have c := delta_p (p := (p : Int)) oM
    rcases Nat.lt_or_ge p 2 with h2 | h2
    · obtain rfl : p = 1 := oM
      exact c
    · obtain ⟨m, rfl⟩ : ∃ m, p = m + 2 := ⟨p - 2, oM⟩
      rw [show ((m + 2 : Nat) : Int) = (m : Int) + 2 by omega, delT_ok oM] at c
      exact c
  have oZ := fun i n (hi : i < n) (hn : n ≤ mdm k) => zO_out (p := p) h h40 hi hn hp1.2.1
  have oT : ∀ i n, i < n → n < mdm k → Out (tO k p i n) p (fun a => fI (zl k i n) n * fI (zl k n (mdm k)) a) (sF (zO k p n (mdm k))) 18 := fun i n hi hn =>
    (scl_out (c := fI (zl k i n) n) (s := sF (zO k p n (mdm k))) (l := sL (zO k p n (mdm k))) (k := 9) (K := 9) (oZ n (mdm k) hn (Nat.le_refl _)).vin.1 (fI_ht dC (zl_ht h h40 hi oM) _) dC dC (oZ n (mdm k) hn (Nat.le_refl _)).parts.2.2.2.2.2.1).congr (oZ n (mdm k) hn (Nat.le_refl _)).parts.2.1 (fun a ha => by rw [(oZ n (mdm k) hn (Nat.le_refl _)).parts.2.2.2.2.1 a ha]) (Int.le_refl _) dC
  have oW := fun i (hi : i < mdm k) => cut_out (s := sF (zO k p i (mdm k))) (l := sL (zO k p i (mdm k))) (p := q) (by have := oZ i (mdm k) hi (Nat.le_refl _); rwa [this.parts.2.2.2.2.2.2.2] at this) oM oM
  obtain ⟨g, xs, g', xs', ea⟩ := Zax (Zad h1)
  rw [ea] at hOf hMon
  refine miller_gen (k := k) (p := p) (q := q) (d := mdm k) (r := (mrr k : Int)) ⟨hd, hd4⟩ h40 oM oM oM oM (O := (tk (fV (mrr k)) p).map encQ) (O1 := (tk one' p).map encQ) (E := (eiL 4 p).map encQ) (D := (tk dV (p - 1)).map encQ) (P := fun i => (tk (pq (eiV 4) (3 * (mdm k - 1 - i))) p).map encQ)
    (xS := fun i j => (j : Int)) (xL := fun i j => (tk (xf k i j) (if j = 0 then p else p - 1)).map encQ) (zS := fun i n => sF (zO k p i n)) (zL := fun i n => (sL (zO k p i n)).map encQ) (sS := fun i n => sF (tO k p i n)) (sL := fun i n => (sL (tO k p i n)).map encQ) (wS := fun a => sF (wO k p q a)) (wL := fun a => (sL (wO k p q a)).map encQ) (c := fun i n => fI (zl k i n) n)
    cdim hOf hMon (fun h0 => ?_) (fun h0 => ?_) (enorm_p bq_ok rfl oM) cdel (fun i hi => ?_) (fun i hi => ?_) (fun i hi j hj => ?_) (fun i hi => ?_) (fun i n => by unfold encQ ci; exact ⟨_, _, _, _, rfl⟩) (fun i n h1 h2 => ?_) (fun i n h1 h2 => ?_) (fun i n h1 h2 => ?_) (fun i hi => ?_)
  · have hw : wOK (mrr k) = true := by
      rcases hr with e | e
      · omega
      · exact e
    have c := enorm_p bq_ok (k := mrr k) (p := p) hw oM
    have e : fV (mrr k) = eiV (mrr k) := by unfold fV; rw [if_neg oM]
    rw [e]
    exact c
  · have e : fV (mrr k) = one' := by unfold fV; rw [if_pos oM]
    rw [e]
  · have c := e4pow_p (e := 3 * (mdm k - 1 - i)) (p := p) oM hp1.1 oM
    rw [show ((3 * (mdm k - 1 - i) : Nat) : Int) = 3 * ((mdm k : Int) - 1 - i) by omega] at c
    exact c
  · have c := mulTK (s := 0) (t := 0) (f := pq (eiV 4) (3 * (mdm k - 1 - i))) (g := fV (mrr k)) (n := p) (m := p) (pq_ne (Zf4 rfl) _) (fV_ne hr) (fun a ha => e4_h oM oM) (fun a ha => fV_h hr oM) dC dC dC dC oM oM
    rw [Nat.min_self] at c
    exact c
  · have c := mulTK (s := (j : Int)) (t := 1) (f := xf k i j) (g := dV) (n := if j = 0 then p else p - 1) (m := p - 1) (xf_ne hr j) dV_ne (fun a ha => xf_h h h40 hi oM (by split at ha <;> omega)) (fun a ha => (dV_ht a).mono dC) oM oM dC dC (by split <;> omega) oM
    rw [show min (if j = 0 then p else p - 1) (p - 1) = (if j + 1 = 0 then p else p - 1) by rw [if_neg (show ¬ j + 1 = 0 by omega)]; split <;> omega] at c
    exact c
  · have c := scutx_p (s := (i : Int)) (p := (p : Int)) (es := (tk (xf k i i) (if i = 0 then p else p - 1)).map encQ) (l := tk (xf k i i) (if i = 0 then p else p - 1)) (K := 9) (fun _ => Zbb (Ze1 fun a ha => xf_h h h40 hi (Nat.le_refl _) (by split at ha <;> omega))) (by simp) (Zgx oM oM (by split <;> omega)) dC oM oM
    rw [cutR_tk (xf_ne hr i) oM (by split <;> omega) oM, show min (if i = 0 then p else p - 1) ((p : Int) - i).toNat = p - i by split <;> omega] at c
    rw [zO_first h h40 hi hp1.2.2.1 hp1.2.1]
    exact c
  · obtain ⟨f2, f3, f4, f5, f6, f7, f8, f9⟩ := (oZ i n h1 oM).parts
    have c := seriesAt_p (s := sF (zO k p i n)) (n := (n : Int)) (Zbb f7) dC (by rw [List.length_map]; exact (oZ i n h1 oM).vin.1) oM (by rw [List.length_map]; omega)
    rw [f6 _ oM] at c
    exact c
  · obtain ⟨f2, f3, f4, f5, f6, f7, f8, f9⟩ := (oZ n (mdm k) h2 (Nat.le_refl _)).parts
    have c := scale_p (a := encQ (fI (zl k i n) n)) (c := fI (zl k i n) n) (k := 9) (s := sF (zO k p n (mdm k))) (es := (sL (zO k p n (mdm k))).map encQ) (l := sL (zO k p n (mdm k))) (K := 9) (Zad (fI_ht dC (zl_ht h h40 h1 oM) _)) (fun _ => Zbb f7) (by simp) (oZ n (mdm k) h2 (Nat.le_refl _)).vin.2 dC dC dC
    have e := serE_ok (oT i n h1 h2)
    unfold tO at e ⊢
    rw [e] at c
    exact c
  · have c := ssub_p ((oZ i n h1 oM).both (oT i n h1 h2) (K := 18) dC (Nat.le_refl _)) dC
    obtain ⟨f2, f3, f4, f5, f6, f7, f8, f9⟩ := (oZ i n h1 oM).parts
    obtain ⟨g2, g3, g4, g5, g6, g7, g8, g9⟩ := (oT i n h1 h2).parts
    obtain ⟨m2, m3, m4, m5, m6, m7, m8, m9⟩ := (oZ n (mdm k) h2 (Nat.le_refl _)).parts
    have o3 := comb_out (c := -1) (K := 18) (oZ i n h1 oM).vin.1 (oT i n h1 h2).vin.1 dC dC (fun q hq => (f7 q hq).mono dC) g7
    have e : Zgf (sF (zO k p i n)) (sL (zO k p i n)) (sF (tO k p i n)) (sL (tO k p i n)) (-1) = zO k p i (n + 1) := by
      refine out_mkX (o3.congr (p' := (p : Int)) (f' := fI (zl k i (n + 1))) (b' := min (sF (zO k p i n)) (sF (tO k p i n))) (K' := 2 * 18 + 2) ?_ (fun a ha => ?_) (Int.le_refl _) (Nat.le_refl _)) dC oM (fun a ha => fI_low ha)
      · omega
      · rw [zl_s h1 h2, fI_sub oM, f6 a ha, g6 a ha]
    rw [e, serE_ok (oZ i (n + 1) oM oM)] at c
    exact c
  · obtain ⟨f2, f3, f4, f5, f6, f7, f8, f9⟩ := (oZ i (mdm k) hi (Nat.le_refl _)).parts
    have c := scutx_p (s := sF (zO k p i (mdm k))) (p := (q : Int)) (es := (sL (zO k p i (mdm k))).map encQ) (l := sL (zO k p i (mdm k))) (K := 9) (fun _ => Zbb f7) (by simp) (oZ i (mdm k) hi (Nat.le_refl _)).vin.2 dC oM oM
    rw [serE_ok (oW i hi)] at c
    exact c
end Ab
