/- A list of fractions less a multiple of another one, in place: the program's clear, walked. The coefficients of a series as a list; coordinates with respect to an echelon form: walked. Echelon forms of rows: the program's walk. Coordinates with respect to an echelon form: the program's walk. The program's Fit: its walk. Fitting the expansion of a polynomial of one weight: the contract of Fit there. Depths and weights. The statement QuasimodularReturns: its walk. -/
import Derived.Test.YtmohfcpjgcgogaaGreatDoorSerC
import Derived.Test.YtmohfcpjgcgogaaGreatDoorQB
import Derived.Test.YtmohfcpjgcgogaaGreatDoorSHK
import Derived.Test.YtmohfcpjgcgogaaGreatDoorReJ
import Derived.Test.YtmohfcpjgcgogaaGreatDoorDrL
import Derived.Test.YtmohfcpjgcgogaaGreatDoorQD
import Derived.Test.YtmohfcpjgcgogaaGreatDoorCmJ
import Derived.Test.YtmohfcpjgcgogaaGreatDoorQA2
set_option linter.all false
namespace Ab
open Go Go.RowKit Go.Proofs Hp
set_option maxRecDepth 100000
abbrev RL (es : List AV) : List (Nat × Blk) := [(0, .lst 4 49 es)]
def clA (c : Rat) (es : List AV) (a b : List Rat) : Nat → List AV
 | 0 => es
 | i + 1 => if b.getD i 0 = 0 then clA c es a b i else (clA c es a b i).set i (encQ (a.getD i 0 - c * b.getD i 0))
theorem clA_len (c : Rat) (es : List AV) (a b : List Rat) : ∀ i, (clA c es a b i).length = es.length
 | 0 => rfl
 | i + 1 => by rw [clA]; split <;> simp [clA_len c es a b i]
theorem clA_at (c : Rat) (es : List AV) (a b : List Rat) : ∀ i j, i ≤ j → (clA c es a b i)[j]? = es[j]?
  | 0, j, _ => rfl
  | i + 1, j, h => by
    rw [clA]
    split
    · exact clA_at c es a b i j (by omega)
    · rw [List.getElem?_set_ne (by omega)]
      exact clA_at c es a b i j (by omega)
set_option maxHeartbeats 4000000 in
theorem clear_p {es bs : List AV} {a b : List Rat} {x : AV} {c : Rat} {K n : Nat} (he : IsL es K a) (hb : IsL bs K b) (hx : IsV x K c) (hn : es.length = n) (hbn : bs.length = n) (hK : 1 ≤ K ∧ K ≤ 100000000) (hn2 : n ≤ 1000000) :
  PCM true Tryz.prog 58 [.own 0 n, .v (.sl bs), .v x] (RL es) true (.v (.tup [])) (RL (clA c es a b n)) := by
 obtain ⟨xg, xd, xg', xd', rfl⟩ := Zbi hx
 have hlen : ∀ i, (clA c es a b i).length = n := fun i => by rw [clA_len, hn]
 refine Zbp Tryz.func58 rfl rfl rfl (Nat.le_of_ble_eq_true rfl) ?_
 refine goA ?_
 refine evG ggA (Zbf (Zaa rfl) rfl (Za4 rfl) rfl rfl hn) ?_
 refine goA ?_
 refine T.loop (fun N s1 => ∃ i : Nat, N = n - i ∧ i ≤ n ∧ s1 = mkP [(0, .own 0 n), (1, .v (.sl bs)), (5, .ptr 5 0), (8, .v (iV n)), (9, .v (iV i))] [(0, .lst 4 49 (clA c es a b i)), (5, .var [.v (.p (.bool xg)), .v (.sl xd), .v (.p (.bool xg')), .v (.sl xd')])] 33 true [0]) n
  (s' := mkP [(0, .own 0 n), (1, .v (.sl bs)), (5, .ptr 5 0), (8, .v (iV n)), (9, .v (iV ((0 : Nat) : Int)))] [(0, .lst 4 49 (clA c es a b 0)), (5, .var [.v (.p (.bool xg)), .v (.sl xd), .v (.p (.bool xg')), .v (.sl xd')])] 33 true [0]) (by exact Za5) ⟨0, rfl, Nat.zero_le _, rfl⟩ ?_
 rintro _ _ ⟨i, rfl, hi, rfl⟩
 have hli := hlen i
 by_cases hlt : i < n
 ·have d1 : decide ((i : Int) < (n : Int)) = true := decide_eq_true (by omega)
  have hbl := hb.get
  have hal := he.get
  have ei : ((i : Nat) : Int).toNat = i := by omega
  obtain ⟨be, hbe, hbv⟩ := hbl.2 i (b.getD i 0) (by rw [List.getD_eq_getElem?_getD, List.getElem?_eq_getElem (by omega)]; rfl)
  obtain ⟨ae, hae, hav⟩ := hal.2 i (a.getD i 0) (by rw [List.getD_eq_getElem?_getD, List.getElem?_eq_getElem (by omega)]; rfl)
  obtain ⟨sg, s0, s1, s2, cs⟩ := Zd4 hbv (by omega)
  have cM := Zeg hx (by omega) hbv (by omega)
  have cS := rsub_p hav (by omega) (Zap (Zc1 (Zem hx hK.1) (Zem hbv hK.1) hK.1)) (by omega)
  have hgi := clA_at c es a b i i (Nat.le_refl _)
  rw [hae] at hgi
  have hnext : ∃ i' : Nat, n - (i + 1) = n - i' ∧ i' ≤ n ∧ mkP [(0, .own 0 n), (1, .v (.sl bs)), (5, .ptr 5 0), (8, .v (iV n)), (9, .v (iV ((i : Int) + 1)))] [(0, .lst 4 49 (clA c es a b (i + 1))), (5, .var [.v (.p (.bool xg)), .v (.sl xd), .v (.p (.bool xg')), .v (.sl xd')])] 33 true [0] = mkP [(0, .own 0 n), (1, .v (.sl bs)), (5, .ptr 5 0), (8, .v (iV n)), (9, .v (iV i'))] [(0, .lst 4 49 (clA c es a b i')), (5, .var [.v (.p (.bool xg)), .v (.sl xd), .v (.p (.bool xg')), .v (.sl xd')])] 33 true [0] := ⟨i + 1, rfl, hlt, rfl⟩
  by_cases hz : b.getD i 0 = 0
  ·have d2 : (sg != 0) = false := by simp [s2.2 hz]
   have e1 : clA c es a b (i + 1) = clA c es a b i := by rw [clA, if_pos hz]
   rw [e1] at hnext
   generalize clA c es a b i = Q at *
   obtain ⟨bg, bd, bg', bd', rfl⟩ := Zbi hbv
   rw [← ei] at hbe
   clear hgi
   refine goA ?_
   refine evG ggA (Zad (Zaa rfl) (Zac rfl) rfl rfl (by omega) hbe rfl) ?_
   refine goA ?_
   refine evG ggA (Zab (Zaa rfl) rfl rfl cs) ?_
   refine goA ?_
   exact Zae (k := n - (i + 1)) (s' := mkP [(0, .own 0 n), (1, .v (.sl bs)), (5, .ptr 5 0), (8, .v (iV n)), (9, .v (iV ((i : Int) + 1)))] [(0, .lst 4 49 Q), (5, .var [.v (.p (.bool xg)), .v (.sl xd), .v (.p (.bool xg')), .v (.sl xd')])] 33 true [0]) (by omega) (by exact Za5) hnext
  ·have d2 : (sg != 0) = true := by simp; intro h; exact hz (s2.1 h)
   have e1 : clA c es a b (i + 1) = (clA c es a b i).set i (encQ (a.getD i 0 - c * b.getD i 0)) := by rw [clA, if_neg hz]
   rw [e1] at hnext
   generalize clA c es a b i = Q at *
   obtain ⟨bg, bd, bg', bd', rfl⟩ := Zbi hbv
   obtain ⟨ag, ad, ag', ad', rfl⟩ := Zbi hav
   have hbe' := hbe
   rw [← ei] at hbe'
   generalize c * b.getD i 0 = y at *
   generalize a.getD i 0 - y = z at *
   refine goA ?_
   refine evG ggA (Zad (Zaa rfl) (Zac rfl) rfl rfl (by omega) hbe' rfl) ?_
   refine goA ?_
   refine evG ggA (Zab (Zaa rfl) rfl rfl cs) ?_
   refine goA ?_
   refine evG ggA (Zaf (Zaa rfl) (Zac rfl) rfl rfl hli rfl (by omega) (by omega)) ?_
   rw [ei]
   refine evG ggA (Zah (Zaa rfl) (Zau rfl) rfl rfl hli hgi) ?_
   refine goA ?_
   refine evG ggA (Zad (Zaa rfl) (Zac rfl) rfl rfl (by omega) hbe' rfl) ?_
   refine goA ?_
   refine evG ggA (Zab (Zaa rfl) rfl rfl cM) ?_
   refine goA ?_
   refine evG ggA (Zab (Zaa rfl) rfl rfl cS) ?_
   refine goA ?_
   refine evG ggA (Zaf (Zaa rfl) (Zac rfl) rfl rfl hli rfl (by omega) (by omega)) ?_
   rw [ei]
   refine evG ggA (Za8 rfl (Zbj rfl) rfl rfl hli hlt rfl rfl (fun l h => by cases h) rfl) ?_
   refine goA ?_
   exact Zae (k := n - (i + 1)) (s' := mkP [(0, .own 0 n), (1, .v (.sl bs)), (5, .ptr 5 0), (8, .v (iV n)), (9, .v (iV ((i : Int) + 1)))] [(0, .lst 4 49 (Q.set i (encQ z))), (5, .var [.v (.p (.bool xg)), .v (.sl xd), .v (.p (.bool xg')), .v (.sl xd')])] 33 true [0]) (by omega) (by exact Za5) hnext
 ·obtain rfl : i = n := by omega
  have d1 : decide ((i : Int) < (i : Int)) = false := decide_eq_false (by omega)
  refine goA ?_
  exact ⟨.inl rfl, by exact Za5⟩
end Ab
namespace Ab
open Go Go.RowKit Go.Proofs Hp
set_option maxRecDepth 100000
def filA (V : Nat → AV) (n i : Nat) : List AV := (List.range n).map fun j => if j < i then V j else rz
theorem filA_len (V : Nat → AV) (n i : Nat) : (filA V n i).length = n := by unfold filA; simp
theorem filA_0 (V : Nat → AV) (n : Nat) : filA V n 0 = List.replicate n rz := by
 unfold filA
 exact List.eq_replicate_iff.2 ⟨by simp, fun b hb => by
  obtain ⟨j, -, rfl⟩ := List.mem_map.1 hb
  rfl⟩
theorem filA_n (V : Nat → AV) (n : Nat) : filA V n n = (List.range n).map V := by
 unfold filA
 exact List.map_congr_left fun j hj => if_pos (List.mem_range.1 hj)
theorem filA_set (V : Nat → AV) (n i : Nat) : (filA V n i).set i (V i) = filA V n (i + 1) := by
 refine List.ext_getElem? fun j => ?_
 unfold filA
 by_cases hj : j < n
 ·by_cases e : i = j
  ·subst e
   rw [List.getElem?_set_self (by simpa using hj), List.getElem?_map, List.getElem?_range hj]
   show some (V i) = some (if i < i + 1 then V i else rz)
   rw [if_pos (by omega)]
  ·rw [List.getElem?_set_ne e, List.getElem?_map, List.getElem?_map, List.getElem?_range hj]
   show some (if j < i then V j else rz) = some (if j < i + 1 then V j else rz)
   by_cases h : j < i
   ·rw [if_pos h, if_pos (by omega)]
   ·rw [if_neg h, if_neg (by omega)]
 ·rw [List.getElem?_eq_none (by simp; omega), List.getElem?_eq_none (by simp; omega)]
set_option maxHeartbeats 4000000 in
theorem list_p {s : Int} {es : List AV} {l : List Rat} {K n : Nat} (h : IsL es K l) (hK : 1 ≤ K ∧ K ≤ 268435456) (hv : Zav s es.length = true) (hn : (n : Int) ≤ s + es.length) (hn2 : n ≤ 1000) : PC Tryz.prog 26 [serA s es, iV n] (.sl ((List.range n).map fun (i : Nat) => encQ (cf s l (i : Int)))) := by
 obtain ⟨V, hV⟩ : ∃ V : Nat → AV, V = fun (i : Nat) => encQ (cf s l (i : Int)) := ⟨_, rfl⟩
 have ha : ∀ i : Nat, i < n → PC Tryz.prog 56 [serA s es, iV i] (.tup [encQ (cf s l i), iV 0]) := fun i hi => seriesAt_p h hK hv (by omega) (by omega)
 rw [← hV, ← filA_n]
 refine Zam true Tryz.func26 rfl rfl rfl (Nat.le_of_ble_eq_true rfl) Zao.tmp ?_
 refine goA ?_
 refine evG ggA (Zeq 30 (e0 := rz) (Zaa rfl) (Zak rfl) rfl rfl rfl (by omega) (by omega) (by omega) (by omega) rfl rfl rfl) ?_
 rw [show ((n : Nat) : Int).toNat = n by omega, ← filA_0 V n]
 have hl0 := filA_len V n 0
 refine goA ?_
 refine evG ggA (Zbf (Zaa rfl) rfl (Za4 rfl) rfl rfl hl0) ?_
 refine goA ?_
 refine T.loop (fun N s1 => ∃ i : Nat, N = n - i ∧ i ≤ n ∧ s1 = mkS [(2, .ptr 2 0), (5, .own 30 n), (10, .v (iV n)), (11, .v (iV i))] [(2, .var [.v (iV s), .v (.sl es)]), (30, .lst 4 49 (filA V n i))] 25 true) n
  (s' := mkS [(2, .ptr 2 0), (5, .own 30 n), (10, .v (iV n)), (11, .v (iV ((0 : Nat) : Int)))] [(2, .var [.v (iV s), .v (.sl es)]), (30, .lst 4 49 (filA V n 0))] 25 true) (by exact entA) ⟨0, rfl, Nat.zero_le _, rfl⟩ ?_
 rintro _ _ ⟨i, rfl, hi, rfl⟩
 have hli := filA_len V n i
 by_cases hlt : i < n
 ·have d1 : decide ((i : Int) < (n : Int)) = true := decide_eq_true (by omega)
  have ca := ha i hlt
  have hset := filA_set V n i
  have hVi : V i = encQ (cf s l i) := by rw [hV]
  rw [hVi] at hset
  generalize cf s l i = q at *
  refine goA ?_
  refine evG ggA (Zab (Zaa rfl) rfl rfl ca) ?_
  refine goA ?_
  refine evG ggA (Zaf (Zaa rfl) (Zac rfl) rfl rfl hli rfl (by omega) (by omega)) ?_
  rw [show ((i : Nat) : Int).toNat = i by omega]
  refine evG ggA (Za8 (x := encQ q) rfl (Zbj rfl) rfl rfl hli hlt rfl rfl (fun l h => by cases h) rfl) ?_
  rw [hset]
  refine goA ?_
  exact Zae (k := n - (i + 1)) (s' := mkS [(2, .ptr 2 0), (5, .own 30 n), (10, .v (iV n)), (11, .v (iV ((i : Int) + 1)))] [(2, .var [.v (iV s), .v (.sl es)]), (30, .lst 4 49 (filA V n (i + 1)))] 25 true) (by omega) (by exact entA) ⟨i + 1, rfl, hlt, rfl⟩
 ·obtain rfl : i = n := by omega
  have d1 : decide ((i : Int) < (i : Int)) = false := decide_eq_false (by omega)
  generalize filA V i i = FA at *
  refine r1A ?_
  first
   | refine T.condF rfl (by assumption) ?_
   | (refine T.seq ?_; refine T.condF rfl (by assumption) ?_)
  refine T.exit ?_
  refine osA ?_
  refine T.weak (s' := mkS [(5, .v (.sl FA))] [] 25 true) (by exact entA) ?_
  refine goA ?_
  exact rfl
def stA (s : Stp) : AV := .agg [iV (s.p : Nat), .sl (s.v.map encQ), .sl (s.c.map encQ)]
theorem Zew {l : List Rat} {K : Nat} (h : ∀ q, q ∈ l → Ht q K) : IsL (l.map encQ) K l := Zct h
theorem clA_enc {c : Rat} {a b : List Rat} {n : Nat} (ha : a.length = n) (hb : b.length = n) : ∀ i, i ≤ n → clA c (a.map encQ) a b i = (tk (fun j => if j < i then a.getD j 0 - c * b.getD j 0 else a.getD j 0) n).map encQ
  | 0, _ => by
    show a.map encQ = _
    rw [show (fun j => if j < 0 then a.getD j 0 - c * b.getD j 0 else a.getD j 0) = fun j => a.getD j 0 from funext fun j => if_neg (by omega), ← ha, ← tk_of a]
  | i + 1, hi => by
    have ih := clA_enc (c := c) ha hb i (by omega)
    rw [clA, ih]
    refine List.ext_getElem? fun j => ?_
    by_cases hj : j < n
    · have g : ∀ f : Nat → Rat, ((tk f n).map encQ)[j]? = some (encQ (f j)) := fun f => by unfold tk; rw [List.map_map, List.getElem?_map, List.getElem?_range hj]; rfl
      split
      · rename_i hz
        rw [g, g]
        by_cases e : i = j
        · subst e
          rw [if_neg (by omega), if_pos (by omega), hz]
          congr 2
          grind
        · by_cases h : j < i
          · rw [if_pos h, if_pos (by omega)]
          · rw [if_neg h, if_neg (by omega)]
      · by_cases e : i = j
        · subst e
          rw [List.getElem?_set_self (by simp [tk, hj]), g, if_pos (by omega)]
        · rw [List.getElem?_set_ne e, g, g]
          by_cases h : j < i
          · rw [if_pos h, if_pos (by omega)]
          · rw [if_neg h, if_neg (by omega)]
    · rw [List.getElem?_eq_none (by split <;> simp [tk] <;> omega), List.getElem?_eq_none (by simp [tk]; omega)]
theorem clA_clr {c : Rat} {a b : List Rat} {n : Nat} (ha : a.length = n) (hb : b.length = n) : clA c (a.map encQ) a b n = (clr c a b).map encQ := by
 rw [clA_enc ha hb n (Nat.le_refl _)]
 have e := clr_tk c (fun i => a.getD i 0) (fun i => b.getD i 0) n
 rw [← ha, ← tk_of a, ha] at e
 rw [← hb, ← tk_of b, hb] at e
 rw [e]
 congr 1
 exact Zbw fun j hj => if_pos hj
theorem clr_zero {a b : List Rat} {n : Nat} (ha : a.length = n) (hb : b.length = n) : clr 0 a b = a := by
 have e := clr_tk 0 (fun i => a.getD i 0) (fun i => b.getD i 0) n
 rw [← ha, ← tk_of a, ha] at e
 rw [← hb, ← tk_of b, hb] at e
 rw [e]
 conv => rhs; rw [tk_of a, ha]
 exact Zbw fun j _ => by grind
end Ab
namespace Ab
open Go Go.RowKit Go.Proofs Hp
set_option maxRecDepth 100000
theorem cells_rat (l : List Rat) : ∀ a, a ∈ l.map encQ → a.cells.length = 4 := fun a h => by obtain ⟨q, -, rfl⟩ := List.mem_map.1 h; rfl
theorem nu_rat (l : List Rat) : ∀ a, a ∈ l.map encQ → ∀ c, c ∈ a.cells → c.nu = true := fun a h => by
 obtain ⟨q, -, rfl⟩ := List.mem_map.1 h
 exact List.all_eq_true.1 rfl
def rowA (r : List Rat) : AV := .sl (r.map encQ)
structure RedOK (m n K : Nat) (R : List (List Rat)) (F : List Stp) (ok : Bool) : Prop where
 r : ∀ i, i < n → (R.getD i []).length = m
 nr : R.length = n
 l : F.length ≤ n
 e : ∀ i, i < F.length → red1 n (F.take i) i (R.getD i []) = some (F.getD i st0)
 t : ok = true → F.length = n
 f : ok = false → F.length < n ∧ red1 n F F.length (R.getD F.length []) = none
 s : ∀ i, i < n → i ≤ F.length → ∀ j, j ≤ i → (∀ q, q ∈ (elm (F.take j) (R.getD i [], uni n i)).1 → Ht q K) ∧ ∀ q, q ∈ (elm (F.take j) (R.getD i [], uni n i)).2 → Ht q K
 k : ∀ s, s ∈ F → stpOK m n s ∧ (∀ q, q ∈ s.v → Ht q K) ∧ ∀ q, q ∈ s.c → Ht q K
theorem elm_len {m n : Nat} : ∀ (L : List Stp) (st : List Rat × List Rat), st.1.length = m → st.2.length = n → (∀ s, s ∈ L → stpOK m n s) → (elm L st).1.length = m ∧ (elm L st).2.length = n
  | [], st, h1, h2, _ => ⟨h1, h2⟩
  | s :: L, st, h1, h2, h => by
    obtain ⟨k1, k2, -⟩ := h s (List.mem_cons_self ..)
    exact elm_len L (el1 st s) (Zdq h1 k1) (Zdq h2 k2) fun u hu => h u (List.mem_cons_of_mem _ hu)
theorem elm_snoc (L : List Stp) (s : Stp) (st : List Rat × List Rat) : elm (L ++ [s]) st = el1 (elm L st) s := by unfold elm; rw [List.foldl_append]; rfl
theorem clA_get {c : Rat} {es : List AV} {a b : List Rat} {n : Nat} (hn : es.length = n) : ∀ i j, i ≤ n → j < n → (clA c es a b i)[j]? = if j < i ∧ b.getD j 0 ≠ 0 then some (encQ (a.getD j 0 - c * b.getD j 0)) else es[j]?
  | 0, j, _, _ => by rw [if_neg (by omega)]; rfl
  | i + 1, j, hi, hj => by
    have ih := clA_get (c := c) (a := a) (b := b) hn i j (by omega) hj
    rw [clA]
    by_cases e : i = j
    · subst e
      split
      · rename_i hz
        rw [ih, if_neg (by omega), if_neg (fun h => h.2 hz)]
      · rename_i hz
        rw [List.getElem?_set_self (by rw [clA_len, hn]; exact hj), if_pos ⟨by omega, hz⟩]
    · have h2 : (j < i ∧ b.getD j 0 ≠ 0) ↔ (j < i + 1 ∧ b.getD j 0 ≠ 0) := ⟨fun h => ⟨by omega, h.2⟩, fun h => ⟨by omega, h.2⟩⟩
      split
      · rw [ih]
        simp only [h2]
      · rw [List.getElem?_set_ne e, ih]
        simp only [h2]
theorem clA_isL {c : Rat} {es : List AV} {a b : List Rat} {K n : Nat} (he : IsL es K a) (hn : es.length = n) (hb : b.length = n) (hh : ∀ q, q ∈ clr c a b → Ht q K) : IsL (clA c es a b n) K (clr c a b) := by
 have ha : a.length = n := by rw [← he.get.1, hn]
 refine IsL.mk (by rw [clA_len, hn, Zdq ha hb]) fun i e q h1 h2 => ?_
 have hi : i < n := by have := (List.getElem?_eq_some_iff.1 h2).1; rw [Zdq ha hb] at this; exact this
 have h3 := clr_get (x := c) ha hb i hi
 rw [List.getD_eq_getElem?_getD, h2] at h3
 have h3 : q = a.getD i 0 - c * b.getD i 0 := h3
 rw [clA_get hn n i (Nat.le_refl _) hi] at h1
 split at h1
 ·injection h1 with h1
  subst h1
  rw [← h3]
  exact Zap (hh q (List.mem_of_getElem? h2))
 ·rename_i hz
  have hz : b.getD i 0 = 0 := Classical.byContradiction fun h => hz ⟨hi, h⟩
  obtain ⟨e', h4, h5⟩ := he.get.2 i (a.getD i 0) (by rw [List.getD_eq_getElem?_getD, List.getElem?_eq_getElem (by omega)]; rfl)
  rw [h4] at h1
  injection h1 with h1
  subst h1
  have : q = a.getD i 0 := by rw [h3, hz]; grind
  rw [this]
  exact h5
def updA (V : Nat → AV) (es : List AV) (k : Nat) : List AV := (List.range es.length).map fun j => if j < k then V j else es.getD j rz
theorem Zfv (V : Nat → AV) (es : List AV) (k : Nat) : (updA V es k).length = es.length := by unfold updA; simp
theorem updA_at (V : Nat → AV) (es : List AV) (k j : Nat) (hj : j < es.length) : (updA V es k)[j]? = if j < k then some (V j) else es[j]? := by
 unfold updA
 rw [List.getElem?_map, List.getElem?_range hj]
 show some (if j < k then V j else es.getD j rz) = _
 split
 ·rfl
 ·rw [List.getD_eq_getElem?_getD, List.getElem?_eq_getElem hj]; rfl
theorem updA_0 (V : Nat → AV) (es : List AV) : updA V es 0 = es := by
 refine List.ext_getElem? fun j => ?_
 by_cases hj : j < es.length
 ·rw [updA_at V es 0 j hj, if_neg (by omega)]
 ·rw [List.getElem?_eq_none (by rw [Zfv]; omega), List.getElem?_eq_none (by omega)]
theorem updA_n (V : Nat → AV) (es : List AV) {n : Nat} (hn : es.length = n) : updA V es n = (List.range n).map V := by
 unfold updA
 rw [hn]
 exact List.map_congr_left fun j hj => if_pos (List.mem_range.1 hj)
theorem updA_set (V : Nat → AV) (es : List AV) (k : Nat) : (updA V es k).set k (V k) = updA V es (k + 1) := by
 refine List.ext_getElem? fun j => ?_
 by_cases hj : j < es.length
 ·by_cases e : k = j
  ·subst e
   rw [List.getElem?_set_self (by rw [Zfv]; exact hj), updA_at _ _ _ _ hj, if_pos (by omega)]
  ·rw [List.getElem?_set_ne e, updA_at _ _ _ _ hj, updA_at _ _ _ _ hj]
   by_cases h : j < k
   ·rw [if_pos h, if_pos (by omega)]
   ·rw [if_neg h, if_neg (by omega)]
 ·rw [List.getElem?_eq_none (by rw [List.length_set, Zfv]; omega), List.getElem?_eq_none (by rw [Zfv]; omega)]
theorem updA_mul (f : Rat) (l : List Rat) : (List.range l.length).map (fun j => encQ (f * l.getD j 0)) = (l.map fun x => f * x).map encQ := by
 refine List.ext_getElem? fun j => ?_
 by_cases hj : j < l.length
 ·rw [List.getElem?_map, List.getElem?_range hj, List.getElem?_map, List.getElem?_map, List.getElem?_eq_getElem hj]
  show some (encQ (f * l.getD j 0)) = some (encQ (f * l[j]))
  rw [List.getD_eq_getElem?_getD, List.getElem?_eq_getElem hj]
  rfl
 ·rw [List.getElem?_eq_none (by simp; omega), List.getElem?_eq_none (by simp; omega)]
theorem uni_isL {n i K : Nat} (hK : 1 ≤ K) : IsL ((List.replicate n rz).set i (encQ 1)) K (uni n i) := by
 unfold uni
 refine IsL.mk (by rw [List.length_set, List.length_replicate, tk_len]) fun j e q h1 h2 => ?_
 have hj : j < n := by have := (List.getElem?_eq_some_iff.1 h2).1; rw [tk_len] at this; exact this
 have h3 : (tk (fun j => if j = i then (1 : Rat) else 0) n).getD j 0 = if j = i then 1 else 0 := Zco hj
 rw [List.getD_eq_getElem?_getD, h2] at h3
 have h3 : q = if j = i then 1 else 0 := h3
 by_cases e1 : i = j
 ·subst e1
  rw [if_pos rfl] at h3
  rw [List.getElem?_set_self (by rw [List.length_replicate]; exact hj)] at h1
  injection h1 with h1
  subst h1 h3
  exact Zap ((show Ht (1 : Rat) 1 from ⟨by decide, by decide⟩).mono hK)
 ·rw [if_neg (fun h => e1 h.symm)] at h3
  rw [List.getElem?_set_ne e1, List.getElem?_replicate, if_pos hj] at h1
  injection h1 with h1
  subst h1 h3
  exact isV_rz K
set_option maxHeartbeats 64000000 in
theorem reduce_p {R : List (List Rat)} {F : List Stp} {m n K : Nat} {ok : Bool} (h : RedOK m n K R F ok) (hK : 1 ≤ K ∧ K ≤ 1000000) (hm : m ≤ 1000) (hn : n ≤ 1000) :
  PC Tryz.prog 27 [.sl (R.map rowA)] (.tup [.sl (bif ok then F.map stA else []), bV ok]) := by
 have c1 := Zee 1 (by decide) (by decide)
 have c1 : PC Tryz.prog 25 [iV 1] (encQ 1) := c1
 obtain ⟨hr, hnr, hl, he, hok, hbad, hs, hk⟩ := h
 obtain ⟨RA, hRA⟩ : ∃ RA, RA = R.map rowA := ⟨_, rfl⟩
 have hRl : RA.length = n := by rw [hRA, List.length_map, hnr]
 rw [← hRA]
 refine Zas true Tryz.func27 rfl rfl rfl (Nat.le_of_ble_eq_true rfl) Zao.tmp Zao.tmp ?_
 refine goA ?_
 rw [hRl]
 refine T.loop (fun N s1 => ∃ i : Nat, N = n - i ∧ i ≤ F.length ∧ s1 = mkS [(0, .v (.sl RA)), (4, .own 200 i), (17, .v (.sl RA)), (18, .v (iV n)), (19, .v (iV i))] [(200, .lst 3 92 ((F.take i).map stA))] 125 true) n
  (s' := mkS [(0, .v (.sl RA)), (4, .own 200 0), (17, .v (.sl RA)), (18, .v (iV n)), (19, .v (iV ((0 : Nat) : Int)))] [(200, .lst 3 92 ((F.take 0).map stA))] 125 true) (by exact entA) ⟨0, rfl, Nat.zero_le _, rfl⟩ ?_
 rintro _ _ ⟨i, rfl, hi, rfl⟩
 by_cases hlt : i < n
 ·have hr := hr i hlt
  have hs := hs i hlt hi
  have d1 : decide ((i : Int) < (n : Int)) = true := decide_eq_true (by omega)
  obtain ⟨row, hrow⟩ : ∃ row, row = R.getD i [] := ⟨_, rfl⟩
  rw [← hrow] at hr hs
  have hget : RA[((i : Nat) : Int).toNat]? = some (.sl (row.map encQ)) := by
   rw [hRA, show ((i : Nat) : Int).toNat = i by omega, List.getElem?_map, hrow, List.getD_eq_getElem?_getD, List.getElem?_eq_getElem (by omega)]
   rfl
  have hFk : ∀ s, s ∈ F.take i → stpOK m n s ∧ (∀ q, q ∈ s.v → Ht q K) ∧ ∀ q, q ∈ s.c → Ht q K := fun s h => hk s (List.mem_of_mem_take h)
  have hLi : (F.take i).length = i := by rw [List.length_take]; omega
  have he' := he i
  have hbad' : i = F.length → ok = false → red1 n (F.take i) i row = none := fun e h => by
   have := (hbad h).2
   rw [hrow, e, List.take_length]
   exact this
  rw [← hrow] at he'
  have hnext : i < F.length → (F.take (i + 1)).map stA = (F.take i).map stA ++ [stA (F.getD i st0)] := fun h => by
   rw [List.take_add_one, List.map_append, List.getElem?_eq_getElem h, List.getD_eq_getElem?_getD, List.getElem?_eq_getElem h]
   rfl
  obtain ⟨L, hL⟩ : ∃ L, L = F.take i := ⟨_, rfl⟩
  have htk : ∀ j, j ≤ i → F.take j = L.take j := fun j hj => by rw [hL, List.take_take, Nat.min_eq_left hj]
  rw [← hL] at hLi hFk he' hbad' hnext
  have hs : ∀ j, j ≤ i → (∀ q, q ∈ (elm (L.take j) (row, uni n i)).1 → Ht q K) ∧ ∀ q, q ∈ (elm (L.take j) (row, uni n i)).2 → Ht q K := fun j hj => by rw [← htk j hj]; exact hs j hj
  have hXl : (row.map encQ).length = m := by rw [List.length_map, hr]
  have hcX := cells_rat row
  have hnX := nu_rat row
  have hC0 := uni_isL (n := n) (i := i) hK.1
  have hC0l : ((List.replicate n rz).set i (encQ 1)).length = n := by simp
  obtain ⟨C0, eC0⟩ : ∃ C0, C0 = (List.replicate n rz).set i (encQ 1) := ⟨_, rfl⟩
  have hLA : (L.map stA).length = i := by rw [List.length_map, hLi]
  obtain ⟨X, hX⟩ : ∃ X, X = row.map encQ := ⟨_, rfl⟩
  obtain ⟨LA, eLA⟩ : ∃ LA, LA = L.map stA := ⟨_, rfl⟩
  rw [← hX] at hget hXl hcX hnX
  rw [← eC0] at hC0 hC0l
  rw [← eLA] at hLA hnext
  rw [← hL, ← eLA]
  have hzl : (List.replicate n rz).length = n := List.length_replicate ..
  have hul : (uni n i).length = n := by unfold uni; rw [tk_len]
  refine goA ?_
  refine evG ggA (Zad (Zaa rfl) (Zac rfl) rfl rfl (by omega) hget rfl) ?_
  refine runA ?_
  refine Za1 ?_
  refine osA ?_
  first
   | refine T.drawF mixed ?_
   | (refine T.seq ?_; refine T.drawF mixed ?_)
  refine runA ?_
  refine evG ggA (Zb8 201 (Zaa rfl) rfl (Zak rfl) rfl rfl rfl rfl (Zca rfl) (Nat.le_of_ble_eq_true rfl) (by decide) (fun _ a ha => by cases ha)) ?_
  refine runA ?_
  refine evG ggA (Zce (Zaa rfl) (Zak rfl) rfl rfl rfl rfl hcX (by decide) (by unfold maxLen; simp only [List.length_nil]; omega) (by simp only [List.length_nil]; omega) rfl (fun _ => hnX)) ?_
  rw [hXl, show ([] : List AV).length + m = m by simp, List.nil_append]
  refine runA ?_
  refine evG ggA (Zeq 202 (e0 := rz) (Zaa rfl) (Zak rfl) rfl rfl rfl (by omega) (by omega) (by omega) (by omega) rfl rfl rfl) ?_
  rw [hRl, show ((n : Nat) : Int).toNat = n by omega]
  refine runA ?_
  refine Za1 ⟨by kernel_rfl, ?_⟩
  refine goA ?_
  refine evG ggA (Zab (Zaa rfl) rfl rfl c1) ?_
  refine goA ?_
  refine evG ggA (Zaf (Zaa rfl) (Zac rfl) rfl rfl hzl rfl (by omega) (by omega)) ?_
  rw [show ((i : Nat) : Int).toNat = i by omega]
  refine evG ggA (Za8 (x := encQ 1) rfl (Zbj rfl) rfl rfl hzl hlt rfl rfl (fun l h => by cases h) rfl) ?_
  rw [← eC0]
  refine runA ?_
  refine Za1 ?_
  refine osA ?_
  refine T.seqI (fun s1 => ∃ CA, IsL CA K (elm L (row, uni n i)).2 ∧ CA.length = n ∧ s1 = mkS [(0, .v (.sl RA)), (4, .own 200 i), (7, .own 201 m), (8, .own 202 n), (17, .v (.sl RA)), (18, .v (iV n)), (19, .v (iV i))] [(200, .lst 3 92 LA), (201, .lst 4 49 ((elm L (row, uni n i)).1.map encQ)), (202, .lst 4 49 CA)] 125 true) ?_ ?_
  ·refine goA ?_
   refine evG ggA (Zbf (Zaa rfl) rfl (Za4 rfl) rfl rfl hLA) ?_
   refine goA ?_
   refine T.loop (fun N s1 => ∃ (A B : List Stp) (CA : List AV), L = A ++ B ∧ N = B.length ∧ IsL CA K (elm A (row, uni n i)).2 ∧ CA.length = n ∧ s1 = mkS [(0, .v (.sl RA)), (4, .own 200 i), (7, .own 201 m), (8, .own 202 n), (17, .v (.sl RA)), (18, .v (iV n)), (19, .v (iV i)), (34, .own 200 i), (35, .v (iV i)), (36, .v (iV A.length))] [(200, .lst 3 92 LA), (201, .lst 4 49 ((elm A (row, uni n i)).1.map encQ)), (202, .lst 4 49 CA)] 125 true) L.length
    (s' := mkS [(0, .v (.sl RA)), (4, .own 200 i), (7, .own 201 m), (8, .own 202 n), (17, .v (.sl RA)), (18, .v (iV n)), (19, .v (iV i)), (34, .own 200 i), (35, .v (iV i)), (36, .v (iV ((0 : Nat) : Int)))] [(200, .lst 3 92 LA), (201, .lst 4 49 X), (202, .lst 4 49 C0)] 125 true) (by exact entA) ⟨[], L, C0, rfl, rfl, hC0, hC0l, by rw [hX]; rfl⟩ ?_
   rintro _ _ ⟨A, B, CA, hAB, rfl, hCA, hCAl, rfl⟩
   have hlA : L.length = A.length + B.length := by rw [hAB]; simp
   have hA : L.take A.length = A := by rw [hAB]; simp
   rcases B with _ | ⟨st, B⟩
   ·have d2 : decide ((A.length : Int) < (i : Int)) = false := decide_eq_false (by have h := hlA; simp only [List.length_cons, List.length_nil] at h; omega)
    have hAL : A = L := by rw [hAB]; simp
    subst hAL
    generalize (elm A (row, uni n i)).1.map encQ = VA at *
    refine goA ?_
    exact Zag (s' := mkS [(0, .v (.sl RA)), (4, .own 200 i), (7, .own 201 m), (8, .own 202 n), (17, .v (.sl RA)), (18, .v (iV n)), (19, .v (iV i))] [(200, .lst 3 92 LA), (201, .lst 4 49 VA), (202, .lst 4 49 CA)] 125 true) (by exact entA) ⟨CA, hCA, hCAl, rfl⟩
   have d2 : decide ((A.length : Int) < (i : Int)) = true := decide_eq_true (by have h := hlA; simp only [List.length_cons, List.length_nil] at h; omega)
   obtain ⟨⟨st1, st2, st3⟩, sk1, sk2⟩ := hFk st (by rw [hAB]; simp)
   have hget2 : LA[A.length]? = some (stA st) := by rw [eLA, hAB]; simp
   have hAB2 : L = (A ++ [st]) ++ B := by rw [hAB]; simp
   have hA2 : L.take (A.length + 1) = A ++ [st] := by rw [hAB2, List.take_append_of_le_length (by simp)]; exact List.take_of_length_le (by simp)
   have hstep := elm_snoc A st (row, uni n i)
   have hnx : ((A.length : Nat) : Int) + 1 = ((A ++ [st]).length : Nat) := by simp
   have hlB : B.length < (st :: B).length := by simp
   obtain ⟨h1, h2⟩ := elm_len A (row, uni n i) hr hul fun s h => (hFk s (by rw [hAB]; exact List.mem_append_left _ h)).1
   obtain ⟨q1, q2⟩ := hs A.length (by have h := hlA; simp only [List.length_cons, List.length_nil] at h; omega)
   obtain ⟨q3, q4⟩ := hs (A.length + 1) (by have h := hlA; simp only [List.length_cons, List.length_nil] at h; omega)
   rw [hA] at q1 q2
   rw [hA2] at q3 q4
   have hfin : ∀ CA', IsL CA' K (elm (A ++ [st]) (row, uni n i)).2 → CA'.length = n → ∃ (A' B' : List Stp) (CA : List AV), L = A' ++ B' ∧ B.length = B'.length ∧ IsL CA K (elm A' (row, uni n i)).2 ∧ CA.length = n ∧ mkS [(0, .v (.sl RA)), (4, .own 200 i), (7, .own 201 m), (8, .own 202 n), (17, .v (.sl RA)), (18, .v (iV n)), (19, .v (iV i)), (34, .own 200 i), (35, .v (iV i)), (36, .v (iV (A ++ [st]).length))] [(200, .lst 3 92 LA), (201, .lst 4 49 ((elm (A ++ [st]) (row, uni n i)).1.map encQ)), (202, .lst 4 49 CA')] 125 true = mkS [(0, .v (.sl RA)), (4, .own 200 i), (7, .own 201 m), (8, .own 202 n), (17, .v (.sl RA)), (18, .v (iV n)), (19, .v (iV i)), (34, .own 200 i), (35, .v (iV i)), (36, .v (iV A'.length))] [(200, .lst 3 92 LA), (201, .lst 4 49 ((elm A' (row, uni n i)).1.map encQ)), (202, .lst 4 49 CA)] 125 true := fun CA' c1 c2 => ⟨A ++ [st], B, CA', hAB2, rfl, c1, c2, rfl⟩
   obtain ⟨x, hx⟩ : ∃ x, x = (elm A (row, uni n i)).1.getD st.p 0 := ⟨_, rfl⟩
   unfold el1 at hstep
   rw [← hx] at hstep
   rw [hstep] at hfin q3 q4
   generalize (elm A (row, uni n i)).1 = v at *
   generalize (elm A (row, uni n i)).2 = o at *
   clear hs hFk hA hA2 hAB hAB2 he' hbad' hnext hstep htk hk he hok hbad hRA hget hL hX eC0
   obtain ⟨pq, sv, sc⟩ := st
   simp only at st1 st2 st3 sk1 sk2 hx hfin q3 q4
   rw [← hnx] at hfin
   have hxm : v[pq]? = some x := by rw [hx, List.getD_eq_getElem?_getD, List.getElem?_eq_getElem (by omega)]; rfl
   have hxK : Ht x K := q1 x (List.mem_of_getElem? hxm)
   have hxe : (v.map encQ)[pq]? = some (encQ x) := by rw [List.getElem?_map, hxm]; rfl
   have hxv : IsV (encQ x) K x := Zap hxK
   have hev : (v.map encQ).length = m := by rw [List.length_map, h1]
   have cl1 := clear_p (Zew q1) (Zew sk1) hxv hev (by rw [List.length_map, st1]) ⟨hK.1, by omega⟩ (by omega)
   have cl2 := clear_p hCA (Zew sk2) hxv hCAl (by rw [List.length_map, st2]) ⟨hK.1, by omega⟩ (by omega)
   rw [clA_clr h1 st1] at cl1
   have hI := clA_isL hCA hCAl st2 q4
   have hIl : (clA x CA o sc n).length = n := by rw [clA_len, hCAl]
   obtain ⟨sg, s0, s1, s2, cs⟩ := Zd4 hxv (by omega)
   have hget2 : LA[((A.length : Nat) : Int).toNat]? = some (.agg [iV (pq : Nat), .sl (sv.map encQ), .sl (sc.map encQ)]) := by rw [show ((A.length : Nat) : Int).toNat = A.length by omega]; exact hget2
   obtain ⟨g, d, g', d', e0⟩ := Zbi hxv
   by_cases hx0 : x = 0
   ·have d3 : (sg != 0) = false := by simp [s2.2 hx0]
    rw [hx0, clr_zero h1 st1, clr_zero h2 st2] at hfin
    have hfin := hfin CA hCA hCAl
    clear cl1 cl2 hI hIl
    rw [e0] at hxe cs
    generalize v.map encQ = VA at *
    generalize sv.map encQ = SV at *
    generalize sc.map encQ = SC at *
    refine goA ?_
    refine evG ggA (Zaf (Zaa rfl) (Zac rfl) rfl rfl hLA rfl (by omega) (by have h := hlA; simp only [List.length_cons, List.length_nil] at h; omega)) ?_
    refine evG ggA (Zah (Zaa rfl) (Zau rfl) rfl rfl hLA hget2) ?_
    refine goA ?_
    refine evG ggA (Zaf (Zaa rfl) (Zac rfl) rfl rfl hev rfl (by omega) (by omega)) ?_
    rw [show ((pq : Nat) : Int).toNat = pq by omega]
    refine evG ggA (Zah (Zaa rfl) (Zau rfl) rfl rfl hev hxe) ?_
    refine goA ?_
    refine evG ggA (Zab (Zaa rfl) rfl rfl cs) ?_
    refine goA ?_
    exact Zae (k := B.length) (s' := mkS [(0, .v (.sl RA)), (4, .own 200 i), (7, .own 201 m), (8, .own 202 n), (17, .v (.sl RA)), (18, .v (iV n)), (19, .v (iV i)), (34, .own 200 i), (35, .v (iV i)), (36, .v (iV ((A.length : Int) + 1)))] [(200, .lst 3 92 LA), (201, .lst 4 49 VA), (202, .lst 4 49 CA)] 125 true) hlB (by exact entA) hfin
   ·have d3 : (sg != 0) = true := by simp; intro h; exact hx0 (s2.1 h)
    have hfin := hfin _ hI hIl
    have hcv : ((clr x v sv).map encQ).length = m := by rw [List.length_map]; exact Zdq h1 st1
    rw [e0] at hxe cs cl1 cl2
    generalize (clr x v sv).map encQ = CV at *
    generalize clA x CA o sc n = CO at *
    generalize v.map encQ = VA at *
    generalize sv.map encQ = SV at *
    generalize sc.map encQ = SC at *
    refine goA ?_
    refine evG ggA (Zaf (Zaa rfl) (Zac rfl) rfl rfl hLA rfl (by omega) (by have h := hlA; simp only [List.length_cons, List.length_nil] at h; omega)) ?_
    refine evG ggA (Zah (Zaa rfl) (Zau rfl) rfl rfl hLA hget2) ?_
    refine goA ?_
    refine evG ggA (Zaf (Zaa rfl) (Zac rfl) rfl rfl hev rfl (by omega) (by omega)) ?_
    rw [show ((pq : Nat) : Int).toNat = pq by omega]
    refine evG ggA (Zah (Zaa rfl) (Zau rfl) rfl rfl hev hxe) ?_
    refine goA ?_
    refine evG ggA (Zab (Zaa rfl) rfl rfl cs) ?_
    refine goA ?_
    refine evM (Zbs [(0, 201)] cl1 rfl rfl rfl rfl rfl rfl ⟨rfl, trivial⟩ ⟨.inl rfl, trivial⟩ ?_)
    refine goA ?_
    refine evM (Zbs [(0, 202)] cl2 rfl rfl rfl rfl rfl rfl ⟨rfl, trivial⟩ ⟨.inl rfl, trivial⟩ ?_)
    refine goA ?_
    exact Zae (k := B.length) (s' := mkS [(0, .v (.sl RA)), (4, .own 200 i), (7, .own 201 m), (8, .own 202 n), (17, .v (.sl RA)), (18, .v (iV n)), (19, .v (iV i)), (34, .own 200 i), (35, .v (iV i)), (36, .v (iV ((A.length : Int) + 1)))] [(200, .lst 3 92 LA), (201, .lst 4 49 CV), (202, .lst 4 49 CO)] 125 true) hlB (by exact entA) hfin
  rintro _ ⟨CA, hCA, hCAl, rfl⟩
  obtain ⟨h1, h2⟩ := elm_len L (row, uni n i) hr hul fun s h => (hFk s h).1
  obtain ⟨q1, q2⟩ := hs i (Nat.le_refl _)
  rw [List.take_of_length_le (by omega)] at q1 q2
  have hred : red1 n L i row = if lead (elm L (row, uni n i)).1 < row.length then some ⟨lead (elm L (row, uni n i)).1, (elm L (row, uni n i)).1.map fun x => 1 / (elm L (row, uni n i)).1.getD (lead (elm L (row, uni n i)).1) 0 * x, (elm L (row, uni n i)).2.map fun x => 1 / (elm L (row, uni n i)).1.getD (lead (elm L (row, uni n i)).1) 0 * x⟩ else none := rfl
  rw [hr] at hred
  generalize (elm L (row, uni n i)).1 = v at *
  generalize (elm L (row, uni n i)).2 = o at *
  rw [hred] at he' hbad'
  clear hred hs hFk htk hk he hbad hRA hget hL hX eC0 hC0 hC0l hzl hul hcX hnX hXl
  have hlead := Zg4 v
  have hlead2 := Zfj v
  have hle := Zcm v
  rw [h1] at hle
  obtain ⟨p0, hp0⟩ : ∃ p0, p0 = lead v := ⟨_, rfl⟩
  rw [← hp0] at he' hbad' hlead hlead2 hle
  have hVl : (v.map encQ).length = m := by rw [List.length_map, h1]
  have hVA : ∀ j, j < m → (v.map encQ)[j]? = some (encQ (v.getD j 0)) := fun j hj => by rw [List.getElem?_map, List.getD_eq_getElem?_getD, List.getElem?_eq_getElem (by omega)]; rfl
  have hVK : ∀ j, j < m → Ht (v.getD j 0) K := fun j hj => q1 _ (by rw [List.getD_eq_getElem?_getD, List.getElem?_eq_getElem (by omega)]; exact List.getElem_mem _)
  have hgd : ∀ j q, v[j]? = some q → v.getD j 0 = q := fun j q h => by rw [List.getD_eq_getElem?_getD, h]; rfl
  obtain ⟨VA, eVA⟩ : ∃ VA, VA = v.map encQ := ⟨_, rfl⟩
  rw [← eVA] at hVl hVA
  rw [← eVA]
  refine goA ?_
  refine T.loop (fun N s1 => ∃ p : Nat, N = p0 - p ∧ p ≤ p0 ∧ s1 = mkS [(0, .v (.sl RA)), (4, .own 200 i), (7, .own 201 m), (8, .own 202 n), (12, .v (iV p)), (17, .v (.sl RA)), (18, .v (iV n)), (19, .v (iV i))] [(200, .lst 3 92 LA), (201, .lst 4 49 VA), (202, .lst 4 49 CA)] 125 true) p0
   (s' := mkS [(0, .v (.sl RA)), (4, .own 200 i), (7, .own 201 m), (8, .own 202 n), (12, .v (iV ((0 : Nat) : Int))), (17, .v (.sl RA)), (18, .v (iV n)), (19, .v (iV i))] [(200, .lst 3 92 LA), (201, .lst 4 49 VA), (202, .lst 4 49 CA)] 125 true) (by exact entA) ⟨0, rfl, Nat.zero_le _, rfl⟩ ?_
  rintro _ _ ⟨p, rfl, hp, rfl⟩
  by_cases hpl : p < p0
  ·have d2 : decide ((p : Int) < (m : Int)) = true := decide_eq_true (by omega)
   obtain ⟨sg, s0, s1, s2, cs⟩ := Zd4 (a := encQ (v.getD p 0)) (Zap (hVK p (by omega))) (by omega)
   have sz : sg = 0 := s2.2 (hgd p 0 (hlead p hpl))
   subst sz
   have hVp := hVA p (by omega)
   obtain ⟨g, d, g', d', e0⟩ := Zbi (Zap (hVK p (by omega)))
   rw [e0] at hVp cs
   clear he' hbad' hlead hlead2 hVA hnext
   refine goA ?_
   refine evG ggA (Zbf (Zaa rfl) rfl (Za4 rfl) rfl rfl hVl) ?_
   refine goA ?_
   refine evG ggA (Zaf (Zaa rfl) (Zac rfl) rfl rfl hVl rfl (by omega) (by omega)) ?_
   rw [show ((p : Nat) : Int).toNat = p by omega]
   refine evG ggA (Zah (Zaa rfl) (Zau rfl) rfl rfl hVl hVp) ?_
   refine goA ?_
   refine evG ggA (Zab (Zaa rfl) rfl rfl cs) ?_
   refine goA ?_
   exact Zae (k := p0 - (p + 1)) (s' := mkS [(0, .v (.sl RA)), (4, .own 200 i), (7, .own 201 m), (8, .own 202 n), (12, .v (iV ((p : Int) + 1))), (17, .v (.sl RA)), (18, .v (iV n)), (19, .v (iV i))] [(200, .lst 3 92 LA), (201, .lst 4 49 VA), (202, .lst 4 49 CA)] 125 true) (by omega) (by exact entA) ⟨p + 1, rfl, hpl, rfl⟩
  obtain rfl : p = p0 := by omega
  by_cases hpm : p < m
  ·rw [if_pos hpm] at he' hbad'
   have hi2 : i < F.length := by
    refine Classical.byContradiction fun h => ?_
    cases ok with
    | true => have := hok rfl; omega
    | false => have := hbad' (by omega) rfl; cases this
   have hnx := hnext hi2
   have he2 := he' hi2
   injection he2 with he2
   rw [← he2] at hnx
   have d2 : decide ((p : Int) < (m : Int)) = true := decide_eq_true (by omega)
   have d4 : ((p : Int) == (m : Int)) = false := by simp; omega
   obtain ⟨x, hx⟩ : ∃ x, x = v.getD p 0 := ⟨_, rfl⟩
   have hxm : v[p]? = some x := by rw [hx, List.getD_eq_getElem?_getD, List.getElem?_eq_getElem (by omega)]; rfl
   have hx0 := hlead2 x hxm
   have hxK := hVK p hpm
   have hVp := hVA p hpm
   rw [← hx] at hxK hVp hnx
   obtain ⟨sg, s0, s1, s2, cs⟩ := Zd4 (Zap hxK) (by omega)
   have d3 : (sg == 0) = false := by simp; intro h; exact hx0 (s2.1 h)
   have hfK : Ht (1 / x) K := by rw [Rat.div_def, Rat.one_mul]; exact ht_inv hxK hK.1
   have cq := rquo_p (Zap ((show Ht (1 : Rat) 1 from ⟨by decide, by decide⟩).mono hK.1)) (by omega) (Zap hxK) (by omega) hx0
   have hV1 := updA_mul (1 / x) v
   have hV2 := updA_mul (1 / x) o
   rw [h1] at hV1
   rw [h2] at hV2
   have hnx : (F.take (i + 1)).map stA = LA ++ [.agg [iV (p : Nat), .sl ((v.map fun y => 1 / x * y).map encQ), .sl ((o.map fun y => 1 / x * y).map encQ)]] := hnx
   have hfin : ∃ i' : Nat, n - (i + 1) = n - i' ∧ i' ≤ F.length ∧ mkS [(0, .v (.sl RA)), (4, .own 200 (i + 1)), (17, .v (.sl RA)), (18, .v (iV n)), (19, .v (iV ((i : Int) + 1)))] [(200, .lst 3 92 (LA ++ [.agg [iV (p : Nat), .sl ((v.map fun y => 1 / x * y).map encQ), .sl ((o.map fun y => 1 / x * y).map encQ)]]))] 125 true = mkS [(0, .v (.sl RA)), (4, .own 200 i'), (17, .v (.sl RA)), (18, .v (iV n)), (19, .v (iV i'))] [(200, .lst 3 92 ((F.take i').map stA))] 125 true := ⟨i + 1, rfl, hi2, by rw [hnx]; rfl⟩
   rw [← hV1, ← hV2] at hfin
   obtain ⟨g, d, g', d', e0⟩ := Zbi (Zap hxK)
   have hm1 : ∀ k, k < m → PC Tryz.prog 60 [encQ (1 / x), encQ (v.getD k 0)] (encQ (1 / x * v.getD k 0)) := fun k hk => Zeg (Zap hfK) (by omega) (Zap (hVK k hk)) (by omega)
   have hm2 : ∀ k, k < n → ∃ e, CA[k]? = some e ∧ IsV e K (o.getD k 0) ∧ PC Tryz.prog 60 [encQ (1 / x), e] (encQ (1 / x * o.getD k 0)) := fun k hk => by
    obtain ⟨e, w1, w2⟩ := hCA.get.2 k (o.getD k 0) (by rw [List.getD_eq_getElem?_getD, List.getElem?_eq_getElem (by omega)]; rfl)
    exact ⟨e, w1, w2, Zeg (Zap hfK) (by omega) w2 (by omega)⟩
   have hVcell : ∀ k, k < m → ∃ g d g' d', encQ (v.getD k 0) = .agg [.p (.bool g), .sl d, .p (.bool g'), .sl d'] := fun k hk => Zbi (Zap (hVK k hk))
   obtain ⟨fg, fd, fg', fd', e1⟩ := Zbi (Zap hfK)
   rw [e1] at cq hm1 hm2
   rw [e0] at hVp cs cq
   clear he' hbad' hlead hlead2 hnext hnx hVK hgd he2 hV1 hV2 hok eVA q1 q2 hxm
   generalize hW1 : (fun j => encQ (1 / x * v.getD j 0)) = W1 at hfin
   generalize hW2 : (fun j => encQ (1 / x * o.getD j 0)) = W2 at hfin
   have w1 : ∀ k, encQ (1 / x * v.getD k 0) = W1 k := fun k => by rw [← hW1]
   have w2 : ∀ k, encQ (1 / x * o.getD k 0) = W2 k := fun k => by rw [← hW2]
   have hU1l := Zfv W1 VA
   have hU1 := updA_at W1 VA
   have hU1s := updA_set W1 VA
   have hU1n := updA_n W1 VA hVl
   have hU2l := Zfv W2 CA
   have hU2 := updA_at W2 CA
   have hU2s := updA_set W2 CA
   have hU2n := updA_n W2 CA hCAl
   refine goA ?_
   refine evG ggA (Zbf (Zaa rfl) rfl (Za4 rfl) rfl rfl hVl) ?_
   refine goA ?_
   refine evG ggA (Zaf (Zaa rfl) (Zac rfl) rfl rfl hVl rfl (by omega) (by omega)) ?_
   rw [show ((p : Nat) : Int).toNat = p by omega]
   refine evG ggA (Zah (Zaa rfl) (Zau rfl) rfl rfl hVl hVp) ?_
   refine goA ?_
   refine evG ggA (Zab (Zaa rfl) rfl rfl cs) ?_
   refine goA ?_
   refine evG ggA (Zbf (Zaa rfl) rfl (Za4 rfl) rfl rfl hVl) ?_
   refine goA ?_
   refine evG ggA (Zab (Zaa rfl) rfl rfl c1) ?_
   refine goA ?_
   refine evG ggA (Zaf (Zaa rfl) (Zac rfl) rfl rfl hVl rfl (by omega) (by omega)) ?_
   rw [show ((p : Nat) : Int).toNat = p by omega]
   refine evG ggA (Zah (Zaa rfl) (Zau rfl) rfl rfl hVl hVp) ?_
   refine goA ?_
   refine evG ggA (Zab (Zaa rfl) rfl rfl cq) ?_
   refine goA ?_
   refine evG ggA (Zbf (Zaa rfl) rfl (Za4 rfl) rfl rfl hVl) ?_
   refine goA ?_
   refine T.loop (fun N s1 => ∃ k : Nat, N = m - k ∧ k ≤ m ∧ s1 = mkS [(0, .v (.sl RA)), (4, .own 200 i), (7, .own 201 m), (8, .own 202 n), (12, .v (iV p)), (13, .ptr 13 0), (17, .v (.sl RA)), (18, .v (iV n)), (19, .v (iV i)), (86, .own 201 m), (87, .v (iV m)), (88, .v (iV k))] [(13, .var [.v (.p (.bool fg)), .v (.sl fd), .v (.p (.bool fg')), .v (.sl fd')]), (200, .lst 3 92 LA), (201, .lst 4 49 (updA W1 VA k)), (202, .lst 4 49 CA)] 125 true) m
    (s' := mkS [(0, .v (.sl RA)), (4, .own 200 i), (7, .own 201 m), (8, .own 202 n), (12, .v (iV p)), (13, .ptr 13 0), (17, .v (.sl RA)), (18, .v (iV n)), (19, .v (iV i)), (86, .own 201 m), (87, .v (iV m)), (88, .v (iV ((0 : Nat) : Int)))] [(13, .var [.v (.p (.bool fg)), .v (.sl fd), .v (.p (.bool fg')), .v (.sl fd')]), (200, .lst 3 92 LA), (201, .lst 4 49 VA), (202, .lst 4 49 CA)] 125 true) (by exact entA) ⟨0, rfl, Nat.zero_le _, by rw [updA_0]⟩ ?_
   rintro _ _ ⟨k, rfl, hk, rfl⟩
   by_cases hkm : k < m
   ·have d5 : decide ((k : Int) < (m : Int)) = true := decide_eq_true (by omega)
    have hul := hU1l k
    have hgk := hU1 k k (by omega)
    rw [if_neg (by omega), hVA k hkm] at hgk
    rw [hVl] at hul
    have cm := hm1 k hkm
    obtain ⟨g1, d1', g1', d2', e2⟩ := hVcell k hkm
    rw [w1 k] at cm
    rw [e2] at hgk cm
    have hset := hU1s k
    have hfin2 : ∃ k' : Nat, m - (k + 1) = m - k' ∧ k' ≤ m ∧ mkS [(0, .v (.sl RA)), (4, .own 200 i), (7, .own 201 m), (8, .own 202 n), (12, .v (iV p)), (13, .ptr 13 0), (17, .v (.sl RA)), (18, .v (iV n)), (19, .v (iV i)), (86, .own 201 m), (87, .v (iV m)), (88, .v (iV ((k : Int) + 1)))] [(13, .var [.v (.p (.bool fg)), .v (.sl fd), .v (.p (.bool fg')), .v (.sl fd')]), (200, .lst 3 92 LA), (201, .lst 4 49 (updA W1 VA (k + 1))), (202, .lst 4 49 CA)] 125 true = mkS [(0, .v (.sl RA)), (4, .own 200 i), (7, .own 201 m), (8, .own 202 n), (12, .v (iV p)), (13, .ptr 13 0), (17, .v (.sl RA)), (18, .v (iV n)), (19, .v (iV i)), (86, .own 201 m), (87, .v (iV m)), (88, .v (iV k'))] [(13, .var [.v (.p (.bool fg)), .v (.sl fd), .v (.p (.bool fg')), .v (.sl fd')]), (200, .lst 3 92 LA), (201, .lst 4 49 (updA W1 VA k')), (202, .lst 4 49 CA)] 125 true := ⟨k + 1, rfl, hkm, rfl⟩
    obtain ⟨wg, wd, wg', wd', e3⟩ : ∃ g d g' d', W1 k = .agg [.p (.bool g), .sl d, .p (.bool g'), .sl d'] := by rw [← w1 k]; exact ⟨_, _, _, _, rfl⟩
    rw [e3] at cm hset
    generalize updA W1 VA (k + 1) = U' at *
    generalize updA W1 VA k = U at *
    clear hfin hVA hm1 hm2 hU1 hU1s hU1n hU2 hU2s hU2n hU1l hU2l hVcell w1 w2 hW1 hW2
    refine goA ?_
    refine evG ggA (Zaf (Zaa rfl) (Zac rfl) rfl rfl hul rfl (by omega) (by omega)) ?_
    rw [show ((k : Nat) : Int).toNat = k by omega]
    refine evG ggA (Zah (Zaa rfl) (Zau rfl) rfl rfl hul hgk) ?_
    refine goA ?_
    refine evG ggA (Zab (Zaa rfl) rfl rfl cm) ?_
    refine goA ?_
    refine evG ggA (Zaf (Zaa rfl) (Zac rfl) rfl rfl hul rfl (by omega) (by omega)) ?_
    rw [show ((k : Nat) : Int).toNat = k by omega]
    refine evG ggA (Za8 rfl (Zbj rfl) rfl rfl hul hkm rfl rfl (fun l h => by cases h) rfl) ?_
    rw [hset]
    refine goA ?_
    exact Zae (k := m - (k + 1)) (s' := mkS [(0, .v (.sl RA)), (4, .own 200 i), (7, .own 201 m), (8, .own 202 n), (12, .v (iV p)), (13, .ptr 13 0), (17, .v (.sl RA)), (18, .v (iV n)), (19, .v (iV i)), (86, .own 201 m), (87, .v (iV m)), (88, .v (iV ((k : Int) + 1)))] [(13, .var [.v (.p (.bool fg)), .v (.sl fd), .v (.p (.bool fg')), .v (.sl fd')]), (200, .lst 3 92 LA), (201, .lst 4 49 U'), (202, .lst 4 49 CA)] 125 true) (by omega) (by exact entA) hfin2
   obtain rfl : k = m := by omega
   have d5 : decide ((k : Int) < (k : Int)) = false := decide_eq_false (by omega)
   rw [hU1n]
   have hSl : ((List.range k).map W1).length = k := by simp
   generalize (List.range k).map W1 = VS at *
   clear hVA hm1 hU1 hU1s hU1n hU1l hVcell w1 hW1 hVp cs cq
   refine goA ?_
   refine evG ggA (Zbf (Zaa rfl) rfl (Za4 rfl) rfl rfl hCAl) ?_
   refine goA ?_
   refine T.loop (fun N s1 => ∃ j : Nat, N = n - j ∧ j ≤ n ∧ s1 = mkS [(0, .v (.sl RA)), (4, .own 200 i), (7, .own 201 k), (8, .own 202 n), (12, .v (iV p)), (13, .ptr 13 0), (17, .v (.sl RA)), (18, .v (iV n)), (19, .v (iV i)), (101, .own 202 n), (102, .v (iV n)), (103, .v (iV j))] [(13, .var [.v (.p (.bool fg)), .v (.sl fd), .v (.p (.bool fg')), .v (.sl fd')]), (200, .lst 3 92 LA), (201, .lst 4 49 VS), (202, .lst 4 49 (updA W2 CA j))] 125 true) n
    (s' := mkS [(0, .v (.sl RA)), (4, .own 200 i), (7, .own 201 k), (8, .own 202 n), (12, .v (iV p)), (13, .ptr 13 0), (17, .v (.sl RA)), (18, .v (iV n)), (19, .v (iV i)), (101, .own 202 n), (102, .v (iV n)), (103, .v (iV ((0 : Nat) : Int)))] [(13, .var [.v (.p (.bool fg)), .v (.sl fd), .v (.p (.bool fg')), .v (.sl fd')]), (200, .lst 3 92 LA), (201, .lst 4 49 VS), (202, .lst 4 49 CA)] 125 true) (by exact entA) ⟨0, rfl, Nat.zero_le _, by rw [updA_0]⟩ ?_
   rintro _ _ ⟨j, rfl, hj, rfl⟩
   by_cases hjn : j < n
   ·have d6 : decide ((j : Int) < (n : Int)) = true := decide_eq_true (by omega)
    have hul := hU2l j
    have hgk := hU2 j j (by omega)
    obtain ⟨e, v1, v2, cm⟩ := hm2 j hjn
    rw [if_neg (by omega), v1] at hgk
    rw [hCAl] at hul
    obtain ⟨g1, d1', g1', d2', rfl⟩ := Zbi v2
    rw [w2 j] at cm
    have hset := hU2s j
    have hfin2 : ∃ k' : Nat, n - (j + 1) = n - k' ∧ k' ≤ n ∧ mkS [(0, .v (.sl RA)), (4, .own 200 i), (7, .own 201 k), (8, .own 202 n), (12, .v (iV p)), (13, .ptr 13 0), (17, .v (.sl RA)), (18, .v (iV n)), (19, .v (iV i)), (101, .own 202 n), (102, .v (iV n)), (103, .v (iV ((j : Int) + 1)))] [(13, .var [.v (.p (.bool fg)), .v (.sl fd), .v (.p (.bool fg')), .v (.sl fd')]), (200, .lst 3 92 LA), (201, .lst 4 49 VS), (202, .lst 4 49 (updA W2 CA (j + 1)))] 125 true = mkS [(0, .v (.sl RA)), (4, .own 200 i), (7, .own 201 k), (8, .own 202 n), (12, .v (iV p)), (13, .ptr 13 0), (17, .v (.sl RA)), (18, .v (iV n)), (19, .v (iV i)), (101, .own 202 n), (102, .v (iV n)), (103, .v (iV k'))] [(13, .var [.v (.p (.bool fg)), .v (.sl fd), .v (.p (.bool fg')), .v (.sl fd')]), (200, .lst 3 92 LA), (201, .lst 4 49 VS), (202, .lst 4 49 (updA W2 CA k'))] 125 true := ⟨j + 1, rfl, hjn, rfl⟩
    obtain ⟨wg, wd, wg', wd', e3⟩ : ∃ g d g' d', W2 j = .agg [.p (.bool g), .sl d, .p (.bool g'), .sl d'] := by rw [← w2 j]; exact ⟨_, _, _, _, rfl⟩
    rw [e3] at cm hset
    generalize updA W2 CA (j + 1) = U' at *
    generalize updA W2 CA j = U at *
    clear hfin hm2 hU2 hU2s hU2n hU2l w2 hW2 v1 v2
    refine goA ?_
    refine evG ggA (Zaf (Zaa rfl) (Zac rfl) rfl rfl hul rfl (by omega) (by omega)) ?_
    rw [show ((j : Nat) : Int).toNat = j by omega]
    refine evG ggA (Zah (Zaa rfl) (Zau rfl) rfl rfl hul hgk) ?_
    refine goA ?_
    refine evG ggA (Zab (Zaa rfl) rfl rfl cm) ?_
    refine goA ?_
    refine evG ggA (Zaf (Zaa rfl) (Zac rfl) rfl rfl hul rfl (by omega) (by omega)) ?_
    rw [show ((j : Nat) : Int).toNat = j by omega]
    refine evG ggA (Za8 rfl (Zbj rfl) rfl rfl hul hjn rfl rfl (fun l h => by cases h) rfl) ?_
    rw [hset]
    refine goA ?_
    exact Zae (k := n - (j + 1)) (s' := mkS [(0, .v (.sl RA)), (4, .own 200 i), (7, .own 201 k), (8, .own 202 n), (12, .v (iV p)), (13, .ptr 13 0), (17, .v (.sl RA)), (18, .v (iV n)), (19, .v (iV i)), (101, .own 202 n), (102, .v (iV n)), (103, .v (iV ((j : Int) + 1)))] [(13, .var [.v (.p (.bool fg)), .v (.sl fd), .v (.p (.bool fg')), .v (.sl fd')]), (200, .lst 3 92 LA), (201, .lst 4 49 VS), (202, .lst 4 49 U')] 125 true) (by omega) (by exact entA) hfin2
   obtain rfl : j = n := by omega
   have d6 : decide ((j : Int) < (j : Int)) = false := decide_eq_false (by omega)
   rw [hU2n]
   have hSl2 : ((List.range j).map W2).length = j := by simp
   generalize (List.range j).map W2 = CS at *
   clear hm2 hU2 hU2s hU2n hU2l w2 hW2 hCA hCAl
   refine r1A ?_
   first
    | refine T.condF rfl (by assumption) ?_
    | (refine T.seq ?_; refine T.condF rfl (by assumption) ?_)
   refine T.exit ?_
   refine osA ?_
   refine T.weak (s' := mkS [(0, .v (.sl RA)), (4, .own 200 i), (7, .v (.sl VS)), (8, .v (.sl CS)), (12, .v (iV p)), (17, .v (.sl RA)), (18, .v (iV j)), (19, .v (iV i))] [(200, .lst 3 92 LA)] 125 true) (by exact entA) ?_
   refine goA ?_
   refine evG ggA (Za3 (Zaa rfl) (Zak rfl) rfl rfl rfl rfl (Zek rfl rfl) (Nat.le_of_ble_eq_true rfl)) ?_
   refine evG ggA (Zfy (a := .agg [iV (p : Nat), .sl VS, .sl CS]) (Zaa rfl) (Zak rfl) rfl rfl hLA rfl rfl (by decide) rfl (by omega) (Nat.le_of_ble_eq_true rfl) rfl) ?_
   refine goA ?_
   exact Zae (k := j - (i + 1)) (s' := mkS [(0, .v (.sl RA)), (4, .own 200 (i + 1)), (17, .v (.sl RA)), (18, .v (iV j)), (19, .v (iV ((i : Int) + 1)))] [(200, .lst 3 92 (LA ++ [.agg [iV (p : Nat), .sl VS, .sl CS]]))] 125 true) (by omega) (by exact entA) hfin
  ·rw [if_neg hpm] at he'
   obtain rfl : p = m := by omega
   have hOK : ok = false := by
    cases ok with
    | false => rfl
    | true => have := hok rfl; have := he' (by omega); cases this
   subst hOK
   have d2 : decide ((p : Int) < (p : Int)) = false := decide_eq_false (by omega)
   have d4 : ((p : Int) == (p : Int)) = true := by simp
   clear he' hbad' hlead hlead2 hVA hnext hVK hgd
   refine goA ?_
   refine evG ggA (Zbf (Zaa rfl) rfl (Za4 rfl) rfl rfl hVl) ?_
   refine goA ?_
   refine evG ggA (Zbf (Zaa rfl) rfl (Za4 rfl) rfl rfl hVl) ?_
   refine goA ?_
   exact rfl
 ·obtain rfl : i = n := by omega
  have d1 : decide ((i : Int) < (i : Int)) = false := decide_eq_false (by omega)
  have hF : F.length = i := by omega
  have hOK : ok = true := by
   cases ok with
   | true => rfl
   | false => have := (hbad rfl).1; omega
  subst hOK
  have hT : F.take i = F := by rw [← hF]; simp
  rw [hT]
  have hFl : (F.map stA).length = i := by rw [List.length_map, hF]
  generalize hFF : F.map stA = FF at *
  refine r1A ?_
  first
   | refine T.condF rfl (by assumption) ?_
   | (refine T.seq ?_; refine T.condF rfl (by assumption) ?_)
  refine T.exit ?_
  refine osA ?_
  refine T.weak (s' := mkS [(4, .v (.sl FF))] [] 125 true) (by exact entA) ?_
  refine goA ?_
  exact rfl
end Ab
namespace Ab
open Go Go.RowKit Go.Proofs Hp
set_option maxRecDepth 100000
theorem zer_enc (n : Nat) : (List.range n).map (fun _ => encQ 0) = (zer n).map encQ := by unfold zer tk; rw [List.map_map]; rfl
theorem cor_len {m n : Nat} : ∀ (L : List Stp) (st : List Rat × List Rat), st.1.length = m → st.2.length = n → (∀ s, s ∈ L → stpOK m n s) → (cor L st).1.length = m ∧ (cor L st).2.length = n
  | [], st, h1, h2, _ => ⟨h1, h2⟩
  | s :: L, st, h1, h2, h => by
    obtain ⟨k1, k2, -⟩ := h s (List.mem_cons_self ..)
    exact cor_len L (co1 st s) (Zdq h1 k1) (Zdq h2 k2) fun u hu => h u (List.mem_cons_of_mem _ hu)
set_option maxHeartbeats 16000000 in
theorem coords_p {L : List Stp} {b : List Rat} {K m n : Nat} (hb : b.length = m) (hL : L.length = n) (hs : ∀ s, s ∈ L → stpOK m n s) (hk : ∀ s, s ∈ L → (∀ q, q ∈ s.v → Ht q K) ∧ ∀ q, q ∈ s.c → Ht q K) (hh : ∀ j, j ≤ n → (∀ q, q ∈ (cor (L.take j) (b, zer n)).1 → Ht q K) ∧ ∀ q, q ∈ (cor (L.take j) (b, zer n)).2 → Ht q K) (hz : (cor L (b, zer n)).1 = zer m) (hK : 1 ≤ K ∧ K ≤ 1000000) (hm : m ≤ 1000) (hn : n ≤ 1000) :
  PC Tryz.prog 28 [.sl (L.map stA), .sl (b.map encQ)] (.tup [.sl ((cor L (b, zer n)).2.map encQ), bV true]) := by
 have c0 := Zee 0 (by decide) (by decide)
 have c0 : PC Tryz.prog 25 [iV 0] (encQ 0) := c0
 have hbl : (b.map encQ).length = m := by rw [List.length_map, hb]
 have hLl : (L.map stA).length = n := by rw [List.length_map, hL]
 have hcb := cells_rat b
 have hnb := nu_rat b
 obtain ⟨X, hX⟩ : ∃ X, X = b.map encQ := ⟨_, rfl⟩
 obtain ⟨Y, hY⟩ : ∃ Y, Y = L.map stA := ⟨_, rfl⟩
 rw [← hX] at hbl hcb hnb
 rw [← hY] at hLl
 rw [← hX, ← hY]
 refine Zas true Tryz.func28 rfl rfl rfl (Nat.le_of_ble_eq_true rfl) Zao.tmp Zao.tmp ?_
 refine goA ?_
 refine evG ggA (Zb8 100 (Zaa rfl) rfl (Zak rfl) rfl rfl rfl rfl (Zca rfl) (Nat.le_of_ble_eq_true rfl) (by decide) (fun _ a ha => by cases ha)) ?_
 refine goA ?_
 refine evG ggA (Zce (Zaa rfl) (Zak rfl) rfl rfl rfl rfl hcb (by decide) (by unfold maxLen; simp only [List.length_nil]; omega) (by simp only [List.length_nil]; omega) rfl (fun _ => hnb)) ?_
 rw [hbl, show ([] : List AV).length + m = m by simp, List.nil_append]
 refine goA ?_
 refine evG ggA (Zeq 101 (e0 := rz) (Zaa rfl) (Zak rfl) rfl rfl rfl (by omega) (by omega) (by omega) (by omega) rfl rfl rfl) ?_
 rw [hLl, show ((n : Nat) : Int).toNat = n by omega, ← filA_0 (fun _ => encQ 0) n]
 have hl0 := filA_len (fun _ => encQ 0) n 0
 refine goA ?_
 refine evG ggA (Zbf (Zaa rfl) rfl (Za4 rfl) rfl rfl hl0) ?_
 refine goA ?_
 refine T.loop (fun N s1 => ∃ i : Nat, N = n - i ∧ i ≤ n ∧ s1 = mkS [(0, .v (.sl Y)), (6, .own 100 m), (7, .own 101 n), (21, .v (iV n)), (22, .v (iV i))] [(100, .lst 4 49 X), (101, .lst 4 49 (filA (fun _ => encQ 0) n i))] 67 true) n
  (s' := mkS [(0, .v (.sl Y)), (6, .own 100 m), (7, .own 101 n), (21, .v (iV n)), (22, .v (iV ((0 : Nat) : Int)))] [(100, .lst 4 49 X), (101, .lst 4 49 (filA (fun _ => encQ 0) n 0))] 67 true) (by exact entA) ⟨0, rfl, Nat.zero_le _, rfl⟩ ?_
 rintro _ _ ⟨i, rfl, hi, rfl⟩
 have hli := filA_len (fun _ => encQ 0) n i
 by_cases hlt : i < n
 ·have d1 : decide ((i : Int) < (n : Int)) = true := decide_eq_true (by omega)
  have hset := filA_set (fun _ => encQ 0) n i
  refine goA ?_
  refine evG ggA (Zab (Zaa rfl) rfl rfl c0) ?_
  refine goA ?_
  refine evG ggA (Zaf (Zaa rfl) (Zac rfl) rfl rfl hli rfl (by omega) (by omega)) ?_
  rw [show ((i : Nat) : Int).toNat = i by omega]
  refine evG ggA (Za8 (x := encQ 0) rfl (Zbj rfl) rfl rfl hli hlt rfl rfl (fun l h => by cases h) rfl) ?_
  rw [hset]
  refine goA ?_
  exact Zae (k := n - (i + 1)) (s' := mkS [(0, .v (.sl Y)), (6, .own 100 m), (7, .own 101 n), (21, .v (iV n)), (22, .v (iV ((i : Int) + 1)))] [(100, .lst 4 49 X), (101, .lst 4 49 (filA (fun _ => encQ 0) n (i + 1)))] 67 true) (by omega) (by exact entA) ⟨i + 1, rfl, hlt, rfl⟩
 obtain rfl : i = n := by omega
 have d1 : decide ((i : Int) < (i : Int)) = false := decide_eq_false (by omega)
 rw [filA_n, zer_enc, hX]
 clear hli hl0 c0
 refine goA ?_
 rw [hLl]
 refine T.loop (fun N s1 => ∃ A B : List Stp, L = A ++ B ∧ N = B.length ∧ s1 = mkS [(6, .own 100 m), (7, .own 101 i), (30, .v (.sl Y)), (31, .v (iV i)), (32, .v (iV A.length))] [(100, .lst 4 49 ((cor A (b, zer i)).1.map encQ)), (101, .lst 4 49 ((cor A (b, zer i)).2.map encQ))] 67 true) L.length
  (s' := mkS [(6, .own 100 m), (7, .own 101 i), (30, .v (.sl Y)), (31, .v (iV i)), (32, .v (iV ((0 : Nat) : Int)))] [(100, .lst 4 49 (b.map encQ)), (101, .lst 4 49 ((zer i).map encQ))] 67 true) (by exact entA) ⟨[], L, rfl, rfl, rfl⟩ ?_
 rintro _ _ ⟨A, B, hAB, rfl, rfl⟩
 have hlA : L.length = A.length + B.length := by rw [hAB]; simp
 have hA : L.take A.length = A := by rw [hAB]; simp
 have hcl := cor_len A (b, zer i) hb (by unfold zer; rw [tk_len]) fun s h => hs s (by rw [hAB]; exact List.mem_append_left _ h)
 have hhA := hh A.length (by omega)
 rw [hA] at hhA
 rcases B with _ | ⟨st, B⟩
 ·have d1 : decide ((A.length : Int) < (i : Int)) = false := decide_eq_false (by simp at hlA; omega)
  have hLA : A = L := by rw [hAB]; simp
  subst hLA
  rw [hz]
  generalize hO : (cor A (b, zer i)).2.map encQ = O at *
  have hlz : ((zer m).map encQ).length = m := by unfold zer; rw [List.length_map, tk_len]
  have hlO : O.length = i := by rw [← hO, List.length_map, hcl.2]
  have hg0 : ∀ j, j < m → ((zer m).map encQ)[j]? = some (encQ 0) := fun j hjm => by unfold zer tk; rw [List.map_map, List.getElem?_map, List.getElem?_range hjm]; rfl
  clear hAB hh hs hk hhA hA
  generalize (zer m).map encQ = ZM at *
  refine goA ?_
  refine evG ggA (Zbf (Zaa rfl) rfl (Za4 rfl) rfl rfl hlz) ?_
  refine goA ?_
  refine T.loop (fun N s1 => ∃ j : Nat, N = m - j ∧ j ≤ m ∧ s1 = mkS [(7, .own 101 i), (56, .own 100 m), (57, .v (iV m)), (58, .v (iV j))] [(100, .lst 4 49 ZM), (101, .lst 4 49 O)] 67 true) m
   (s' := mkS [(7, .own 101 i), (56, .own 100 m), (57, .v (iV m)), (58, .v (iV ((0 : Nat) : Int)))] [(100, .lst 4 49 ZM), (101, .lst 4 49 O)] 67 true) (by exact entA) ⟨0, rfl, Nat.zero_le _, rfl⟩ ?_
  rintro _ _ ⟨j, rfl, hj, rfl⟩
  by_cases hjm : j < m
  ·have d2 : decide ((j : Int) < (m : Int)) = true := decide_eq_true (by omega)
   obtain ⟨sg, s0, s1, s2, cs⟩ := Zd4 (a := encQ 0) (q := 0) (k := 1) (Zap (ht0 (by decide))) (by decide)
   have sz : sg = 0 := s2.2 rfl
   subst sz
   have hg := hg0 j hjm
   obtain ⟨g, d, g', d', e0⟩ := Zbi (Zap (q := 0) (k := 1) (ht0 (by decide)))
   rw [e0] at hg cs
   refine goA ?_
   refine evG ggA (Zaf (Zaa rfl) (Zac rfl) rfl rfl hlz rfl (by omega) (by omega)) ?_
   rw [show ((j : Nat) : Int).toNat = j by omega]
   refine evG ggA (Zah (Zaa rfl) (Zau rfl) rfl rfl hlz hg) ?_
   refine goA ?_
   refine evG ggA (Zab (Zaa rfl) rfl rfl cs) ?_
   refine goA ?_
   exact Zae (k := m - (j + 1)) (s' := mkS [(7, .own 101 i), (56, .own 100 m), (57, .v (iV m)), (58, .v (iV ((j : Int) + 1)))] [(100, .lst 4 49 ZM), (101, .lst 4 49 O)] 67 true) (by omega) (by exact entA) ⟨j + 1, rfl, hjm, rfl⟩
  ·obtain rfl : j = m := by omega
   have d2 : decide ((j : Int) < (j : Int)) = false := decide_eq_false (by omega)
   refine r1A ?_
   first
    | refine T.condF rfl (by assumption) ?_
    | (refine T.seq ?_; refine T.condF rfl (by assumption) ?_)
   refine T.exit ?_
   refine osA ?_
   refine T.weak (s' := mkS [(7, .v (.sl O))] [] 67 true) (by exact entA) ?_
   refine goA ?_
   exact rfl
 have d1 : decide ((A.length : Int) < (i : Int)) = true := decide_eq_true (by simp at hlA; omega)
 obtain ⟨st1, st2, st3⟩ := hs st (by rw [hAB]; simp)
 obtain ⟨sk1, sk2⟩ := hk st (by rw [hAB]; simp)
 have hget : Y[((A.length : Nat) : Int).toNat]? = some (stA st) := by rw [hY, hAB, show ((A.length : Nat) : Int).toNat = A.length by omega]; simp
 have hAB2 : L = (A ++ [st]) ++ B := by rw [hAB]; simp
 have hstep : cor (A ++ [st]) (b, zer i) = co1 (cor A (b, zer i)) st := by rw [cor_app]; rfl
 have hnx : ((A.length : Nat) : Int) + 1 = ((A ++ [st]).length : Nat) := by simp
 have hlB : B.length < (st :: B).length := by simp
 obtain ⟨x, hx⟩ : ∃ x, x = (cor A (b, zer i)).1.getD st.p 0 := ⟨_, rfl⟩
 unfold co1 at hstep
 rw [← hx] at hstep
 have hfin : ∃ A' B' : List Stp, L = A' ++ B' ∧ B.length = B'.length ∧ mkS [(6, .own 100 m), (7, .own 101 i), (30, .v (.sl Y)), (31, .v (iV i)), (32, .v (iV ((A ++ [st]).length : Nat)))] [(100, .lst 4 49 ((cor (A ++ [st]) (b, zer i)).1.map encQ)), (101, .lst 4 49 ((cor (A ++ [st]) (b, zer i)).2.map encQ))] 67 true = mkS [(6, .own 100 m), (7, .own 101 i), (30, .v (.sl Y)), (31, .v (iV i)), (32, .v (iV A'.length))] [(100, .lst 4 49 ((cor A' (b, zer i)).1.map encQ)), (101, .lst 4 49 ((cor A' (b, zer i)).2.map encQ))] 67 true := ⟨A ++ [st], B, hAB2, rfl, rfl⟩
 rw [hstep] at hfin
 obtain ⟨h1, h2⟩ := hcl
 obtain ⟨q1, q2⟩ := hhA
 generalize (cor A (b, zer i)).1 = v at *
 generalize (cor A (b, zer i)).2 = o at *
 clear hstep hh hs hk hA hAB hAB2
 obtain ⟨pq, sv, sc⟩ := st
 simp only at st1 st2 st3 sk1 sk2 hx hfin
 rw [← hnx] at hfin
 have hxm : v[pq]? = some x := by rw [hx, List.getD_eq_getElem?_getD, List.getElem?_eq_getElem (by omega)]; rfl
 have hxK : Ht x K := q1 x (List.mem_of_getElem? hxm)
 have hxe : (v.map encQ)[pq]? = some (encQ x) := by rw [List.getElem?_map, hxm]; rfl
 have hxv : IsV (encQ x) K x := Zap hxK
 have cN := rneg_p hxv (by omega)
 have hev : (v.map encQ).length = m := by rw [List.length_map, h1]
 have heo : (o.map encQ).length = i := by rw [List.length_map, h2]
 have cl1 := clear_p (Zew q1) (Zew sk1) hxv hev (by rw [List.length_map, st1]) ⟨hK.1, by omega⟩ (by omega)
 have cl2 := clear_p (Zew q2) (Zew sk2) (Zap (ht_neg hxK)) heo (by rw [List.length_map, st2]) ⟨hK.1, by omega⟩ (by omega)
 rw [clA_clr h1 st1] at cl1
 rw [clA_clr h2 st2] at cl2
 obtain ⟨sg, s0, s1, s2, cs⟩ := Zd4 hxv (by omega)
 have hget : Y[((A.length : Nat) : Int).toNat]? = some (.agg [iV (pq : Nat), .sl (sv.map encQ), .sl (sc.map encQ)]) := hget
 by_cases hx0 : x = 0
 ·have d2 : (sg != 0) = false := by simp [s2.2 hx0]
  rw [hx0, clr_zero h1 st1, show (-(0 : Rat)) = 0 by decide, clr_zero h2 st2] at hfin
  clear cl1 cl2 cN
  obtain ⟨g, d, g', d', e0⟩ := Zbi hxv
  rw [e0] at hxe cs
  generalize v.map encQ = VA at *
  generalize o.map encQ = OA at *
  generalize sv.map encQ = SV at *
  generalize sc.map encQ = SC at *
  refine goA ?_
  refine evG ggA (Zad (Zaa rfl) (Zac rfl) rfl rfl (by omega) hget rfl) ?_
  refine goA ?_
  refine evG ggA (Zaf (Zaa rfl) (Zac rfl) rfl rfl hev rfl (by omega) (by omega)) ?_
  rw [show ((pq : Nat) : Int).toNat = pq by omega]
  refine evG ggA (Zah (Zaa rfl) (Zau rfl) rfl rfl hev hxe) ?_
  refine goA ?_
  refine evG ggA (Zab (Zaa rfl) rfl rfl cs) ?_
  refine goA ?_
  exact Zae (k := B.length) (s' := mkS [(6, .own 100 m), (7, .own 101 i), (30, .v (.sl Y)), (31, .v (iV i)), (32, .v (iV ((A.length : Int) + 1)))] [(100, .lst 4 49 VA), (101, .lst 4 49 OA)] 67 true) hlB (by exact entA) hfin
 ·have d2 : (sg != 0) = true := by simp; intro h; exact hx0 (s2.1 h)
  obtain ⟨g, d, g', d', e0⟩ := Zbi hxv
  rw [e0] at hxe cs cN cl1
  have hcv : ((clr x v sv).map encQ).length = m := by rw [List.length_map]; exact Zdq h1 st1
  have hco : ((clr (-x) o sc).map encQ).length = i := by rw [List.length_map]; exact Zdq h2 st2
  generalize (clr x v sv).map encQ = CV at *
  generalize (clr (-x) o sc).map encQ = CO at *
  generalize v.map encQ = VA at *
  generalize o.map encQ = OA at *
  generalize sv.map encQ = SV at *
  generalize sc.map encQ = SC at *
  refine goA ?_
  refine evG ggA (Zad (Zaa rfl) (Zac rfl) rfl rfl (by omega) hget rfl) ?_
  refine goA ?_
  refine evG ggA (Zaf (Zaa rfl) (Zac rfl) rfl rfl hev rfl (by omega) (by omega)) ?_
  rw [show ((pq : Nat) : Int).toNat = pq by omega]
  refine evG ggA (Zah (Zaa rfl) (Zau rfl) rfl rfl hev hxe) ?_
  refine goA ?_
  refine evG ggA (Zab (Zaa rfl) rfl rfl cs) ?_
  refine goA ?_
  refine evM (Zbs [(0, 100)] cl1 rfl rfl rfl rfl rfl rfl ⟨rfl, trivial⟩ ⟨.inl rfl, trivial⟩ ?_)
  refine runA ?_
  refine Za1 ?_
  refine osA ?_
  first
   | refine T.drawLast (l := [_, _, _, _, _]) rfl mixed ?_
   | (refine T.seq ?_; refine T.drawLast (l := [_, _, _, _, _]) rfl mixed ?_)
  refine runA ?_
  refine evG ggA (Zab (Zaa rfl) rfl rfl cN) ?_
  refine Za1 ⟨by kernel_rfl, Zbs [(0, 101)] cl2 rfl rfl rfl rfl rfl rfl ⟨rfl, trivial⟩ ⟨.inl rfl, trivial⟩ ?_⟩
  refine goA ?_
  exact Zae (k := B.length) (s' := mkS [(6, .own 100 m), (7, .own 101 i), (30, .v (.sl Y)), (31, .v (iV i)), (32, .v (iV ((A.length : Int) + 1)))] [(100, .lst 4 49 CV), (101, .lst 4 49 CO)] 67 true) hlB (by exact entA) hfin
end Ab
namespace Ab
open Go Go.RowKit Go.Proofs Hp
set_option maxRecDepth 100000
def keyQ (κ : Ky) (q : Rat) : QT := ⟨κ.1, κ.2.1, κ.2.2, q⟩
def rowK (w i K : Nat) : List Ky := (List.range K).flatMap fun (k : Nat) => if 2 * i + 4 * k ≤ w ∧ (w - 2 * i - 4 * k) % 6 = 0 then [((i : Int), (k : Int), (((w - 2 * i - 4 * k) / 6 : Nat) : Int))] else []
def Zgi (w I : Nat) : List Ky := (List.range I).flatMap fun i => if 2 * i ≤ w then rowK w i (w + 1) else []
theorem keysP_W (w d : Nat) : Zgi w (d + 1) = Zbc w d := rfl
theorem rowK_succ (w i k : Nat) : rowK w i (k + 1) = rowK w i k ++ (if 2 * i + 4 * k ≤ w ∧ (w - 2 * i - 4 * k) % 6 = 0 then [((i : Int), (k : Int), (((w - 2 * i - 4 * k) / 6 : Nat) : Int))] else []) := by
 unfold rowK
 rw [List.range_succ, List.flatMap_append, List.flatMap_singleton]
theorem rowK_end {w i k : Nat} (h : w < 2 * i + 4 * k) : ∀ n, rowK w i (k + n) = rowK w i k
 | 0 => rfl
 | n + 1 => by rw [← Nat.add_assoc, rowK_succ, if_neg (by omega), List.append_nil, rowK_end h n]
theorem keysP_succ (w i : Nat) : Zgi w (i + 1) = Zgi w i ++ (if 2 * i ≤ w then rowK w i (w + 1) else []) := by
 unfold Zgi
 rw [List.range_succ, List.flatMap_append, List.flatMap_singleton]
theorem keysP_end {w i : Nat} (h : w < 2 * i) : ∀ n, Zgi w (i + n) = Zgi w i
 | 0 => rfl
 | n + 1 => by rw [← Nat.add_assoc, keysP_succ, if_neg (by omega), List.append_nil, keysP_end h n]
theorem rowK_len (w i : Nat) : ∀ k, (rowK w i k).length ≤ k
  | 0 => Nat.le_refl _
  | k + 1 => by
    have := rowK_len w i k
    rw [rowK_succ, List.length_append]
    split <;> simp <;> omega
theorem keysP_len (w : Nat) : ∀ i, (Zgi w i).length ≤ i * (w + 1)
  | 0 => Nat.zero_le _
  | i + 1 => by
    have h1 := keysP_len w i
    have h2 := rowK_len w i (w + 1)
    rw [keysP_succ, List.length_append, Nat.add_mul, Nat.one_mul]
    split
    · omega
    · simp; omega
def PK (K : List Ky) : List AV := PL (K.map fun κ => keyQ κ 1)
theorem PK_len (K : List Ky) : (PK K).length = K.length := by unfold PK; rw [Zft, List.length_map]
theorem PK_snoc (K : List Ky) (κ : Ky) : PK (K ++ [κ]) = PK K ++ [(qe (keyQ κ 1)).av] := by unfold PK; rw [List.map_append, List.map_cons, List.map_nil, ← PL_snoc]
theorem PK_at {K A B : List Ky} {κ : Ky} (h : K = A ++ κ :: B) : (PK K)[A.length]? = some (qe (keyQ κ 1)).av := by
 subst h
 unfold PK PL
 rw [List.map_append, List.map_cons, List.map_append, List.map_cons, List.map_append, List.map_cons, List.getElem?_append_right (by simp)]
 simp
def PC2 (K : List Ky) (f : Nat → Rat) (i : Nat) : List AV := PL (kbas K fun j => if j < i then f j else 1)
theorem PC2_len (K : List Ky) (f : Nat → Rat) (i : Nat) : (PC2 K f i).length = K.length := by unfold PC2 kbas; rw [Zft]; simp
theorem PC2_at (K : List Ky) (f : Nat → Rat) (i j : Nat) (h : j < K.length) : (PC2 K f i)[j]? = some (qe (keyQ (K.getD j (0, 0, 0)) (if j < i then f j else 1))).av := by
 unfold PC2 kbas PL
 rw [List.getElem?_map, List.getElem?_map, List.getElem?_map, List.getElem?_range h]
 rfl
theorem PC2_0 (K : List Ky) (f : Nat → Rat) : PC2 K f 0 = PK K := by
 refine List.ext_getElem? fun j => ?_
 by_cases h : j < K.length
 ·rw [PC2_at K f 0 j h, if_neg (by omega)]
  unfold PK PL
  rw [List.getElem?_map, List.getElem?_map, List.getElem?_map, List.getD_eq_getElem?_getD, List.getElem?_eq_getElem h]
  rfl
 ·rw [List.getElem?_eq_none (by rw [PC2_len]; omega), List.getElem?_eq_none (by rw [PK_len]; omega)]
theorem PC2_set (K : List Ky) (f : Nat → Rat) (i : Nat) : (PC2 K f i).set i (qe (keyQ (K.getD i (0, 0, 0)) (f i))).av = PC2 K f (i + 1) := by
 refine List.ext_getElem? fun j => ?_
 by_cases h : j < K.length
 ·by_cases e : i = j
  ·subst e
   rw [List.getElem?_set_self (by rw [PC2_len]; exact h), PC2_at _ _ _ _ h, if_pos (by omega)]
  ·rw [List.getElem?_set_ne e, PC2_at _ _ _ _ h, PC2_at _ _ _ _ h]
   by_cases h2 : j < i
   ·rw [if_pos h2, if_pos (by omega)]
   ·rw [if_neg h2, if_neg (by omega)]
 ·rw [List.getElem?_eq_none (by rw [List.length_set, PC2_len]; omega), List.getElem?_eq_none (by rw [PC2_len]; omega)]
theorem PC2_n (K : List Ky) (f : Nat → Rat) {n : Nat} (hn : K.length = n) : PC2 K f n = PL (kbas K f) := by
 unfold PC2
 congr 1
 unfold kbas
 rw [hn]
 exact List.map_congr_left fun j hj => by simp only [if_pos (List.mem_range.1 hj)]
set_option maxHeartbeats 64000000 in
theorem fit_core {s0 s p : Int} {es0 es F B T0 : List AV} {w d m : Nat} {C : List Rat} {rk : Ky → List Rat} {ys : Ky → Int × List AV}
  (cn : PC Tryz.prog 23 [serA s0 es0] (.tup [serA s es, iV 0])) (cp : PC Tryz.prog 24 [serA s es] (.tup [iV p, iV 0])) (hw : w ≤ 60) (hd : d ≤ 30) (hm : max 0 p = (m : Int))
  (cx : ∀ κ, κ ∈ Zbc w d → PC Tryz.prog 15 [.sl [(qe (keyQ κ 1)).av], iV m] (.tup [serA (ys κ).1 (ys κ).2, iV 0]) ∧ PC Tryz.prog 26 [serA (ys κ).1 (ys κ).2, iV m] (rowA (rk κ)))
  (cr : PC Tryz.prog 27 [.sl ((Zbc w d).map fun κ => rowA (rk κ))] (.tup [.sl F, bV true])) (hneg : (decide ((es.length : Int) > 0) && decide (s < 0)) = false)
  (cl : PC Tryz.prog 26 [serA s es, iV m] (.sl B)) (cc : PC Tryz.prog 28 [.sl F, .sl B] (.tup [.sl (C.map encQ), bV true])) (hC : C.length = (Zbc w d).length)
  (ct : PC Tryz.prog 29 [.sl (PL (kbas (Zbc w d) fun i => C.getD i 0))] (.sl T0)) :
  PC Tryz.prog 9 [serA s0 es0, iV w, iV d] (.tup [.sl T0, iV 0]) := by
 have c1 := Zee 1 (by decide) (by decide)
 have c1 : PC Tryz.prog 25 [iV 1] (.agg [.p (.bool (qe (keyQ (0, 0, 0) 1)).g), .sl (qe (keyQ (0, 0, 0) 1)).d, .p (.bool (qe (keyQ (0, 0, 0) 1)).g'), .sl (qe (keyQ (0, 0, 0) 1)).d']) := c1
 have b1 : decide ((w : Int) < 0) = false := decide_eq_false (by omega)
 have b2 : decide ((w : Int) > 60) = false := decide_eq_false (by omega)
 have b3 : decide ((d : Int) < 0) = false := decide_eq_false (by omega)
 have b4 : decide ((d : Int) > 30) = false := decide_eq_false (by omega)
 have hkl : ∀ i, i ≤ 31 → (Zgi w i).length ≤ 31 * 61 := fun i hi => Nat.le_trans (keysP_len w i) (Nat.mul_le_mul hi (by omega))
 refine Zas true Tryz.func9 rfl rfl rfl (Nat.le_of_ble_eq_true rfl) Zao.tmp Zao.tmp ?_
 refine goA ?_
 refine evG ggA (Zab (Zaa rfl) rfl rfl cn) ?_
 refine goA ?_
 refine evG ggA (Zab (Zaa rfl) rfl rfl cp) ?_
 refine runA ?_
 refine Za1 ?_
 refine osA ?_
 refine T.seq ?_
 refine regA ?_
 refine runA ?_
 refine Za1 ?_
 refine osA ?_
 refine T.seqI (fun s1 => s1 = mkS [(1, .v (iV w)), (2, .v (iV d)), (3, .ptr 3 0), (9, .v (iV p)), (11, .own 300 (Zbc w d).length)] [(3, .var [.v (iV s), .v (.sl es)]), (300, .lst 7 54 (PK (Zbc w d)))] 156 true) ?_ ?_
 ·refine goA ?_
  refine T.loop (fun N s1 => ∃ i : Nat, N = d + 1 - i ∧ i ≤ d + 1 ∧ s1 = mkS [(1, .v (iV w)), (2, .v (iV d)), (3, .ptr 3 0), (9, .v (iV p)), (11, .own 300 (Zgi w i).length), (12, .v (iV i))] [(3, .var [.v (iV s), .v (.sl es)]), (300, .lst 7 54 (PK (Zgi w i)))] 156 true) (d + 1)
   (s' := mkS [(1, .v (iV w)), (2, .v (iV d)), (3, .ptr 3 0), (9, .v (iV p)), (11, .own 300 0), (12, .v (iV ((0 : Nat) : Int)))] [(3, .var [.v (iV s), .v (.sl es)]), (300, .lst 7 54 [])] 156 true) (by exact entA) ⟨0, rfl, Nat.zero_le _, rfl⟩ ?_
  rintro _ _ ⟨i, rfl, hi, rfl⟩
  by_cases hid : i ≤ d
  ·have d1 : decide ((i : Int) ≤ (d : Int)) = true := decide_eq_true (by omega)
   by_cases hiw : 2 * i ≤ w
   ·have d2 : decide (2 * (i : Int) ≤ (w : Int)) = true := decide_eq_true (by omega)
    have hks := keysP_succ w i
    rw [if_pos hiw] at hks
    have hfin : ∃ i' : Nat, d + 1 - (i + 1) = d + 1 - i' ∧ i' ≤ d + 1 ∧ mkS [(1, .v (iV w)), (2, .v (iV d)), (3, .ptr 3 0), (9, .v (iV p)), (11, .own 300 (Zgi w i ++ rowK w i (w + 1)).length), (12, .v (iV ((i : Int) + 1)))] [(3, .var [.v (iV s), .v (.sl es)]), (300, .lst 7 54 (PK (Zgi w i ++ rowK w i (w + 1))))] 156 true = mkS [(1, .v (iV w)), (2, .v (iV d)), (3, .ptr 3 0), (9, .v (iV p)), (11, .own 300 (Zgi w i').length), (12, .v (iV i'))] [(3, .var [.v (iV s), .v (.sl es)]), (300, .lst 7 54 (PK (Zgi w i')))] 156 true := ⟨i + 1, rfl, by omega, by rw [hks]; rfl⟩
    have hrl := rowK_len w i
    have hkl := hkl i (by omega)
    have hrs := rowK_succ w i
    have hre := fun k (h : w < 2 * i + 4 * k) => rowK_end h
    generalize Zgi w i = KP at *
    clear cn cp cx cr cl cc ct hks
    refine goA ?_
    refine T.loop (fun N s1 => ∃ k : Nat, N = w + 1 - k ∧ k ≤ w + 1 ∧ s1 = mkS [(1, .v (iV w)), (2, .v (iV d)), (3, .ptr 3 0), (9, .v (iV p)), (11, .own 300 (KP ++ rowK w i k).length), (12, .v (iV i)), (13, .v (iV k))] [(3, .var [.v (iV s), .v (.sl es)]), (300, .lst 7 54 (PK (KP ++ rowK w i k)))] 156 true) (w + 1)
     (s' := mkS [(1, .v (iV w)), (2, .v (iV d)), (3, .ptr 3 0), (9, .v (iV p)), (11, .own 300 KP.length), (12, .v (iV i)), (13, .v (iV ((0 : Nat) : Int)))] [(3, .var [.v (iV s), .v (.sl es)]), (300, .lst 7 54 (PK KP))] 156 true) (by exact entA) ⟨0, rfl, Nat.zero_le _, by rw [show rowK w i 0 = [] from rfl, List.append_nil]⟩ ?_
    rintro _ _ ⟨k, rfl, hk, rfl⟩
    by_cases hkw : 2 * i + 4 * k ≤ w
    ·have d3 : decide (2 * (i : Int) + 4 * (k : Int) ≤ (w : Int)) = true := decide_eq_true (by omega)
     obtain ⟨left, hleft⟩ : ∃ left, left = w - 2 * i - 4 * k := ⟨_, rfl⟩
     have hli : (w : Int) - 2 * (i : Int) - 4 * (k : Int) = (left : Int) := by omega
     have ht : (left : Int).tmod 6 = ((left % 6 : Nat) : Int) := (Int.ofNat_tmod left 6).symm
     have hq : (left : Int).tdiv 6 = ((left / 6 : Nat) : Int) := (Int.ofNat_tdiv left 6).symm
     have hrs := hrs k
     have hrl := hrl k
     rw [← hleft] at hrs
     by_cases h6 : left % 6 = 0
     ·have d4 : (((left % 6 : Nat) : Int) == 0) = true := by simp [h6]
      rw [if_pos ⟨hkw, h6⟩] at hrs
      have hsn := PK_snoc (KP ++ rowK w i k) ((i : Int), (k : Int), ((left / 6 : Nat) : Int))
      have hln := PK_len (KP ++ rowK w i k)
      rw [List.append_assoc, ← hrs] at hsn
      have hl2 : (KP ++ rowK w i (k + 1)).length = (KP ++ rowK w i k).length + 1 := by rw [hrs]; simp only [List.length_append, List.length_cons, List.length_nil]; omega
      have hb : (KP ++ rowK w i k).length ≤ 31 * 61 + 61 := by rw [List.length_append]; omega
      have hfin2 : ∃ k' : Nat, w + 1 - (k + 1) = w + 1 - k' ∧ k' ≤ w + 1 ∧ mkS [(1, .v (iV w)), (2, .v (iV d)), (3, .ptr 3 0), (9, .v (iV p)), (11, .own 300 ((KP ++ rowK w i k).length + 1)), (12, .v (iV i)), (13, .v (iV ((k : Int) + 1)))] [(3, .var [.v (iV s), .v (.sl es)]), (300, .lst 7 54 (PK (KP ++ rowK w i k) ++ [(qe (keyQ ((i : Int), (k : Int), ((left / 6 : Nat) : Int)) 1)).av]))] 156 true = mkS [(1, .v (iV w)), (2, .v (iV d)), (3, .ptr 3 0), (9, .v (iV p)), (11, .own 300 (KP ++ rowK w i k').length), (12, .v (iV i)), (13, .v (iV k'))] [(3, .var [.v (iV s), .v (.sl es)]), (300, .lst 7 54 (PK (KP ++ rowK w i k')))] 156 true := ⟨k + 1, rfl, by omega, by rw [hl2, hsn]; rfl⟩
      generalize PK (KP ++ rowK w i k) = PP at *
      generalize (KP ++ rowK w i k).length = nn at *
      clear hfin hrs hre hsn hl2
      refine goA ?_
      rw [hli]
      refine goA ?_
      refine evG ggA (Zcc (op := .rem) (Zaa rfl) rfl rfl (by omega) ht) ?_
      refine goA ?_
      refine evG ggA (Zcc (op := .quo) (c := ((left / 6 : Nat) : Int)) (Zaa rfl) rfl rfl (by omega) (by rw [hq]; exact w64 (by omega) (by omega))) ?_
      refine goA ?_
      refine evG ggA (Zab (Zaa rfl) rfl rfl c1) ?_
      refine goA ?_
      refine evG ggA (Za3 (Zaa rfl) (Zak rfl) rfl rfl rfl rfl (Zek rfl rfl) (Nat.le_of_ble_eq_true rfl)) ?_
      refine evG ggA (Zgr (a := (qe (keyQ ((i : Int), (k : Int), ((left / 6 : Nat) : Int)) 1)).av) (Zaa rfl) (Zak rfl) rfl rfl hln rfl rfl (by decide) rfl (by omega) (Nat.le_of_ble_eq_true rfl) rfl) ?_
      refine goA ?_
      exact Zae (k := w + 1 - (k + 1)) (s' := mkS [(1, .v (iV w)), (2, .v (iV d)), (3, .ptr 3 0), (9, .v (iV p)), (11, .own 300 (nn + 1)), (12, .v (iV i)), (13, .v (iV ((k : Int) + 1)))] [(3, .var [.v (iV s), .v (.sl es)]), (300, .lst 7 54 (PP ++ [(qe (keyQ ((i : Int), (k : Int), ((left / 6 : Nat) : Int)) 1)).av]))] 156 true) (by omega) (by exact entA) hfin2
     ·have d4 : (((left % 6 : Nat) : Int) == 0) = false := by simp; omega
      rw [if_neg (fun h => h6 h.2), List.append_nil] at hrs
      have hfin2 : ∃ k' : Nat, w + 1 - (k + 1) = w + 1 - k' ∧ k' ≤ w + 1 ∧ mkS [(1, .v (iV w)), (2, .v (iV d)), (3, .ptr 3 0), (9, .v (iV p)), (11, .own 300 (KP ++ rowK w i k).length), (12, .v (iV i)), (13, .v (iV ((k : Int) + 1)))] [(3, .var [.v (iV s), .v (.sl es)]), (300, .lst 7 54 (PK (KP ++ rowK w i k)))] 156 true = mkS [(1, .v (iV w)), (2, .v (iV d)), (3, .ptr 3 0), (9, .v (iV p)), (11, .own 300 (KP ++ rowK w i k').length), (12, .v (iV i)), (13, .v (iV k'))] [(3, .var [.v (iV s), .v (.sl es)]), (300, .lst 7 54 (PK (KP ++ rowK w i k')))] 156 true := ⟨k + 1, rfl, by omega, by rw [hrs]; rfl⟩
      generalize PK (KP ++ rowK w i k) = PP at *
      generalize (KP ++ rowK w i k).length = nn at *
      clear hfin hrs hre
      refine goA ?_
      rw [hli]
      refine goA ?_
      refine evG ggA (Zcc (op := .rem) (Zaa rfl) rfl rfl (by omega) ht) ?_
      refine goA ?_
      exact Zae (k := w + 1 - (k + 1)) (s' := mkS [(1, .v (iV w)), (2, .v (iV d)), (3, .ptr 3 0), (9, .v (iV p)), (11, .own 300 nn), (12, .v (iV i)), (13, .v (iV ((k : Int) + 1)))] [(3, .var [.v (iV s), .v (.sl es)]), (300, .lst 7 54 PP)] 156 true) (by omega) (by exact entA) hfin2
    ·have d3 : decide (2 * (i : Int) + 4 * (k : Int) ≤ (w : Int)) = false := decide_eq_false (by omega)
     have hre := hre k (by omega) (w + 1 - k)
     rw [show k + (w + 1 - k) = w + 1 by omega] at hre
     rw [hre] at hfin
     generalize PK (KP ++ rowK w i k) = PP at *
     generalize (KP ++ rowK w i k).length = nn at *
     clear hre hrs hrl
     refine goA ?_
     exact Zae (k := d + 1 - (i + 1)) (s' := mkS [(1, .v (iV w)), (2, .v (iV d)), (3, .ptr 3 0), (9, .v (iV p)), (11, .own 300 nn), (12, .v (iV ((i : Int) + 1)))] [(3, .var [.v (iV s), .v (.sl es)]), (300, .lst 7 54 PP)] 156 true) (by omega) (by exact entA) hfin
   ·have d2 : decide (2 * (i : Int) ≤ (w : Int)) = false := decide_eq_false (by omega)
    have hke := keysP_end (w := w) (i := i) (by omega) (d + 1 - i)
    rw [show i + (d + 1 - i) = d + 1 by omega, keysP_W] at hke
    rw [← hke]
    generalize PK (Zbc w d) = PP at *
    generalize (Zbc w d).length = nn at *
    clear cn cp cx cr cl cc ct
    refine goA ?_
    exact Zag (s' := mkS [(1, .v (iV w)), (2, .v (iV d)), (3, .ptr 3 0), (9, .v (iV p)), (11, .own 300 nn)] [(3, .var [.v (iV s), .v (.sl es)]), (300, .lst 7 54 PP)] 156 true) (by exact entA) rfl
  ·have d1 : decide ((i : Int) ≤ (d : Int)) = false := decide_eq_false (by omega)
   obtain rfl : i = d + 1 := by omega
   rw [keysP_W]
   generalize PK (Zbc w d) = PP at *
   generalize (Zbc w d).length = nn at *
   clear cn cp cx cr cl cc ct
   refine goA ?_
   exact Zag (s' := mkS [(1, .v (iV w)), (2, .v (iV d)), (3, .ptr 3 0), (9, .v (iV p)), (11, .own 300 nn)] [(3, .var [.v (iV s), .v (.sl es)]), (300, .lst 7 54 PP)] 156 true) (by exact entA) rfl
 rintro _ rfl
 have hn := PK_len (Zbc w d)
 have hnb := hkl (d + 1) (by omega)
 rw [keysP_W] at hnb
 clear hkl
 obtain ⟨K, hK⟩ : ∃ K, K = Zbc w d := ⟨_, rfl⟩
 rw [← hK] at hn hnb cx cr hC ct ⊢
 obtain ⟨n, hKn⟩ : ∃ n, n = K.length := ⟨_, rfl⟩
 rw [← hKn] at hn hnb hC ⊢
 refine goA ?_
 rw [hm]
 refine goA ?_
 refine evG ggA (Zbf (Zaa rfl) rfl (Za4 rfl) rfl rfl hn) ?_
 refine goA ?_
 refine T.loop (fun N s1 => ∃ (A B : List Ky), K = A ++ B ∧ N = B.length ∧ s1 = mkS [(3, .ptr 3 0), (11, .own 300 n), (15, .v (iV m)), (16, .own 301 A.length), (94, .own 300 n), (95, .v (iV n)), (96, .v (iV A.length))] [(3, .var [.v (iV s), .v (.sl es)]), (300, .lst 7 54 (PK K)), (301, .lst 1 22 (A.map fun κ => rowA (rk κ)))] 156 true) n
  (s' := mkS [(3, .ptr 3 0), (11, .own 300 n), (15, .v (iV m)), (16, .own 301 0), (94, .own 300 n), (95, .v (iV n)), (96, .v (iV ((0 : Nat) : Int)))] [(3, .var [.v (iV s), .v (.sl es)]), (300, .lst 7 54 (PK K)), (301, .lst 1 22 [])] 156 true) (by exact entA) ⟨[], K, rfl, hKn, rfl⟩ ?_
 rintro _ _ ⟨A, L, hAL, rfl, rfl⟩
 have hlA : K.length = A.length + L.length := by rw [hAL]; simp
 rcases L with _ | ⟨κ, L⟩
 ·have d1 : decide ((A.length : Int) < (n : Int)) = false := decide_eq_false (by have h := hlA; simp only [List.length_nil] at h; omega)
  have hAK : A = K := by rw [hAL]; simp
  rw [hAK, ← hKn]
  have d1 : decide ((n : Int) < (n : Int)) = false := decide_eq_false (by omega)
  have hRl : (K.map fun κ => rowA (rk κ)).length = n := by rw [List.length_map, hKn]
  generalize (K.map fun κ => rowA (rk κ)) = RA at *
  have hf0 := PC2_0 K fun j => C.getD j 0
  have hfn := PC2_n K (fun j => C.getD j 0) hKn.symm
  have hfl := PC2_len K fun j => C.getD j 0
  have hfa := PC2_at K fun j => C.getD j 0
  have hfs := PC2_set K fun j => C.getD j 0
  have hXC : ∀ i : Nat, i < n → (C.map encQ)[((i : Nat) : Int).toNat]? = some (encQ (C.getD i 0)) := fun i hi => by
   rw [show ((i : Nat) : Int).toNat = i by omega, List.getElem?_map, List.getD_eq_getElem?_getD, List.getElem?_eq_getElem (by omega)]
   rfl
  generalize PK K = P0 at *
  have hXl : (C.map encQ).length = n := by rw [List.length_map, hC]
  clear hAL hAK hlA cx hK
  refine r1A ?_
  first
   | refine T.condF rfl (by assumption) ?_
   | (refine T.seq ?_; refine T.condF rfl (by assumption) ?_)
  refine T.exit ?_
  refine osA ?_
  refine T.weak (s' := mkS [(3, .ptr 3 0), (11, .own 300 n), (15, .v (iV m)), (16, .v (.sl RA))] [(3, .var [.v (iV s), .v (.sl es)]), (300, .lst 7 54 P0)] 156 true) (by exact entA) ?_
  refine goA ?_
  refine evG ggA (Zab (Zaa rfl) rfl rfl cr) ?_
  refine runA ?_
  refine Za1 ?_
  refine osA ?_
  refine T.seqI (fun s1 => s1 = mkS [(3, .ptr 3 0), (11, .own 300 n), (15, .v (iV m)), (21, .v (.sl F))] [(3, .var [.v (iV s), .v (.sl es)]), (300, .lst 7 54 P0)] 156 true) ?_ ?_
  ·refine goA ?_
   exact Zag (s' := mkS [(3, .ptr 3 0), (11, .own 300 n), (15, .v (iV m)), (21, .v (.sl F))] [(3, .var [.v (iV s), .v (.sl es)]), (300, .lst 7 54 P0)] 156 true) (by exact entA) rfl
  rintro _ rfl
  refine T.seqI (fun s1 => s1 = mkS [(3, .ptr 3 0), (11, .own 300 n), (15, .v (iV m)), (21, .v (.sl F))] [(3, .var [.v (iV s), .v (.sl es)]), (300, .lst 7 54 P0)] 156 true) ?_ ?_
  ·by_cases hes : (es.length : Int) > 0
   ·have d2 : decide ((es.length : Int) > 0) = true := decide_eq_true hes
    have d3 : decide (s < 0) = false := by rw [d2, Bool.true_and] at hneg; exact hneg
    refine goA ?_
    exact Zag (s' := mkS [(3, .ptr 3 0), (11, .own 300 n), (15, .v (iV m)), (21, .v (.sl F))] [(3, .var [.v (iV s), .v (.sl es)]), (300, .lst 7 54 P0)] 156 true) (by exact entA) rfl
   ·have d2 : decide ((es.length : Int) > 0) = false := decide_eq_false hes
    refine goA ?_
    exact Zag (s' := mkS [(3, .ptr 3 0), (11, .own 300 n), (15, .v (iV m)), (21, .v (.sl F))] [(3, .var [.v (iV s), .v (.sl es)]), (300, .lst 7 54 P0)] 156 true) (by exact entA) rfl
  rintro _ rfl
  generalize C.map encQ = XC at *
  refine goA ?_
  refine evG ggA (Zab (Zaa rfl) rfl rfl cl) ?_
  refine goA ?_
  refine evG ggA (Zab (Zaa rfl) rfl rfl cc) ?_
  refine goA ?_
  refine evG ggA (Zbf (Zaa rfl) rfl (Za4 rfl) rfl rfl hn) ?_
  refine goA ?_
  refine T.loop (fun N s1 => ∃ i : Nat, N = n - i ∧ i ≤ n ∧ s1 = mkS [(11, .own 300 n), (23, .v (.sl XC)), (140, .own 300 n), (141, .v (iV n)), (142, .v (iV i))] [(300, .lst 7 54 (PC2 K (fun j => C.getD j 0) i))] 156 true) n
   (s' := mkS [(11, .own 300 n), (23, .v (.sl XC)), (140, .own 300 n), (141, .v (iV n)), (142, .v (iV ((0 : Nat) : Int)))] [(300, .lst 7 54 P0)] 156 true) (by exact entA) ⟨0, rfl, Nat.zero_le _, by rw [hf0]⟩ ?_
  rintro _ _ ⟨i, rfl, hi, rfl⟩
  have hil : (PC2 K (fun j => C.getD j 0) i).length = n := by rw [hfl i, hKn]
  by_cases hlt : i < n
  ·have d1 : decide ((i : Int) < (n : Int)) = true := decide_eq_true (by omega)
   have hg := hfa i i (by omega)
   rw [if_neg (by omega)] at hg
   have hset := hfs i
   have hx := hXC i hlt
   have hfin : ∃ i' : Nat, n - (i + 1) = n - i' ∧ i' ≤ n ∧ mkS [(11, .own 300 n), (23, .v (.sl XC)), (140, .own 300 n), (141, .v (iV n)), (142, .v (iV ((i : Int) + 1)))] [(300, .lst 7 54 (PC2 K (fun j => C.getD j 0) (i + 1)))] 156 true = mkS [(11, .own 300 n), (23, .v (.sl XC)), (140, .own 300 n), (141, .v (iV n)), (142, .v (iV i'))] [(300, .lst 7 54 (PC2 K (fun j => C.getD j 0) i'))] 156 true := ⟨i + 1, rfl, hlt, rfl⟩
   generalize PC2 K (fun j => C.getD j 0) (i + 1) = P2 at *
   generalize PC2 K (fun j => C.getD j 0) i = P1 at *
   generalize K.getD i (0, 0, 0) = κ at *
   generalize C.getD i 0 = c at *
   obtain ⟨κ1, κ2, κ3⟩ := κ
   clear hf0 hfn hfl hfa hfs hXC cn cp cr cl cc ct
   refine goA ?_
   refine evG ggA (Zad (Zaa rfl) (Zac rfl) rfl rfl (by omega) hx rfl) ?_
   refine goA ?_
   refine evG ggA (Zaf (Zaa rfl) (Zac rfl) rfl rfl hil rfl (by omega) (by omega)) ?_
   rw [show ((i : Nat) : Int).toNat = i by omega]
   refine evG ggA (Zgf (Zaa rfl) (Zch rfl) rfl) ?_
   refine evG ggA (Ze8 (cs := [iV κ1, iV κ2, iV κ3, .p (.bool (qe (keyQ (κ1, κ2, κ3) c)).g), .sl (qe (keyQ (κ1, κ2, κ3) c)).d, .p (.bool (qe (keyQ (κ1, κ2, κ3) c)).g'), .sl (qe (keyQ (κ1, κ2, κ3) c)).d']) rfl (Zbj rfl) rfl rfl hil hg rfl rfl (fun l h => by cases h) rfl rfl (by decide) rfl) ?_
   rw [show (P1.set i (.agg [iV κ1, iV κ2, iV κ3, .p (.bool (qe (keyQ (κ1, κ2, κ3) c)).g), .sl (qe (keyQ (κ1, κ2, κ3) c)).d, .p (.bool (qe (keyQ (κ1, κ2, κ3) c)).g'), .sl (qe (keyQ (κ1, κ2, κ3) c)).d'])) = P2 from hset]
   refine goA ?_
   exact Zae (k := n - (i + 1)) (s' := mkS [(11, .own 300 n), (23, .v (.sl XC)), (140, .own 300 n), (141, .v (iV n)), (142, .v (iV ((i : Int) + 1)))] [(300, .lst 7 54 P2)] 156 true) (by omega) (by exact entA) hfin
  ·obtain rfl : i = n := by omega
   have d1 : decide ((i : Int) < (i : Int)) = false := decide_eq_false (by omega)
   rw [hfn] at hil ⊢
   generalize PL (kbas K fun j => C.getD j 0) = P2 at *
   clear hf0 hfn hfl hfa hfs hXC cn cp cr cl cc
   refine r1A ?_
   first
    | refine T.condF rfl (by assumption) ?_
    | (refine T.seq ?_; refine T.condF rfl (by assumption) ?_)
   refine T.exit ?_
   refine osA ?_
   refine T.weak (s' := mkS [(11, .v (.sl P2))] [] 156 true) (by exact entA) ?_
   refine goA ?_
   refine evG ggA (Zab (Zaa rfl) rfl rfl ct) ?_
   refine goA ?_
   exact rfl
 ·have d1 : decide ((A.length : Int) < (n : Int)) = true := decide_eq_true (by have h := hlA; simp only [List.length_cons] at h; omega)
  obtain ⟨cx1, cx2⟩ := cx κ (by rw [hAL]; simp)
  have hg := PK_at hAL
  rw [show A.length = ((A.length : Nat) : Int).toNat by omega] at hg
  have hAL2 : K = (A ++ [κ]) ++ L := by rw [hAL]; simp
  have hnx : ((A.length : Nat) : Int) + 1 = ((A ++ [κ]).length : Nat) := by simp
  have hfin : ∃ (A' B' : List Ky), K = A' ++ B' ∧ L.length = B'.length ∧ mkS [(3, .ptr 3 0), (11, .own 300 n), (15, .v (iV m)), (16, .own 301 (A.length + 1)), (94, .own 300 n), (95, .v (iV n)), (96, .v (iV ((A.length : Int) + 1)))] [(3, .var [.v (iV s), .v (.sl es)]), (300, .lst 7 54 (PK K)), (301, .lst 1 22 ((A.map fun κ => rowA (rk κ)) ++ [rowA (rk κ)]))] 156 true = mkS [(3, .ptr 3 0), (11, .own 300 n), (15, .v (iV m)), (16, .own 301 A'.length), (94, .own 300 n), (95, .v (iV n)), (96, .v (iV A'.length))] [(3, .var [.v (iV s), .v (.sl es)]), (300, .lst 7 54 (PK K)), (301, .lst 1 22 (A'.map fun κ => rowA (rk κ)))] 156 true := ⟨A ++ [κ], L, hAL2, rfl, by rw [hnx, List.map_append]; simp⟩
  have hlm : (A.map fun κ => rowA (rk κ)).length = A.length := List.length_map ..
  have hlB : L.length < (κ :: L).length := by simp
  have hAb : A.length + 1 ≤ 100000 := by have h := hlA; simp only [List.length_cons] at h; omega
  have hAn : (A.length : Int) < n := by have h := hlA; simp only [List.length_cons] at h; omega
  generalize A.map (fun κ => rowA (rk κ)) = RA at *
  generalize A.length = a at *
  generalize PK K = PP at *
  generalize hys : ys κ = y at *
  obtain ⟨y1, y2⟩ := y
  have cx2 : PC Tryz.prog 26 [serA y1 y2, iV m] (rowA (rk κ)) := cx2
  generalize rk κ = rr at *
  clear cx hAL hAL2 hnx cn cp cr cl cc ct hlA hys
  refine goA ?_
  refine evG ggA (Zaf (Zaa rfl) (Zac rfl) rfl rfl hn rfl (by omega) (by omega)) ?_
  refine evG ggA (Zah (Zaa rfl) (Zau rfl) rfl rfl hn hg) ?_
  refine goA ?_
  refine evG ggA (Za3 (Zaa rfl) (Zak rfl) rfl rfl rfl rfl (Zek rfl rfl) (Nat.le_of_ble_eq_true rfl)) ?_
  refine goA ?_
  refine evG ggA (Zab (Zaa rfl) rfl rfl cx1) ?_
  refine goA ?_
  refine evG ggA (Zab (Zaa rfl) rfl rfl cx2) ?_
  refine goA ?_
  refine evG ggA (Za3 (Zaa rfl) (Zak rfl) rfl rfl rfl rfl (Zek rfl rfl) (Nat.le_of_ble_eq_true rfl)) ?_
  refine evG ggA (Zfy (a := rowA rr) (Zaa rfl) (Zak rfl) rfl rfl hlm rfl rfl (by decide) rfl (by omega) (Nat.le_of_ble_eq_true rfl) rfl) ?_
  refine goA ?_
  exact Zae (k := L.length) (s' := mkS [(3, .ptr 3 0), (11, .own 300 n), (15, .v (iV m)), (16, .own 301 (a + 1)), (94, .own 300 n), (95, .v (iV n)), (96, .v (iV ((a : Int) + 1)))] [(3, .var [.v (iV s), .v (.sl es)]), (300, .lst 7 54 PP), (301, .lst 1 22 (RA ++ [rowA rr]))] 156 true) hlB (by exact entA) hfin
end Ab
namespace Ab
open Go Go.RowKit Go.Proofs Hp
set_option maxRecDepth 100000
theorem su_ht {f : Nat → Rat} {K : Nat} : ∀ n, (∀ i, i < n → Ht (f i) K) → Ht (su f n) (1 + n * (K + 1))
  | 0, _ => (ht0 (by decide) : Ht 0 1).mono (by omega)
  | n + 1, h => by
    have ih := su_ht n fun i hi => h i (by omega)
    have := Ze2 ih (h n (by omega))
    exact this.mono (by rw [Nat.add_mul]; omega)
def rkW (κ : Ky) : List Rat := (lE 20 (qK κ)).map fun (z : Int) => (z : Rat)
theorem lE_len (n : Nat) (l : List Nat) : (lE n l).length = n := by
 cases l with
 | nil => show ((List.range n).map _).length = n; simp
 | cons k l => show (mulZ n _ _).length = n; unfold mulZ; simp
theorem rk_tk (κ : Ky) : rkW κ = tk (fun j => xP j κ) 20 := by
 refine List.ext_getElem? fun j => ?_
 unfold rkW tk
 rw [List.getElem?_map, List.getElem?_map]
 by_cases hj : j < 20
 ·have h1 : xP j κ = ((zE (qK κ) j : Int) : Rat) := qE_Z _ (qK_all _) ..
  have h2 := lE_get 20 (qK κ) j hj
  have hl := lE_len 20 (qK κ)
  rw [List.getElem?_range hj, List.getElem?_eq_getElem (by omega)]
  rw [List.getD_eq_getElem?_getD, List.getElem?_eq_getElem (by omega)] at h2
  have h2 : (lE 20 (qK κ))[j] = zE (qK κ) j := h2
  show some (((lE 20 (qK κ))[j] : Int) : Rat) = some (xP j κ)
  rw [h2, h1]
 ·rw [List.getElem?_eq_none (by rw [lE_len]; omega), List.getElem?_eq_none (by simp; omega)]
  rfl
theorem key_mem {w d : Nat} {κ : Ky} (h : κ ∈ Zbc w d) : 0 ≤ κ.1 ∧ 0 ≤ κ.2.1 ∧ 0 ≤ κ.2.2 ∧ 2 * κ.1 + 4 * κ.2.1 + 6 * κ.2.2 = w := by
 unfold Zbc at h
 obtain ⟨i, hi, h⟩ := List.mem_flatMap.1 h
 split at h
 ·obtain ⟨k, hk, h⟩ := List.mem_flatMap.1 h
  split at h
  ·rename_i h1 h2
   rw [List.mem_singleton] at h
   subst h
   have := Nat.div_add_mod (w - 2 * i - 4 * k) 6
   simp only
   omega
  ·cases h
 ·cases h
theorem key_np {w d : Nat} {κ : Ky} (h : κ ∈ Zbc w d) (hw : w ≤ 16) : NP [keyQ κ 1] 1 1 16 := by
 obtain ⟨h1, h2, h3, h4⟩ := key_mem h
 refine ⟨List.pairwise_singleton .., fun t ht => ?_, Nat.le_refl _, fun t ht => ?_⟩
 ·rw [List.mem_singleton.1 ht]
  exact (show Ht (1 : Rat) 1 from ⟨by decide, by decide⟩)
 ·rw [List.mem_singleton.1 ht]
  refine ⟨⟨h1, h2, h3⟩, ?_⟩
  show 2 * κ.1 + 4 * κ.2.1 + 6 * κ.2.2 ≤ 16
  omega
theorem key_lf (κ : Ky) (n : Nat) : qlf (xP n) [keyQ κ 1] = xP n κ := by
 show 1 * xP n κ + 0 = _
 rw [Rat.one_mul, Rat.add_zero]
theorem list_fs {y : Sr} {f : Nat → Rat} {K m : Nat} (h : FS y m f K) (hK : 1 ≤ K ∧ K ≤ 268435456) (hm : m ≤ 1000) : PC Tryz.prog 26 [serA y.1 (y.2.map encQ), iV m] (rowA (tk f m)) := by
 have c := list_p (s := y.1) (es := y.2.map encQ) (l := y.2) (n := m) (Zct h.h) hK (by rw [List.length_map]; exact h.v) (by rw [List.length_map]; exact h.p) hm
 have e : ((List.range m).map fun (i : Nat) => encQ (cf y.1 y.2 (i : Int))) = (tk f m).map encQ := by
  unfold tk
  rw [List.map_map]
  exact List.map_congr_left fun i hi => by rw [h.f i (List.mem_range.1 hi)]; rfl
 rw [e] at c
 exact c
theorem co_ht {P : List QT} {K : Nat} (hK : 1 ≤ K) (hq : QN P) (h : ∀ t, t ∈ P → Ht t.q K) (κ : Ky) : Ht (qco P κ) K := by
 by_cases hx : ∃ t, t ∈ P ∧ t.k = κ
 ·obtain ⟨t, ht, rfl⟩ := hx
  rw [qn_co hq t ht]
  exact h t ht
 ·rw [Zcz fun t ht hk => hx ⟨t, ht, hk⟩]
  exact ht0 hK
theorem lc2_row {h d : Nat} {P : List QT} (H : InW h d P) {n : Nat} (hn : (Zbc (2 * h) d).length = n) : lc2 (cf0 h d P) n (fun i => ((Zcs (2 * h) d).getD i [], zer n)) 20 n = (tk (fun j => qlf (xP j) P) 20, zer n) := by
 unfold lc2 zer
 refine congr (congrArg Prod.mk (Zbw fun j hj => ?_)) (Zbw fun j hj => ?_)
 ·rw [H.vec hj, hn]
 ·rw [Zay (g := fun _ => 0) fun i _ => by rw [Zco hj, Rat.mul_zero]]
  exact Zcr fun _ _ => rfl
theorem row_len {w d i : Nat} (hi : i < (Zbc w d).length) : ((Zcs w d).getD i []).length = 20 := by
 unfold Zcs
 rw [List.getD_eq_getElem?_getD, List.getElem?_map, List.getElem?_eq_getElem hi]
 show ((lE 20 _).map _).length = 20
 rw [List.length_map, lE_len]
theorem small_ht {l : List Rat} (h : Zcf l = true) : ∀ q, q ∈ l → Ht q 4 := htB_all h
theorem cor_hts {h d : Nat} {P : List QT} (H : InW h d P) (hq : QN P) (hP : ∀ t, t ∈ P → Ht t.q 33) {n : Nat} (hn : (Zbc (2 * h) d).length = n) (hn2 : n ≤ 100) (j : Nat) (hj : j ≤ n) :
  (∀ q, q ∈ (cor ((Zdf (2 * h) d).take j) (tk (fun j => qlf (xP j) P) 20, zer n)).1 → Ht q 10000) ∧ ∀ q, q ∈ (cor ((Zdf (2 * h) d).take j) (tk (fun j => qlf (xP j) P) 20, zer n)).2 → Ht q 10000 := by
 have F := form_ok H.hh H.hd
 have hl : (Zdf (2 * h) d).length = n := by
  rw [F.l]
  unfold Zcs
  rw [List.length_map, hn]
 rw [← lc2_row H hn, cor_lin _ _ (fun i hi => ⟨row_len (by omega), by unfold zer; rw [tk_len]⟩) fun s hs => by
  have := (F.k s (List.mem_of_mem_take hs)).1
  rw [hn] at this
  exact this]
 have hc : ∀ i, Ht (cf0 h d P i) 33 := fun i => co_ht (by decide) hq hP _
 have hb : 1 + n * (33 + 4 + 1) ≤ 10000 := by omega
 have key : ∀ {l : List Rat}, Zcf l = true → ∀ i, Ht (l.getD i 0) 4 := fun {l} hs i => by
  rw [List.getD_eq_getElem?_getD]
  cases hg : l[i]? with
  | none => exact ht0 (by decide)
  | some q => exact small_ht hs q (List.mem_of_getElem? hg)
 have hsm : ∀ i, i < n → Zcf (cor ((Zdf (2 * h) d).take j) ((Zcs (2 * h) d).getD i [], zer n)).1 = true ∧ Zcf (cor ((Zdf (2 * h) d).take j) ((Zcs (2 * h) d).getD i [], zer n)).2 = true := fun i hi => by
  have := cor_small H.hh H.hd (i := i) (by omega) j (by omega)
  rw [hn] at this
  exact this
 unfold lc2
 refine ⟨ht_tk fun x _ => (su_ht n fun i hi => Zc1 (hc i) (key (hsm i hi).1 x) (by decide)).mono hb, ht_tk fun x _ => (su_ht n fun i hi => Zc1 (hc i) (key (hsm i hi).2 x) (by decide)).mono hb⟩
theorem kbas_mem {K : List Ky} {f : Nat → Rat} {t : QT} (h : t ∈ kbas K f) : ∃ i, i < K.length ∧ t = keyQ (K.getD i (0, 0, 0)) (f i) := by
 unfold kbas at h
 obtain ⟨i, hi, rfl⟩ := List.mem_map.1 h
 exact ⟨i, List.mem_range.1 hi, rfl⟩
theorem kbas_congr {K : List Ky} {f g : Nat → Rat} (h : ∀ i, i < K.length → f i = g i) : kbas K f = kbas K g := by
 unfold kbas
 exact List.map_congr_left fun i hi => by rw [h i (List.mem_range.1 hi)]
theorem keys_len {h d : Nat} (hh : h ≤ 6) (hd : d ≤ 6) : (Zbc (2 * h) d).length ≤ 91 := by
 have h1 := keysP_len (2 * h) (d + 1)
 rw [keysP_W] at h1
 exact Nat.le_trans h1 (Nat.mul_le_mul (show d + 1 ≤ 7 by omega) (show 2 * h + 1 ≤ 13 by omega))
theorem fit_ret {P : List QT} {h d K : Nat} (H : InW h d P) (hq : QN P) (hP : ∀ t, t ∈ P → Ht t.q 33) {y : Sr} (hy : FS y 20 (fun n => qlf (xP n) P) K) (hp : y.1 + y.2.length = 20) (hK : 1 ≤ K ∧ K ≤ 268435456) :
  PC Tryz.prog 9 [serA y.1 (y.2.map encQ), iV (2 * h : Nat), iV d] (.tup [.sl (PL P), iV 0]) := by
 obtain ⟨cn, hz, hzp⟩ := hy.nor hK
 rw [hp] at hzp
 have F := form_ok H.hh H.hd
 have hkl := keys_len H.hh H.hd
 have hh := H.hh
 have hd := H.hd
 have hcrd := H.crd (fun i hi => row_len hi) fun s hs => (F.k s hs).1
 have hhts := cor_hts H hq hP rfl (by omega)
 have hkb := kbas_nf H hq
 have hRl : (Zcs (2 * h) d).length = (Zbc (2 * h) d).length := by unfold Zcs; rw [List.length_map]
 have hFl : (Zdf (2 * h) d).length = (Zbc (2 * h) d).length := by rw [F.l, hRl]
 have sK : ∀ {l : List Rat}, Zcf l = true → ∀ q, q ∈ l → Ht q 10000 := fun hs q hm => (small_ht hs q hm).mono (by decide)
 have ks : ∀ s, s ∈ Zdf (2 * h) d → (∀ q, q ∈ s.v → Ht q 10000) ∧ ∀ q, q ∈ s.c → Ht q 10000 := fun s hs => by
  have := (F.k s hs).2
  unfold smallS at this
  rw [Bool.and_eq_true] at this
  exact ⟨sK this.1, sK this.2⟩
 have RO : RedOK 20 (Zbc (2 * h) d).length 10000 (Zcs (2 * h) d) (Zdf (2 * h) d) true := {
  r := fun i hi => row_len hi
  nr := hRl
  l := by omega
  e := fun i hi => F.e i (by omega)
  t := fun _ => hFl
  f := fun e => by cases e
  s := fun i hi _ j hj => by
   obtain ⟨h1, h2⟩ := F.s i (by omega) j hj
   exact ⟨sK h1, sK h2⟩
  k := fun s hs => ⟨(F.k s hs).1, ks s hs⟩ }
 have cr := reduce_p RO (by decide) (by decide) (by omega)
 have cr : PC Tryz.prog 27 [.sl ((Zbc (2 * h) d).map fun κ => rowA (rkW κ))] (.tup [.sl ((Zdf (2 * h) d).map stA), bV true]) := by
  have e : (Zcs (2 * h) d).map rowA = (Zbc (2 * h) d).map fun κ => rowA (rkW κ) := by
   unfold Zcs
   rw [List.map_map]
   rfl
  rw [← e]
  exact cr
 have cc := coords_p (L := Zdf (2 * h) d) (b := tk (fun j => qlf (xP j) P) 20) (K := 10000) (m := 20) (n := (Zbc (2 * h) d).length) (tk_len ..) hFl (fun s hs => (F.k s hs).1) ks hhts (by rw [hcrd]) (by decide) (by decide) (by omega)
 rw [hcrd] at cc
 have cc : PC Tryz.prog 28 [.sl ((Zdf (2 * h) d).map stA), .sl ((tk (fun j => qlf (xP j) P) 20).map encQ)] (.tup [.sl ((tk (cf0 h d P) (Zbc (2 * h) d).length).map encQ), bV true]) := cc
 have hkc : (kbas (Zbc (2 * h) d) fun i => (tk (cf0 h d P) (Zbc (2 * h) d).length).getD i 0) = kbas (Zbc (2 * h) d) (cf0 h d P) := kbas_congr fun i hi => Zco hi
 have ct := Zge (sort_p 100 (by decide)) (L := kbas (Zbc (2 * h) d) (cf0 h d P)) (K := 33) (by unfold kbas; simp; omega) (by decide) (fun t ht => by
  obtain ⟨i, hi, rfl⟩ := kbas_mem ht
  have hm : (Zbc (2 * h) d).getD i (0, 0, 0) ∈ Zbc (2 * h) d := by
   rw [List.getD_eq_getElem?_getD, List.getElem?_eq_getElem hi]
   exact List.getElem_mem hi
  have hv := (key_np hm (by omega)).vt (by decide) (keyQ ((Zbc (2 * h) d).getD i (0, 0, 0)) 1) (List.mem_singleton.2 rfl)
  exact QE.vt.sm hv) (fun t ht => by
  obtain ⟨i, hi, rfl⟩ := kbas_mem ht
  exact co_ht (by decide) hq hP _) (by decide) (by decide)
 rw [hkb] at ct
 rw [← hkc] at ct
 have ip : ∀ {m n : Nat}, (∀ q, q ∈ (tdy y.1 y.2).2 → Ht q K) := fun {m n} => hz.h
 have hir : InR (tdy y.1 y.2).1 ((tdy y.1 y.2).2.map encQ).length := inR_enc hz.v
 have cp := sprec_p hir
 rw [List.length_map, if_pos hz.v, if_pos hz.v, hzp] at cp
 have cl := list_fs hz hK (by decide)
 exact fit_core cn cp (by omega) (by omega) (m := 20) rfl (rk := rkW) (ys := fun κ => ((xS 20 (qnf [keyQ κ 1])).1, (xS 20 (qnf [keyQ κ 1])).2.map encQ)) (fun κ hκ => by
  have ex := (key_np hκ (by omega)).exp (P := 20) (by decide) (by decide) (by decide) (by decide)
  refine ⟨ex.c, ?_⟩
  have := list_fs ex.s (by decide) (by decide)
  have e : tk (fun n => qlf (xP n) [keyQ κ 1]) 20 = rkW κ := by rw [rk_tk]; exact Zbw fun j _ => key_lf κ j
  rw [e] at this
  exact this) cr (by
  have := hz.b
  rw [decide_eq_false (show ¬ (tdy y.1 y.2).1 < 0 by omega), Bool.and_false]) cl cc (tk_len ..) ct
end Ab
namespace Ab
open Go Go.RowKit Go.Proofs Hp
set_option maxRecDepth 100000
def dpQ (U : List QE) : Int := U.foldl (fun m e => max m e.a) 0
set_option maxHeartbeats 8000000 in
theorem qH_ok {X : List AV} {U : List QE} (hU : U.length ≤ 1000000) (hv : PC Tryz.prog 38 [.sl X] (bV true)) (ht : PC Tryz.prog 29 [.sl X] (.sl (U.map QE.av))) : PC Tryz.prog 14 [.sl X] (.tup [iV (dpQ U), iV 0]) := by
 have hl := Zdr U
 obtain ⟨Z, hZ⟩ : ∃ Z, Z = U.map QE.av := ⟨_, rfl⟩
 rw [← hZ] at hl ht
 refine Zas true Tryz.func14 rfl rfl rfl (Nat.le_of_ble_eq_true rfl) Zao.tmp Zao.tmp ?_
 refine goA ?_
 refine evG ggA (Zab (Zaa rfl) rfl rfl hv) ?_
 refine goA ?_
 refine evG ggA (Zab (Zaa rfl) rfl rfl ht) ?_
 refine goA ?_
 refine T.loop (fun N s1 => ∃ A B : List QE, U = A ++ B ∧ N = B.length ∧ s1 = mkS [(4, .v (iV (dpQ A))), (11, .v (.sl Z)), (12, .v (iV (Z.length : Nat))), (13, .v (iV A.length))] [] 23 true) U.length
  (s' := mkS [(4, .v (iV 0)), (11, .v (.sl Z)), (12, .v (iV (Z.length : Nat))), (13, .v (iV ((0 : Nat) : Int)))] [] 23 true) (by exact entA) ⟨[], U, rfl, rfl, rfl⟩ ?_
 rintro _ _ ⟨A, B, hAB, rfl, rfl⟩
 have hlA : U.length = A.length + B.length := by rw [hAB]; simp
 rcases B with _ | ⟨e, B⟩
 ·have b1 : decide ((A.length : Int) < (Z.length : Nat)) = false := decide_eq_false (by simp at hlA; omega)
  rw [List.append_nil] at hAB
  subst hAB
  refine goA ?_
  exact rfl
 have b1 : decide ((A.length : Int) < (Z.length : Nat)) = true := decide_eq_true (by simp at hlA; omega)
 have hget : Z[((A.length : Nat) : Int).toNat]? = some e.av := by rw [hZ, hAB]; exact Zc3 (by omega)
 have ht : max (dpQ A) e.a = dpQ (A ++ [e]) := by unfold dpQ; rw [List.foldl_append]; rfl
 have hnx : ((A.length : Nat) : Int) + 1 = ((A ++ [e]).length : Nat) := by simp
 have hAB2 : U = (A ++ [e]) ++ B := by rw [hAB]; simp
 have hlB : B.length < (e :: B).length := by simp
 clear hAB
 obtain ⟨a, b, c, g, d, g', d', q⟩ := e
 simp only [List.length_cons] at hlA ht
 have hget : Z[((A.length : Nat) : Int).toNat]? = some (.agg [iV a, iV b, iV c, .p (.bool g), .sl d, .p (.bool g'), .sl d']) := hget
 refine goA ?_
 refine evG ggA (Zad (Zaa rfl) (Zac rfl) rfl rfl (by omega) hget rfl) ?_
 refine goA ?_
 rw [ht]
 refine goA ?_
 rw [hnx]
 exact Zae (k := B.length) (s' := mkS [(4, .v (iV (dpQ (A ++ [⟨a, b, c, g, d, g', d', q⟩])))), (11, .v (.sl Z)), (12, .v (iV (Z.length : Nat))), (13, .v (iV ((A ++ [(⟨a, b, c, g, d, g', d', q⟩ : QE)]).length : Nat)))] [] 23 true) hlB (by exact entA) ⟨A ++ [⟨a, b, c, g, d, g', d', q⟩], B, hAB2, rfl, rfl⟩
theorem dp_fold : ∀ (L : List QE) (m : Int), m ≤ L.foldl (fun m e => max m e.a) m ∧ ∀ e, e ∈ L → e.a ≤ L.foldl (fun m e => max m e.a) m
  | [], m => ⟨Int.le_refl _, fun e he => by cases he⟩
  | e :: L, m => by
    obtain ⟨h1, h2⟩ := dp_fold L (max m e.a)
    refine ⟨by show m ≤ L.foldl _ (max m e.a); omega, fun f hf => ?_⟩
    show f.a ≤ L.foldl _ (max m e.a)
    rcases List.mem_cons.1 hf with rfl | hf
    · omega
    · exact h2 f hf
theorem dp_zero {L : List QE} (h : dpQ L = 0) (h0 : ∀ e, e ∈ L → 0 ≤ e.a) : ∀ e, e ∈ L → e.a = 0 := fun e he => by
 have h1 := (dp_fold L 0).2 e he
 have h2 := h0 e he
 have h3 : L.foldl (fun m e => max m e.a) 0 = 0 := h
 rw [h3] at h1
 omega
theorem dp_all : ∀ (L : List QE), (∀ e, e ∈ L → e.a = 0) → L.foldl (fun m e => max m e.a) 0 = 0
  | [], _ => rfl
  | e :: L, h => by
    have h1 := h e (List.mem_cons_self ..)
    show L.foldl _ (max 0 e.a) = 0
    rw [h1]
    exact dp_all L fun f hf => h f (List.mem_cons_of_mem _ hf)
theorem pur_w {P : List QT} {k : Int} (h0 : 0 < P.length) (hp : purQ (P.map qe) = true) (hk : topQ (P.map qe) = k) (hn : ∀ t, t ∈ P → Nn t) : ∀ t, t ∈ P → wtK t.k = k := by
 rcases P with _ | ⟨u, P⟩
 ·simp at h0
 have hu := hn u (List.mem_cons_self ..)
 have ht : topQ ((u :: P).map qe) = (qe u).w := pur_top hp (by unfold Nn at hu; unfold QE.w; simp only [qe]; omega)
 have ha : ∀ f, f ∈ (u :: P).map qe → f.w = (qe u).w := of_decide_eq_true hp
 intro t hm
 rw [← hk, ht, ← ha (qe t) (List.mem_map.2 ⟨t, hm, rfl⟩)]
 rfl
theorem wt_ok {U : List QE} (h : Vd U) {m : Int} (hw : ∀ e, e ∈ U → e.w ≤ m) : ∃ k e : Int, PC Tryz.prog 13 [.sl (U.map QE.av)] (.tup [iV k, iV e]) ∧ (e = 0 → 0 < (qnf (U.map QE.t)).length ∧ purQ ((qnf (U.map QE.t)).map qe) = true ∧ topQ ((qnf (U.map QE.t)).map qe) = k ∧ 0 ≤ k ∧ k ≤ m) := by
  have hz := h.nz
  have np := h.np hw
  have hv := h.valid
  have t1 := h.tidy
  clear h
  generalize qnf (U.map QE.t) = P at *
  have pl := hz.l
  cases P with
  | nil => exact ⟨0, 5, qW_zero hv t1 rfl, fun e => by cases e⟩
  | cons t P =>
    have p1 := qpure_p (U := (t :: P).map qe) (by rw [List.length_map]; omega) hz.sm
    obtain ⟨a1, a2⟩ := np.v t (by simp)
    have hw0 : 0 ≤ (qe t).w := by
      unfold Nn at a1
      unfold QE.w
      simp only [qe]
      omega
    have w1 := qW_ok hv t1 (by rw [Zft]; simp) p1
    cases hp : purQ ((t :: P).map qe) with
    | true =>
      rw [hp, if_pos rfl, if_pos rfl, if_pos rfl] at w1
      have ht : topQ ((t :: P).map qe) = (qe t).w := pur_top hp hw0
      exact ⟨_, 0, w1, fun _ => ⟨by simp, rfl, rfl, by rw [ht]; exact hw0, by rw [ht]; exact a2⟩⟩
    | false =>
      rw [hp, if_neg (by decide), if_neg (by decide)] at w1
      exact ⟨_, 20, w1, fun e => by cases e⟩
theorem NP.nn {R : List QT} {H N : Nat} {W : Int} (h : NP R H N W) : ∀ t, t ∈ R → Nn t := fun t ht => (h.v t ht).1
end Ab
namespace Ab
open Go Go.RowKit Go.Proofs Hp
set_option maxRecDepth 100000
theorem lret_no {X : List AV} (hx : PC Tryz.prog 12 [.sl X, iV 12] (bV false)) : PC Tryz.prog 4 [.sl X] (bV true) := by
 have aw := q38awake_p
 refine Zam true Tryz.func4 rfl rfl rfl (Nat.le_of_ble_eq_true rfl) Zao.tmp ?_
 refine goA ?_
 refine evG ggA (Zab (Zaa rfl) rfl rfl hx) ?_
 refine goA ?_
 refine evG ggA (Zab (Zaa rfl) rfl rfl aw) ?_
 refine goA ?_
 exact rfl
theorem lret_err {X : List AV} {k e : Int} (hx : PC Tryz.prog 12 [.sl X, iV 12] (bV true)) (w1 : PC Tryz.prog 13 [.sl X] (.tup [iV k, iV e])) (he : e ≠ 0) : PC Tryz.prog 4 [.sl X] (bV true) := by
 have aw := q38awake_p
 have b1 : (e != 0) = true := by simp [he]
 refine Zam true Tryz.func4 rfl rfl rfl (Nat.le_of_ble_eq_true rfl) Zao.tmp ?_
 refine goA ?_
 refine evG ggA (Zab (Zaa rfl) rfl rfl hx) ?_
 refine goA ?_
 refine evG ggA (Zab (Zaa rfl) rfl rfl w1) ?_
 refine goA ?_
 refine evG ggA (Zab (Zaa rfl) rfl rfl aw) ?_
 refine goA ?_
 exact rfl
section
variable {X T0 R es : List AV} {k d c s : Int} (hx : PC Tryz.prog 12 [.sl X, iV 12] (bV true)) (w1 : PC Tryz.prog 13 [.sl X] (.tup [iV k, iV 0])) (d1 : PC Tryz.prog 14 [.sl X] (.tup [iV d, iV 0]))
 (ex : PC Tryz.prog 15 [.sl X, iV 20] (.tup [serA s es, iV 0])) (ft : PC Tryz.prog 9 [serA s es, iV k, iV d] (.tup [.sl T0, iV 0])) (nm : PC Tryz.prog 16 [.sl X] (.tup [.sl T0, iV 0]))
 (sr : PC Tryz.prog 17 [.sl X] (.tup [.sl R, iV 0])) (d2 : PC Tryz.prog 14 [.sl R] (.tup [iV c, iV 0])) (sm : PC Tryz.prog 18 [.sl T0, .sl T0] (bV true))
include hx w1 d1 ex ft nm sr d2 sm
set_option maxHeartbeats 8000000 in
theorem lret_ok (hd : d > 0 ∨ c = 0) : PC Tryz.prog 4 [.sl X] (bV true) := by
 have aw := q38awake_p
 by_cases h0 : d > 0
 ·have b1 : decide (d > 0) = true := decide_eq_true h0
  refine Zam true Tryz.func4 rfl rfl rfl (Nat.le_of_ble_eq_true rfl) Zao.tmp ?_
  refine goA ?_
  refine evG ggA (Zab (Zaa rfl) rfl rfl hx) ?_
  refine goA ?_
  refine evG ggA (Zab (Zaa rfl) rfl rfl w1) ?_
  refine goA ?_
  refine evG ggA (Zab (Zaa rfl) rfl rfl d1) ?_
  refine goA ?_
  refine evG ggA (Zab (Zaa rfl) rfl rfl ex) ?_
  refine goA ?_
  refine evG ggA (Zab (Zaa rfl) rfl rfl ft) ?_
  refine goA ?_
  refine evG ggA (Zab (Zaa rfl) rfl rfl nm) ?_
  refine goA ?_
  refine evG ggA (Zab (Zaa rfl) rfl rfl sr) ?_
  refine goA ?_
  refine evG ggA (Zab (Zaa rfl) rfl rfl d2) ?_
  refine goA ?_
  refine evG ggA (Zab (Zaa rfl) rfl rfl sm) ?_
  refine goA ?_
  refine evG ggA (Zab (Zaa rfl) rfl rfl aw) ?_
  refine goA ?_
  exact rfl
 ·have b1 : decide (d > 0) = false := decide_eq_false h0
  obtain rfl : c = 0 := by omega
  refine Zam true Tryz.func4 rfl rfl rfl (Nat.le_of_ble_eq_true rfl) Zao.tmp ?_
  refine goA ?_
  refine evG ggA (Zab (Zaa rfl) rfl rfl hx) ?_
  refine goA ?_
  refine evG ggA (Zab (Zaa rfl) rfl rfl w1) ?_
  refine goA ?_
  refine evG ggA (Zab (Zaa rfl) rfl rfl d1) ?_
  refine goA ?_
  refine evG ggA (Zab (Zaa rfl) rfl rfl ex) ?_
  refine goA ?_
  refine evG ggA (Zab (Zaa rfl) rfl rfl ft) ?_
  refine goA ?_
  refine evG ggA (Zab (Zaa rfl) rfl rfl nm) ?_
  refine goA ?_
  refine evG ggA (Zab (Zaa rfl) rfl rfl sr) ?_
  refine goA ?_
  refine evG ggA (Zab (Zaa rfl) rfl rfl d2) ?_
  refine goA ?_
  refine evG ggA (Zab (Zaa rfl) rfl rfl sm) ?_
  refine goA ?_
  refine evG ggA (Zab (Zaa rfl) rfl rfl aw) ?_
  refine goA ?_
  exact rfl
end
theorem qN_ok {X R : List AV} (hv : PC Tryz.prog 38 [.sl X] (bV true)) (hd : PC Tryz.prog 29 [.sl X] (.sl R)) : PC Tryz.prog 16 [.sl X] (.tup [.sl R, iV 0]) := by
 refine Zas true Tryz.func16 rfl rfl rfl (Nat.le_of_ble_eq_true rfl) Zao.tmp Zao.tmp ?_
 refine goA ?_
 refine evG ggA (Zab (Zaa rfl) rfl rfl hv) ?_
 refine goA ?_
 refine evG ggA (Zab (Zaa rfl) rfl rfl hd) ?_
 refine goA ?_
 exact rfl
theorem dp_le {m : Int} : ∀ (L : List QE) (z : Int), z ≤ m → (∀ e, e ∈ L → e.a ≤ m) → L.foldl (fun m e => max m e.a) z ≤ m
  | [], z, h, _ => h
  | e :: L, z, h, h2 => by
    have := h2 e (List.mem_cons_self ..)
    exact dp_le L (max z e.a) (by omega) fun f hf => h2 f (List.mem_cons_of_mem _ hf)
theorem returns_core {U : List QE} (hU : Vd U) (uw : ∀ e, e ∈ U → e.w ≤ 12) (hx : PC Tryz.prog 12 [.sl (U.map QE.av), iV 12] (bV true)) : PC Tryz.prog 4 [.sl (U.map QE.av)] (bV true) := by
 obtain ⟨k, e, w1, hk⟩ := wt_ok hU uw
 by_cases he : e ≠ 0
 ·exact lret_err hx w1 he
 obtain rfl : e = 0 := by omega
 obtain ⟨p1, p2, p3, p4, p5⟩ := hk rfl
 have ea := hU.exp (P := 20) (by decide)
 have np := hU.np uw
 have hz := hU.nz
 have hv := hU.valid
 have t1 := hU.tidy
 have sr := hU.qser (fun e he => by have := uw e he; omega) p2 p3 (by omega) p1
 clear hU hk
 generalize qnf (U.map QE.t) = P at *
 have nP := np.nn
 have wP := pur_w p1 p2 p3 nP
 have pl := hz.l
 have d1 := qH_ok (U := P.map qe) (by rw [List.length_map]; omega) hv t1
 have ha : ∀ t, t ∈ P → 0 ≤ t.a ∧ t.a ≤ 6 := fun t ht => by
  have h1 := nP t ht
  have h2 := wP t ht
  unfold Nn at h1
  unfold wtK QT.k at h2
  simp only at h2
  omega
 have hf := dp_fold (P.map qe) 0
 have hl := dp_le (m := 6) (P.map qe) 0 (by decide) fun e he => by
  obtain ⟨t, ht, rfl⟩ := List.mem_map.1 he
  exact (ha t ht).2
 have hdp : dpQ (P.map qe) = (P.map qe).foldl (fun m e => max m e.a) 0 := rfl
 rw [← hdp] at hf hl
 obtain ⟨d, hd⟩ : ∃ d : Nat, dpQ (P.map qe) = d := ⟨(dpQ (P.map qe)).toNat, by omega⟩
 obtain ⟨h, hk2, H⟩ := in_w (d := d) (fun t ht => ⟨nP t ht, wP t ht⟩) ⟨p4, p5⟩ (by omega) (fun t ht => by
  have := hf.2 (qe t) (List.mem_map.2 ⟨t, ht, rfl⟩)
  rw [hd] at this
  exact this) p1
 have ft := fit_ret H hz.n hz.h ea.s ea.o.p (by decide)
 rw [show ((2 * h : Nat) : Int) = k by omega] at ft
 have d1' := d1
 rw [hd] at d1'
 have nm := qN_ok hv t1
 have nd := np.dv (by decide) (by decide)
 have hfr : Ht (((0 - k : Int) : Rat) / ((12 : Int) : Rat)) 2 := ht_frac (by omega) (by decide)
 have sd := serre_depth wP
 generalize ((0 - k : Int) : Rat) / ((12 : Int) : Rat) = f at *
 have n1 : NP [(⟨1, 0, 0, f⟩ : QT)] 2 1 2 := ⟨List.pairwise_singleton .., fun t ht => by rw [List.mem_singleton.1 ht]; exact hfr, by simp, fun t ht => by rw [List.mem_singleton.1 ht]; unfold Nn QE.w; simp [qe]⟩
 have nw := np.ml n1 (by decide)
 have ns := nd.sum nw (by decide) (by decide)
 have hv2 := ns.valid (by decide) (by decide)
 have ht2 := ns.tidy (by decide) (by decide) (by decide)
 rw [qnf_id (qnf_n _)] at ht2
 have hl2 := ns.l
 have d2 := qH_ok (U := (qnf (qnf (qdv P) ++ qnf (qml P [⟨1, 0, 0, f⟩]))).map qe) (by rw [List.length_map]; omega) hv2 ht2
 have sm := rsame38_p (K := 33) (l := P) (by omega) hz.h (by decide)
 refine lret_ok hx w1 d1' ea.c ft nm sr d2 sm ?_
 by_cases h0 : dpQ (P.map qe) = 0
 ·refine .inr (dp_all _ fun e he => ?_)
  obtain ⟨t, ht, rfl⟩ := List.mem_map.1 he
  exact sd (fun u hu => dp_zero h0 (fun e he => by obtain ⟨v, hv, rfl⟩ := List.mem_map.1 he; exact (ha v hv).1) (qe u) (List.mem_map.2 ⟨u, hu, rfl⟩)) t ht
 ·exact .inl (by omega)
theorem Zfe (s : List RTm) (o : QpOK s) : PC Tryz.prog 4 [.sl ((s.map tmQ).map QE.av)] (bV true) := by
  have hx := light_p (s.map tmQ) (m := 12) (by decide)
  have su := light_ok (m := 12) (U := s.map tmQ) fun _ hb e he => by
    have hbe := hb e he
    obtain ⟨t, ht, rfl⟩ := List.mem_map.1 he
    exact tmQ_ok (o t ht) hbe
  generalize s.map tmQ = U at *
  cases h1 : Zgb U 12 with
  | false => rw [h1] at hx; exact lret_no hx
  | true =>
    rw [h1] at hx
    exact returns_core (su h1).1 (su h1).2 hx
end Ab
