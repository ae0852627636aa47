/- Brackets of series, in the program and in the document: by the contracts of what they call. -/
import Derived.Test.YtgkhcpppdadicaaGreatDoorSeA
import Derived.Test.YtgkhcpppdadicaaGreatDoorQA1
set_option linter.all false
namespace Ab
open Go Go.RowKit Go.Proofs Hp
set_option maxRecDepth 100000
def bnQ (m : Int) : Nat → Rat
 | 0 => 1
 | i + 1 => bnQ m i * Rat.divInt (m - i) (i + 1)
def bnQE : Bool := (List.range 70).all fun a => (List.range 8).all fun i => decide (bnQ ((a : Int) - 1) i = ((bnG ((a : Int) - 1) i : Int) : Rat)) && decide ((bnG ((a : Int) - 1) i).natAbs ≤ 1000000000)
theorem bnQE_ok : bnQE = true := by decide +kernel
theorem bnQ_eq {m : Int} {i : Nat} (h0 : -1 ≤ m) (h1 : m ≤ 68) (hi : i < 8) : bnQ m i = ((bnG m i : Int) : Rat) ∧ (bnG m i).natAbs ≤ 1000000000 := by
 have h := List.all_eq_true.1 (List.all_eq_true.1 bnQE_ok (m + 1).toNat (List.mem_range.2 (by omega))) i (List.mem_range.2 hi)
 rw [show (((m + 1).toNat : Int)) - 1 = m by omega, Bool.and_eq_true] at h
 exact ⟨of_decide_eq_true h.1, of_decide_eq_true h.2⟩
abbrev zV : Blk := .var [.v (.p (.bool false)), .v (.p nilV), .v (.p (.bool false)), .v (.p nilV)]
def fcI (n r : Nat) (k l : Int) : Int := if r % 2 = 0 then bnG ((n : Int) + k - 1) (n - r) * bnG ((n : Int) + l - 1) r else -(bnG ((n : Int) + k - 1) (n - r) * bnG ((n : Int) + l - 1) r)
theorem fcI_le {m r : Nat} {k l : Int} (hm : m ≤ 6) (hr : r ≤ m) (hk : 0 ≤ k ∧ k ≤ 60) (hl : 0 ≤ l ∧ l ≤ 60) : (bnG ((m : Int) + k - 1) (m - r) * bnG ((m : Int) + l - 1) r).natAbs ≤ 1000000000000000000 ∧ (fcI m r k l).natAbs ≤ 1000000000000000000 := by
 have h1 := (bnQ_eq (m := (m : Int) + k - 1) (i := m - r) (by omega) (by omega) (by omega)).2
 have h2 := (bnQ_eq (m := (m : Int) + l - 1) (i := r) (by omega) (by omega) (by omega)).2
 have h : (bnG ((m : Int) + k - 1) (m - r) * bnG ((m : Int) + l - 1) r).natAbs ≤ 1000000000 * 1000000000 := by
  rw [Int.natAbs_mul]
  exact Nat.mul_le_mul h1 h2
 refine ⟨h, ?_⟩
 unfold fcI
 split
 ·exact h
 ·rw [Int.natAbs_neg]; exact h
theorem ht_big {z : Int} (h : z.natAbs ≤ 1000000000000000000) : Ht (z : Rat) 2 := by
 have e : pw 2 = 18446744073709551616 := by decide
 refine ⟨?_, ?_⟩
 ·rw [Rat.num_intCast, e]; omega
 ·rw [Rat.den_intCast, e]; decide
theorem T.drawE {dm : Bool} {P : Program} {l : List Oper} {s : AS} {id : Nat} {Q : Exit → AS → Prop} (hm : P.follows .mixedOrders = true) (h : EvX dm false P l.toArray l s (fun z => okE z l (Region.before l.toArray) = true ∧ Q .normal z)) : T dm P (.region id l.toArray true) s Q := T.draw2 hm h
abbrev sV (x : Int × List AV) : Blk := .var [.v (iV x.1), .v (.sl x.2)]
abbrev wV (s : Int) (es : List AV) (k : Int) : Blk := .var [.v (iV s), .v (.sl es), .v (iV k)]
abbrev wA (s : Int) (es : List AV) (k : Int) : AV := .agg [iV s, .sl es, iV k]
abbrev sv0 : Blk := .var [.v (iV 0), .v (.p nilV)]
set_option maxHeartbeats 32000000 in
theorem qbs_core {n : Nat} (hn : n ≤ 6) {s t k l v p : Int} {es fs W : List AV} {f g o m z : Nat → Int × List AV} {b1 b2 : Nat → Int} {q : Nat → Rat} (hk : 0 ≤ k ∧ k ≤ 60) (hl : 0 ≤ l ∧ l ≤ 60)
  (n1 : PC Tryz.prog 47 [serA s es] (.tup [serA (f 0).1 (f 0).2, iV 0])) (n2 : PC Tryz.prog 47 [serA t fs] (.tup [serA (g 0).1 (g 0).2, iV 0])) (hm0 : PC Tryz.prog 12 [serA (f 0).1 (f 0).2, serA (g 0).1 (g 0).2] (.tup [serA v W, iV 0])) (hp : PC Tryz.prog 54 [serA v W] (.tup [iV p, iV 0]))
  (hd1 : ∀ i, i < n → PC Tryz.prog 14 [serA (f i).1 (f i).2] (.tup [serA (f (i + 1)).1 (f (i + 1)).2, iV 0])) (hd2 : ∀ i, i < n → PC Tryz.prog 14 [serA (g i).1 (g i).2] (.tup [serA (g (i + 1)).1 (g (i + 1)).2, iV 0]))
  (h0 : PC Tryz.prog 30 [iV 0] (encQ 0)) (hmon : PC Tryz.prog 29 [encQ 0, iV 0, iV p] (.tup [serA (o 0).1 (o 0).2, iV 0]))
  (hb1 : ∀ r : Nat, r ≤ n → PC Tryz.prog 50 [iV ((n : Int) + k - 1), iV ((n : Int) - r)] (iV (b1 r))) (hb2 : ∀ r : Nat, r ≤ n → PC Tryz.prog 50 [iV ((n : Int) + l - 1), iV r] (iV (b2 r))) (hbl : ∀ r, r ≤ n → (b1 r * b2 r).natAbs ≤ 1000000000000000000)
  (hof : ∀ r, r ≤ n → PC Tryz.prog 30 [iV (if r % 2 = 0 then b1 r * b2 r else -(b1 r * b2 r))] (encQ (q r))) (hm : ∀ r, r ≤ n → PC Tryz.prog 12 [serA (f r).1 (f r).2, serA (g (n - r)).1 (g (n - r)).2] (.tup [serA (m r).1 (m r).2, iV 0]))
  (hs : ∀ r, r ≤ n → PC Tryz.prog 48 [encQ (q r), serA (m r).1 (m r).2] (.tup [serA (z r).1 (z r).2, iV 0])) (ha : ∀ r, r ≤ n → PC Tryz.prog 11 [serA (o r).1 (o r).2, serA (z r).1 (z r).2] (.tup [serA (o (r + 1)).1 (o (r + 1)).2, iV 0])) :
  PC Tryz.prog 23 [wA s es k, wA t fs l, iV n] (.tup [serA (o (n + 1)).1 (o (n + 1)).2, iV 0]) := by
 have c1 : decide (k < 0) = false := decide_eq_false (by omega)
 have c2 : decide (k > 60) = false := decide_eq_false (by omega)
 have c3 : decide (l < 0) = false := decide_eq_false (by omega)
 have c4 : decide (l > 60) = false := decide_eq_false (by omega)
 have c5 : decide ((n : Int) < 0) = false := decide_eq_false (by omega)
 have c6 : decide ((n : Int) > 6) = false := decide_eq_false (by omega)
 have fm : ∀ m, (((List.range m).map (fun i => serA (f i).1 (f i).2))).length = m := fun m => by simp
 have fa : ∀ m i, i < m → (((List.range m).map (fun i => serA (f i).1 (f i).2)))[i]? = some (.agg [iV (f i).1, .sl (f i).2]) := fun m i h => by rw [List.getElem?_map, List.getElem?_range h]; rfl
 have fap : ∀ m, ((List.range m).map (fun i => serA (f i).1 (f i).2)) ++ [serA (f m).1 (f m).2] = ((List.range (m + 1)).map (fun i => serA (f i).1 (f i).2)) := fun m => by rw [List.range_succ, List.map_append]; rfl
 have gm : ∀ m, (((List.range m).map (fun i => serA (g i).1 (g i).2))).length = m := fun m => by simp
 have ga : ∀ m i, i < m → (((List.range m).map (fun i => serA (g i).1 (g i).2)))[i]? = some (.agg [iV (g i).1, .sl (g i).2]) := fun m i h => by rw [List.getElem?_map, List.getElem?_range h]; rfl
 have gap : ∀ m, ((List.range m).map (fun i => serA (g i).1 (g i).2)) ++ [serA (g m).1 (g m).2] = ((List.range (m + 1)).map (fun i => serA (g i).1 (g i).2)) := fun m => by rw [List.range_succ, List.map_append]; rfl
 refine pc_body2 true Tryz.func23 rfl rfl rfl (Nat.le_of_ble_eq_true rfl) (CellT.agg agg_ser) CellT.tmp ?_
 refine goA ?_
 refine evG ggA (ss_call (InB_of rfl) rfl rfl n1) ?_
 refine goA ?_
 refine evG ggA (ss_call (InB_of rfl) rfl rfl n2) ?_
 refine goA ?_
 refine evG ggA (ss_call (InB_of rfl) rfl rfl hm0) ?_
 refine goA ?_
 refine evG ggA (ss_call (InB_of rfl) rfl rfl hp) ?_
 refine goA ?_
 refine evG ggA (ss_bslice_own 31 (InB_of rfl) rfl (make_tab rfl) rfl rfl rfl rfl (ones_ok rfl) (Nat.le_of_ble_eq_true rfl) (by decide) (fun _ a ha => by rw [List.mem_singleton] at ha; subst ha; exact List.all_eq_true.1 rfl)) ?_
 refine goA ?_
 refine evG ggA (ss_bslice_own 32 (InB_of rfl) rfl (make_tab rfl) rfl rfl rfl rfl (ones_ok rfl) (Nat.le_of_ble_eq_true rfl) (by decide) (fun _ a ha => by rw [List.mem_singleton] at ha; subst ha; exact List.all_eq_true.1 rfl)) ?_
 refine runA ?_
 refine ev_nil ?_
 refine osA ?_
 refine T.seqI (fun s1 => s1 = mkS [(2, .v (iV n)), (3, .ptr 3 0), (4, .ptr 4 0), (6, .ptr 6 0), (13, .v (iV p)), (15, .v (.sl ((List.range (n + 1)).map (fun i => serA (f i).1 (f i).2)))), (16, .v (.sl ((List.range (n + 1)).map (fun i => serA (g i).1 (g i).2))))] [(3, wV s es k), (4, wV t fs l), (6, sv0)] 193 true) ?_ ?_
 ·refine r1A ?_
  refine T.block ?_
  refine T.loop (fun N s1 => ∃ i : Nat, N = n - i ∧ i ≤ n ∧ s1 = mkS [(2, .v (iV n)), (3, .ptr 3 0), (4, .ptr 4 0), (6, .ptr 6 0), (13, .v (iV p)), (15, .own 31 (i + 1)), (16, .own 32 (i + 1)), (94, .v (iV n)), (95, .v (iV i))] [(3, wV s es k), (4, wV t fs l), (6, sv0), (31, .lst 2 28 ((List.range (i + 1)).map (fun i => serA (f i).1 (f i).2))), (32, .lst 2 28 ((List.range (i + 1)).map (fun i => serA (g i).1 (g i).2)))] 193 true) n
   (s' := mkS [(2, .v (iV n)), (3, .ptr 3 0), (4, .ptr 4 0), (6, .ptr 6 0), (13, .v (iV p)), (15, .own 31 (1)), (16, .own 32 (1)), (94, .v (iV n)), (95, .v (iV ((0 : Nat) : Int)))] [(3, wV s es k), (4, wV t fs l), (6, sv0), (31, .lst 2 28 [serA (f 0).1 (f 0).2]), (32, .lst 2 28 [serA (g 0).1 (g 0).2])] 193 true) (by exact entA) ⟨0, rfl, Nat.zero_le _, rfl⟩ ?_
  rintro _ _ ⟨i, rfl, hi, rfl⟩
  have ef := fm (i + 1)
  have eg := gm (i + 1)
  by_cases hlt : i < n
  ·have d0 : decide ((i : Int) < (n : Int)) = true := decide_eq_true (by omega)
   have e1 := fa (i + 1) i (by omega)
   have e2 := ga (i + 1) i (by omega)
   have e3 := fap (i + 1)
   have e4 := gap (i + 1)
   have d1 := hd1 i hlt
   have d2 := hd2 i hlt
   have hfin : ∃ i' : Nat, n - (i + 1) = n - i' ∧ i' ≤ n ∧ mkS [(2, .v (iV n)), (3, .ptr 3 0), (4, .ptr 4 0), (6, .ptr 6 0), (13, .v (iV p)), (15, .own 31 (i + 1 + 1)), (16, .own 32 (i + 1 + 1)), (94, .v (iV n)), (95, .v (iV ((i : Int) + 1)))] [(3, wV s es k), (4, wV t fs l), (6, sv0), (31, .lst 2 28 ((List.range (i + 1 + 1)).map (fun i => serA (f i).1 (f i).2))), (32, .lst 2 28 ((List.range (i + 1 + 1)).map (fun i => serA (g i).1 (g i).2)))] 193 true = mkS [(2, .v (iV n)), (3, .ptr 3 0), (4, .ptr 4 0), (6, .ptr 6 0), (13, .v (iV p)), (15, .own 31 (i' + 1)), (16, .own 32 (i' + 1)), (94, .v (iV n)), (95, .v (iV i'))] [(3, wV s es k), (4, wV t fs l), (6, sv0), (31, .lst 2 28 ((List.range (i' + 1)).map (fun i => serA (f i).1 (f i).2))), (32, .lst 2 28 ((List.range (i' + 1)).map (fun i => serA (g i).1 (g i).2)))] 193 true := ⟨i + 1, rfl, hlt, rfl⟩
   generalize hF2 : ((List.range (i + 1 + 1)).map (fun i => serA (f i).1 (f i).2)) = F2 at *
   generalize hG2 : ((List.range (i + 1 + 1)).map (fun i => serA (g i).1 (g i).2)) = G2 at *
   generalize ((List.range (i + 1)).map (fun i => serA (f i).1 (f i).2)) = F at *
   generalize ((List.range (i + 1)).map (fun i => serA (g i).1 (g i).2)) = G at *
   generalize f i = fi at *
   generalize g i = gi at *
   generalize f (i + 1) = fj at *
   generalize g (i + 1) = gj at *
   obtain ⟨fi1, fi2⟩ := fi
   obtain ⟨gi1, gi2⟩ := gi
   obtain ⟨fj1, fj2⟩ := fj
   obtain ⟨gj1, gj2⟩ := gj
   simp only at e1 e2 e3 e4 d1 d2
   clear fm gm fa ga fap gap n1 n2 hm0 hp hd1 hd2 h0 hmon hb1 hb2 hbl hof hm hs ha hF2 hG2
   refine goA ?_
   refine evG ggA (ss_index_own (InB_of rfl) (elem_tab rfl) rfl rfl ef rfl (by omega) (by omega)) ?_
   rw [show ((i : Nat) : Int).toNat = i by omega]
   refine evG ggA (ss_load_opagg (InB_of rfl) (agg_tab rfl) rfl rfl ef e1) ?_
   refine goA ?_
   refine evG ggA (ss_call (InB_of rfl) rfl rfl d1) ?_
   refine goA ?_
   refine evG ggA (ss_index_own (InB_of rfl) (elem_tab rfl) rfl rfl eg rfl (by omega) (by omega)) ?_
   rw [show ((i : Nat) : Int).toNat = i by omega]
   refine evG ggA (ss_load_opagg (InB_of rfl) (agg_tab rfl) rfl rfl eg e2) ?_
   refine goA ?_
   refine evG ggA (ss_call (InB_of rfl) rfl rfl d2) ?_
   refine runA ?_
   refine ev_nil ?_
   refine osA ?_
   first
    | refine T.drawE mixed ?_
    | (refine T.seq ?_; refine T.drawE mixed ?_)
   refine runA ?_
   refine evG ggA (ss_bslice (InB_of rfl) (make_tab rfl) rfl rfl rfl rfl (ones_ok rfl) (Nat.le_of_ble_eq_true rfl)) ?_
   refine evG ggA (ss_snocA (a := serA fj1 fj2) (InB_of rfl) (make_tab rfl) rfl rfl ef rfl rfl (by decide) rfl (by omega) (Nat.le_of_ble_eq_true rfl) rfl) ?_
   refine runA ?_
   refine evG ggA (ss_bslice (InB_of rfl) (make_tab rfl) rfl rfl rfl rfl (ones_ok rfl) (Nat.le_of_ble_eq_true rfl)) ?_
   refine evG ggA (ss_snocA (a := serA gj1 gj2) (InB_of rfl) (make_tab rfl) rfl rfl eg rfl rfl (by decide) rfl (by omega) (Nat.le_of_ble_eq_true rfl) rfl) ?_
   refine runA ?_
   refine ev_nil ⟨by kernel_rfl, ?_⟩
   rw [e3, e4]
   refine goA ?_
   exact loopQ_intro (k := n - (i + 1)) (s' := mkS [(2, .v (iV n)), (3, .ptr 3 0), (4, .ptr 4 0), (6, .ptr 6 0), (13, .v (iV p)), (15, .own 31 (i + 1 + 1)), (16, .own 32 (i + 1 + 1)), (94, .v (iV n)), (95, .v (iV ((i : Int) + 1)))] [(3, wV s es k), (4, wV t fs l), (6, sv0), (31, .lst 2 28 F2), (32, .lst 2 28 G2)] 193 true) (by omega) (by exact entA) hfin
  ·obtain rfl : i = n := by omega
   have d0 : decide ((i : Int) < (i : Int)) = false := decide_eq_false (by omega)
   refine goA ?_
   exact midQ_intro (s' := mkS [(2, .v (iV i)), (3, .ptr 3 0), (4, .ptr 4 0), (6, .ptr 6 0), (13, .v (iV p)), (15, .v (.sl ((List.range (i + 1)).map (fun i => serA (f i).1 (f i).2)))), (16, .v (.sl ((List.range (i + 1)).map (fun i => serA (g i).1 (g i).2))))] [(3, wV s es k), (4, wV t fs l), (6, sv0)] 193 true) (by exact entA) rfl
 rintro _ rfl
 have fa := fa (n + 1)
 have ga := ga (n + 1)
 clear fap gap fm gm hd1 hd2 hm0 hp n1 n2
 generalize ((List.range (n + 1)).map (fun i => serA (f i).1 (f i).2)) = F at *
 generalize ((List.range (n + 1)).map (fun i => serA (g i).1 (g i).2)) = G at *
 refine goA ?_
 refine evG ggA (ss_call (InB_of rfl) rfl rfl h0) ?_
 refine goA ?_
 refine evG ggA (ss_call (InB_of rfl) rfl rfl hmon) ?_
 refine goA ?_
 refine T.loop (fun N s1 => ∃ r : Nat, N = n + 1 - r ∧ r ≤ n + 1 ∧ s1 = mkS [(2, .v (iV n)), (3, .ptr 3 0), (4, .ptr 4 0), (6, .ptr 6 0), (15, .v (.sl F)), (16, .v (.sl G)), (22, .ptr 22 0), (130, .v (iV ((n : Int) + 1))), (131, .v (iV r))] [(3, wV s es k), (4, wV t fs l), (6, sv0), (22, sV (o r))] 193 true) (n + 1)
  (s' := mkS [(2, .v (iV n)), (3, .ptr 3 0), (4, .ptr 4 0), (6, .ptr 6 0), (15, .v (.sl F)), (16, .v (.sl G)), (22, .ptr 22 0), (130, .v (iV ((n : Int) + 1))), (131, .v (iV ((0 : Nat) : Int)))] [(3, wV s es k), (4, wV t fs l), (6, sv0), (22, sV (o 0))] 193 true) (by exact entA) ⟨0, rfl, Nat.zero_le _, rfl⟩ ?_
 rintro _ _ ⟨r, rfl, hr, rfl⟩
 by_cases hlt : r < n + 1
 ·have d1 : decide ((r : Int) < (n : Int) + 1) = true := decide_eq_true (by omega)
  have e1 : F[((r : Nat) : Int).toNat]? = some (.agg [iV (f r).1, .sl (f r).2]) := by rw [show ((r : Nat) : Int).toNat = r by omega]; exact fa r hlt
  have e2 : G[((n : Int) - (r : Int)).toNat]? = some (.agg [iV (g (n - r)).1, .sl (g (n - r)).2]) := by rw [show ((n : Int) - (r : Int)).toNat = n - r by omega]; exact ga _ (by omega)
  have k1 := hb1 r (by omega)
  have k2 := hb2 r (by omega)
  have k3 := hbl r (by omega)
  have k4 := hof r (by omega)
  have k5 := hm r (by omega)
  have k6 := hs r (by omega)
  have k7 := ha r (by omega)
  have hfin : ∃ r' : Nat, n + 1 - (r + 1) = n + 1 - r' ∧ r' ≤ n + 1 ∧ mkS [(2, .v (iV n)), (3, .ptr 3 0), (4, .ptr 4 0), (6, .ptr 6 0), (15, .v (.sl F)), (16, .v (.sl G)), (22, .ptr 22 0), (130, .v (iV ((n : Int) + 1))), (131, .v (iV ((r : Int) + 1)))] [(3, wV s es k), (4, wV t fs l), (6, sv0), (22, sV (o (r + 1)))] 193 true = mkS [(2, .v (iV n)), (3, .ptr 3 0), (4, .ptr 4 0), (6, .ptr 6 0), (15, .v (.sl F)), (16, .v (.sl G)), (22, .ptr 22 0), (130, .v (iV ((n : Int) + 1))), (131, .v (iV r'))] [(3, wV s es k), (4, wV t fs l), (6, sv0), (22, sV (o r'))] 193 true := ⟨r + 1, rfl, hlt, rfl⟩
  clear hb1 hb2 hbl hof hm hs ha h0 hmon fa ga
  generalize b1 r = B1 at *
  generalize b2 r = B2 at *
  generalize hP : B1 * B2 = P at *
  generalize q r = qr at *
  generalize f r = fr at *
  generalize g (n - r) = gr at *
  generalize m r = mr at *
  generalize z r = zr at *
  generalize hO : o (r + 1) = ox at *
  generalize o r = or at *
  obtain ⟨fr1, fr2⟩ := fr
  obtain ⟨gr1, gr2⟩ := gr
  obtain ⟨mr1, mr2⟩ := mr
  obtain ⟨zr1, zr2⟩ := zr
  obtain ⟨ox1, ox2⟩ := ox
  obtain ⟨or1, or2⟩ := or
  simp only at e1 e2 k5 k6 k7
  by_cases hpar : r % 2 = 0
  ·have d2 : (((r : Int)).tmod 2 != 0) = false := by rw [show (r : Int).tmod 2 = ((r % 2 : Nat) : Int) from (Int.ofNat_tmod r 2).symm, hpar]; rfl
   rw [if_pos hpar] at k4
   refine goA ?_
   refine evG ggA (ss_call (InB_of rfl) rfl rfl k1) ?_
   refine goA ?_
   refine evG ggA (ss_call (InB_of rfl) rfl rfl k2) ?_
   refine goA ?_
   rw [hP]
   refine goA ?_
   refine evG ggA (ss_div (op := .rem) (InB_of rfl) rfl rfl (by omega) rfl) ?_
   refine goA ?_
   refine evG ggA (ss_index_sl (InB_of rfl) (elem_tab rfl) rfl rfl (by omega) e1 rfl) ?_
   refine goA ?_
   refine evG ggA (ss_index_sl (InB_of rfl) (elem_tab rfl) rfl rfl (by omega) e2 rfl) ?_
   refine goA ?_
   refine evG ggA (ss_call (InB_of rfl) rfl rfl k5) ?_
   refine goA ?_
   refine evG ggA (ss_call (InB_of rfl) rfl rfl k4) ?_
   refine goA ?_
   refine evG ggA (ss_call (InB_of rfl) rfl rfl k6) ?_
   refine goA ?_
   refine evG ggA (ss_call (InB_of rfl) rfl rfl k7) ?_
   refine goA ?_
   exact loopQ_intro (k := n + 1 - (r + 1)) (s' := mkS [(2, .v (iV n)), (3, .ptr 3 0), (4, .ptr 4 0), (6, .ptr 6 0), (15, .v (.sl F)), (16, .v (.sl G)), (22, .ptr 22 0), (130, .v (iV ((n : Int) + 1))), (131, .v (iV ((r : Int) + 1)))] [(3, wV s es k), (4, wV t fs l), (6, sv0), (22, sV (ox1, ox2))] 193 true) (by omega) (by exact entA) hfin
  ·have d2 : (((r : Int)).tmod 2 != 0) = true := by rw [show (r : Int).tmod 2 = ((r % 2 : Nat) : Int) from (Int.ofNat_tmod r 2).symm, show r % 2 = 1 by omega]; rfl
   rw [if_neg hpar] at k4
   have hneg : (0 : Int) - P = -P := Int.zero_sub P
   refine goA ?_
   refine evG ggA (ss_call (InB_of rfl) rfl rfl k1) ?_
   refine goA ?_
   refine evG ggA (ss_call (InB_of rfl) rfl rfl k2) ?_
   refine goA ?_
   rw [hP]
   refine goA ?_
   refine evG ggA (ss_div (op := .rem) (InB_of rfl) rfl rfl (by omega) rfl) ?_
   refine goA ?_
   rw [hneg]
   refine goA ?_
   refine evG ggA (ss_index_sl (InB_of rfl) (elem_tab rfl) rfl rfl (by omega) e1 rfl) ?_
   refine goA ?_
   refine evG ggA (ss_index_sl (InB_of rfl) (elem_tab rfl) rfl rfl (by omega) e2 rfl) ?_
   refine goA ?_
   refine evG ggA (ss_call (InB_of rfl) rfl rfl k5) ?_
   refine goA ?_
   refine evG ggA (ss_call (InB_of rfl) rfl rfl k4) ?_
   refine goA ?_
   refine evG ggA (ss_call (InB_of rfl) rfl rfl k6) ?_
   refine goA ?_
   refine evG ggA (ss_call (InB_of rfl) rfl rfl k7) ?_
   refine goA ?_
   exact loopQ_intro (k := n + 1 - (r + 1)) (s' := mkS [(2, .v (iV n)), (3, .ptr 3 0), (4, .ptr 4 0), (6, .ptr 6 0), (15, .v (.sl F)), (16, .v (.sl G)), (22, .ptr 22 0), (130, .v (iV ((n : Int) + 1))), (131, .v (iV ((r : Int) + 1)))] [(3, wV s es k), (4, wV t fs l), (6, sv0), (22, sV (ox1, ox2))] 193 true) (by omega) (by exact entA) hfin
 ·obtain rfl : r = n + 1 := by omega
  have d1 : decide (((n + 1 : Nat) : Int) < (n : Int) + 1) = false := decide_eq_false (by omega)
  refine goA ?_
  exact rfl
end Ab
