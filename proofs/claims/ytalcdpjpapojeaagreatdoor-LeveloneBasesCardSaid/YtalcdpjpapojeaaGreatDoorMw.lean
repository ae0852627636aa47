/- Monomials, rows of coefficients, forms by their first. -/
import Derived.Test.YtalcdpjpapojeaaGreatDoorMq
import Derived.Test.YtalcdpjpapojeaaGreatDoorMlD
import Derived.Test.YtalcdpjpapojeaaGreatDoorQA2
set_option linter.all false
namespace Ab
open Go Go.RowKit Go.Proofs Hp
set_option maxRecDepth 100000
section
variable {dm : Bool} {P : Program} {ops : Array Oper} {s : AS} {dst : Option Tmp} {ty : TypeId} {pos : String} {after : Array Edge} {g : Option (Nat × Bool)}
theorem ss_slice_lhX {t e : TypeId} {n : Nat} {y z u : Operand} {k k' : IntKind} {lo hi : Int} {l : List AV} (hin : InB s dst) (ht : ElemT P t e n) (hy : s.ev y = some (.v (.sl l))) (hsz : ∀ x, x ∈ l → x.cells.length = n) (hz : s.ev z = some (.v (.p (.int k lo)))) (hu : s.ev u = some (.v (.p (.int k' hi)))) (h0 : 0 ≤ lo) (h1 : lo ≤ hi) (h2 : hi ≤ l.length) :
  Za9 dm P ops ⟨dst, .slice t y (some z) (some u) none, ty, pos, after, g⟩ s (.v (.sl ((l.take hi.toNat).drop lo.toNat))) .none :=
 Za6 hin fun s' hag w0 M0 ρ a w _ hr => by
  obtain ⟨h2', ei, h3, h4⟩ := ht
  have h5 := hr.ev ((hag.ev (by simp [Op.operands])).trans hy)
  obtain ⟨ad, cap, h6, h7, -⟩ := sl_inv h5
  have h8 := Rep.p_inv (hr.ev ((hag.ev (by simp [Op.operands])).trans hz))
  have h8' := Rep.p_inv (hr.ev ((hag.ev (by simp [Op.operands])).trans hu))
  rw [h6] at h5
  have h9 := Rep.sub h5 hsz (by omega : lo.toNat ≤ hi.toNat) (by omega : hi.toNat ≤ l.length)
  refine ⟨_, ?_, h9⟩
  have hb : 0 ≤ hi ∧ hi ≤ (cap : Int) := ⟨oM, oM⟩
  have hb2 : 0 ≤ lo ∧ lo ≤ hi := ⟨h0, h1⟩
  have e1 : ((hi.toNat : Nat) : Int) = hi := oM
  simp [execOp, h6, h8, h8', Instr.sliceAt, Instr.slice, run_underlying h2', Instr.sliceBounds, Instr.sliceBound, asIntOf, hb, hb2, e1, Go.sizeOf, typeInfo, h3, h4]
end
theorem weight39_p {k : Int} (h0 : 0 ≤ k) (h1 : k ≤ 60) (h : k.tmod 2 = 0) : PC Tryz.prog 33 [iV k] (iV 0) := by
 have b1 : decide (k < 0) = false := decide_eq_false oM
 have b2 : decide (k > 60) = false := decide_eq_false oM
 have b3 : (k.tmod 2 != 0) = false := by rw [h]; rfl
 refine pb1 Tryz.func33 Zac.tmp ?_
 refine goA ?_
 refine remA ?_
 refine goA ?_
 exact rfl
theorem weight39_bad {k : Int} (h : k < 0 ∨ k > 60) : PC Tryz.prog 33 [iV k] (iV 2) := by
 by_cases h1 : k < 0
 ·have b1 : decide (k < 0) = true := decide_eq_true h1
  refine pb1 Tryz.func33 Zac.tmp ?_
  refine goA ?_
  exact rfl
 ·have b1 : decide (k < 0) = false := decide_eq_false h1
  have b2 : decide (k > 60) = true := decide_eq_true oM
  refine pb1 Tryz.func33 Zac.tmp ?_
  refine goA ?_
  exact rfl
theorem weight39_odd {k : Int} (h0 : 0 ≤ k) (h1 : k ≤ 60) (h : k.tmod 2 ≠ 0) : PC Tryz.prog 33 [iV k] (iV 16) := by
 have b1 : decide (k < 0) = false := decide_eq_false oM
 have b2 : decide (k > 60) = false := decide_eq_false oM
 have b3 : (k.tmod 2 != 0) = true := bne_iff_ne.2 h
 refine pb1 Tryz.func33 Zac.tmp ?_
 refine goA ?_
 refine remA ?_
 refine goA ?_
 exact rfl
def monP (k b : Nat) : List QT := (List.range b).filterMap fun (b : Nat) => if (k - 4 * b) % 6 = 0 then some ⟨0, (b : Int), (((k - 4 * b) / 6 : Nat) : Int), 1⟩ else none
theorem monP_s (k b : Nat) : monP k (b + 1) = if (k - 4 * b) % 6 = 0 then monP k b ++ [⟨0, (b : Int), (((k - 4 * b) / 6 : Nat) : Int), 1⟩] else monP k b := by
 unfold monP
 rw [List.range_succ, List.filterMap_append]
 by_cases h : (k - 4 * b) % 6 = 0
 ·rw [if_pos h]
  simp [h]
 ·rw [if_neg h]
  simp [h]
theorem pl_len (L : List QT) : (PL L).length = L.length := by simp
set_option maxHeartbeats 8000000 in
theorem mon38_p {k : Nat} (h40 : k ≤ 40) : PC Tryz.prog 41 [iV k, iV 0] (.sl (PL (monL k))) := by
 have hQ : PC Tryz.prog 35 [iV 1] (rA 1) := q_p 1 dC dC
 obtain ⟨n, hn⟩ : ∃ n, n = (monL k).length := ⟨_, rfl⟩
 have hnl : (PL (monL k)).length = n := by rw [pl_len, hn]
 have hend : monP k (k / 4 + 1) = monL k := rfl
 refine pb1 Tryz.func41 Zac.tmp ?_
 refine r1A ?_
 refine r1A ?_
 refine T.seqE (mkS [(5, .own 60 n)] [(60, .lst 7 86 (PL (monL k)))] 53 true) ?_ ?_
 ·refine r1A ?_
  refine T.block ?_
  refine T.loop (fun N s1 => (N = 1 ∧ s1 = mkS [(0, .v (iV k)), (1, .v (iV 0)), (5, .own 60 0), (6, .v (iV 0))] [(60, .lst 7 86 [])] 53 true) ∨ (N = 0 ∧ s1 = mkS [(0, .v (iV k)), (1, .v (iV 0)), (5, .own 60 n), (6, .v (iV 1))] [(60, .lst 7 86 (PL (monL k)))] 53 true)) 1
   (s' := mkS [(0, .v (iV k)), (1, .v (iV 0)), (5, .own 60 0), (6, .v (iV 0))] [(60, .lst 7 86 [])] 53 true) entA (.inl ⟨rfl, rfl⟩) ?_
  rintro _ _ (⟨rfl, rfl⟩ | ⟨rfl, rfl⟩)
  ·have b1 : decide ((2 : Int) * 0 ≤ (k : Int)) = true := decide_eq_true oM
   refine goA ?_
   refine T.loop (fun N s1 => ∃ b : Nat, N = k / 4 + 1 - b ∧ b ≤ k / 4 + 1 ∧ s1 = mkS [(0, .v (iV k)), (1, .v (iV 0)), (5, .own 60 (monP k b).length), (6, .v (iV 0)), (7, .v (iV b))] [(60, .lst 7 86 (PL (monP k b)))] 53 true) (k / 4 + 1)
    (s' := mkS [(0, .v (iV k)), (1, .v (iV 0)), (5, .own 60 (monP k 0).length), (6, .v (iV 0)), (7, .v (iV ((0 : Nat) : Int)))] [(60, .lst 7 86 (PL (monP k 0)))] 53 true) entA ⟨0, rfl, Nat.zero_le _, rfl⟩ ?_
   rintro _ _ ⟨b, rfl, hb, rfl⟩
   by_cases hlt : b < k / 4 + 1
   ·have b2 : decide ((2 : Int) * 0 + 4 * (b : Int) ≤ (k : Int)) = true := decide_eq_true oM
    have e4 : (k : Int) - 2 * 0 - 4 * (b : Int) = ((k - 4 * b : Nat) : Int) := oM
    have em : ((k - 4 * b : Nat) : Int).tmod 6 = (((k - 4 * b) % 6 : Nat) : Int) := rfl
    have ed : ((k - 4 * b : Nat) : Int).tdiv 6 = (((k - 4 * b) / 6 : Nat) : Int) := rfl
    have hl := pl_len (monP k b)
    have hs := monP_s k b
    by_cases h6 : (k - 4 * b) % 6 = 0
    ·have b3 : ((((k - 4 * b) % 6 : Nat) : Int) == 0) = true := by rw [h6]; rfl
     rw [if_pos h6] at hs
     have hs1 : PL (monP k b) ++ [(qe ⟨0, (b : Int), (((k - 4 * b) / 6 : Nat) : Int), 1⟩).av] = PL (monP k (b + 1)) := by rw [hs]; simp
     have hs2 : (monP k (b + 1)).length = (monP k b).length + 1 := by rw [hs]; simp
     refine goA ?_
     rw [e4]
     refine remA ?_
     rw [em]
     refine goA ?_
     rw [e4]
     refine evG ggA (Zbx (Zaa rfl) rfl rfl oM (w64 oM oM)) ?_
     rw [ed]
     refine goA ?_
     refine clG hQ ?_
     refine evG ggA (Zaw (Zaa rfl) (Zaf rfl) rfl rfl rfl rfl (Zci rfl rfl) (Nat.le_of_ble_eq_true rfl)) ?_
     refine evG ggA (ss_snocB (a := (qe ⟨0, (b : Int), (((k - 4 * b) / 6 : Nat) : Int), 1⟩).av) (Zaa rfl) (Zaf rfl) rfl rfl hl rfl rfl dC rfl (by have : (monP k b).length ≤ b := by { unfold monP; exact Nat.le_trans (List.length_filterMap_le ..) (by simp) }; omega) (Nat.le_of_ble_eq_true rfl) rfl) ?_
     rw [hs1]
     refine goA ?_
     exact Zab (k := k / 4 + 1 - (b + 1)) (s' := mkS [(0, .v (iV k)), (1, .v (iV 0)), (5, .own 60 (monP k (b + 1)).length), (6, .v (iV 0)), (7, .v (iV ((b + 1 : Nat) : Int)))] [(60, .lst 7 86 (PL (monP k (b + 1))))] 53 true) oM (by rw [show ((b + 1 : Nat) : Int) = (b : Int) + 1 by omega, hs2]; exact entA) ⟨b + 1, rfl, hlt, rfl⟩
    ·have b3 : ((((k - 4 * b) % 6 : Nat) : Int) == 0) = false := by rw [beq_eq_false_iff_ne]; omega
     rw [if_neg h6] at hs
     refine goA ?_
     rw [e4]
     refine remA ?_
     rw [em]
     refine goA ?_
     exact Zab (k := k / 4 + 1 - (b + 1)) (s' := mkS [(0, .v (iV k)), (1, .v (iV 0)), (5, .own 60 (monP k (b + 1)).length), (6, .v (iV 0)), (7, .v (iV ((b + 1 : Nat) : Int)))] [(60, .lst 7 86 (PL (monP k (b + 1))))] 53 true) oM (by rw [show ((b + 1 : Nat) : Int) = (b : Int) + 1 by omega, hs]; exact entA) ⟨b + 1, rfl, hlt, rfl⟩
   ·obtain rfl : b = k / 4 + 1 := oM
    have b2 : decide ((2 : Int) * 0 + 4 * ((k / 4 + 1 : Nat) : Int) ≤ (k : Int)) = false := decide_eq_false oM
    rw [hend, ← hn]
    refine goA ?_
    exact Zab (k := 0) (s' := mkS [(0, .v (iV k)), (1, .v (iV 0)), (5, .own 60 n), (6, .v (iV 1))] [(60, .lst 7 86 (PL (monL k)))] 53 true) dC entA (.inr ⟨rfl, rfl⟩)
  ·refine goA ?_
   exact midE
 refine T.weak (s' := mkS [(5, .v (.sl (PL (monL k))))] [] 53 true) entA ?_
 refine goA ?_
 exact rfl
set_option maxHeartbeats 4000000 in
theorem row37_p {s : Int} {es : List AV} {l : List Rat} {K n : Nat} (h : IsL es K l) (hK : K ≤ 1000000) (a0 : -100 ≤ s) (a1 : s ≤ 1000) (a2 : (es.length : Int) ≤ 1000 - s) (hn : n ≤ 1000) :
  PC Tryz.prog 42 [serA s es, iV 0, iV n] (.sl ((tk (fun (a : Nat) => cf s l a) n).map encQ)) := by
 have hc := fun (j : Nat) (hj : j ≤ 1000) => coef_p (s := s) (n := (j : Int)) h oM a0 a1 a2 oM oM
 obtain ⟨F, hF⟩ : ∃ F : Nat → Rat, F = fun (a : Nat) => cf s l a := ⟨_, rfl⟩
 have hag : ∀ j, ∃ g xs g' xs', encQ (F j) = .agg [.p (.bool g), .sl xs, .p (.bool g'), .sl xs'] := fun j => by unfold encQ ci; exact ⟨_, _, _, _, rfl⟩
 have hc : ∀ (j : Nat), j ≤ 1000 → PC Tryz.prog 76 [serA s es, iV j] (encQ (F j)) := fun j hj => by rw [hF]; exact hc j hj
 rw [← hF]
 have htl : ∀ j, ((tk F j).map encQ).length = j := fun j => by simp
 have hts : ∀ j, (tk F j).map encQ ++ [encQ (F j)] = (tk F (j + 1)).map encQ := fun j => by
  unfold tk
  rw [List.range_succ, List.map_append, List.map_append]
  rfl
 refine pb1 Tryz.func42 Zac.tmp ?_
 refine r1A ?_
 refine r1A ?_
 refine T.seqE (mkS [(7, .own 60 n)] [(60, .lst 4 39 ((tk F n).map encQ))] 22 true) ?_ ?_
 ·refine r1A ?_
  refine T.block ?_
  refine T.loop (fun N s1 => ∃ j : Nat, N = n - j ∧ j ≤ n ∧ s1 = mkS [(2, .v (iV n)), (3, .ptr 3 0), (7, .own 60 j), (8, .v (iV j))] [(3, .var [.v (iV s), .v (.sl es)]), (60, .lst 4 39 ((tk F j).map encQ))] 22 true) n
   (s' := mkS [(2, .v (iV n)), (3, .ptr 3 0), (7, .own 60 0), (8, .v (iV ((0 : Nat) : Int)))] [(3, .var [.v (iV s), .v (.sl es)]), (60, .lst 4 39 ((tk F 0).map encQ))] 22 true) entA ⟨0, rfl, Nat.zero_le _, rfl⟩ ?_
  rintro _ _ ⟨j, rfl, hj, rfl⟩
  by_cases hlt : j < n
  ·have b1 : decide ((j : Int) < n) = true := decide_eq_true oM
   have c1 := hc j oM
   have hl := htl j
   have hs := hts j
   obtain ⟨g, xs, g', xs', e⟩ := hag j
   rw [e] at c1 hs
   refine goA ?_
   refine clG c1 ?_
   refine evG ggA (Zaw (Zaa rfl) (Zaf rfl) rfl rfl rfl rfl (Zci rfl rfl) (Nat.le_of_ble_eq_true rfl)) ?_
   refine evG ggA (Zct (a := .agg [.p (.bool g), .sl xs, .p (.bool g'), .sl xs']) (Zaa rfl) (Zaf rfl) rfl rfl hl rfl rfl dC rfl oM (Nat.le_of_ble_eq_true rfl) rfl) ?_
   rw [hs]
   refine goA ?_
   exact Zab (k := n - (j + 1)) (s' := mkS [(2, .v (iV n)), (3, .ptr 3 0), (7, .own 60 (j + 1)), (8, .v (iV ((j + 1 : Nat) : Int)))] [(3, .var [.v (iV s), .v (.sl es)]), (60, .lst 4 39 ((tk F (j + 1)).map encQ))] 22 true) oM (by rw [show ((j + 1 : Nat) : Int) = (j : Int) + 1 by omega]; exact entA) ⟨j + 1, rfl, hlt, rfl⟩
  ·obtain rfl : j = n := oM
   have b1 : decide ((j : Int) < j) = false := decide_eq_false oM
   refine goA ?_
   exact midE
 have hl := htl n
 refine T.weak (s' := mkS [(7, .v (.sl ((tk F n).map encQ)))] [] 22 true) entA ?_
 refine goA ?_
 exact rfl
theorem form39_core {k q s e2 : Int} {LA Y l : List AV} (hP : PC Tryz.prog 17 [iV k, .sl LA] (.tup [.sl Y, iV 0])) (hE : PC Tryz.prog 39 [.sl Y, iV q] (.tup [serA s l, iV e2])) :
  PC Tryz.prog 15 [iV k, .sl LA, iV q] (.tup [serA s l, iV e2]) := by
 refine pb2 Tryz.func15 (Zac.agg Zaj) Zac.tmp ?_
 refine goA ?_
 refine clG hP ?_
 refine clG hE ?_
 exact rfl
end Ab

namespace Ab
open Go Go.RowKit Go.Proofs Hp
set_option maxRecDepth 100000
theorem Zfj {F : Nat → AV} (n : Nat) : ((List.range n).map F).length = n := by simp
theorem rgm_s (F : Nat → AV) (n : Nat) : (List.range n).map F ++ [F n] = (List.range (n + 1)).map F := by
 rw [List.range_succ, List.map_append]
 rfl
set_option maxHeartbeats 16000000 in
theorem poly39_core {k : Int} {d : Nat} (hd : d ≤ 100) {LA ML X Y : List AV} {sE a b c : Nat → Int} {lE R ms ms' xs xs' : Nat → List AV} {mg mg' xg xg' : Nat → Bool} {B W : Nat → AV}
  (hw : PC Tryz.prog 33 [iV k] (iV 0)) (hdim : PC Tryz.prog 19 [iV k] (iV d)) (hLA : LA.length = d)
  (hM : PC Tryz.prog 41 [iV k, iV 0] (.sl ML)) (hML : ML.length = d)
  (hMg : ∀ i, i < d → ML[i]? = some (.agg [iV (a i), iV (b i), iV (c i), .p (.bool (mg i)), .sl (ms i), .p (.bool (mg' i)), .sl (ms' i)])) (hMz : ∀ x, x ∈ ML → x.cells.length = 7)
  (hE : ∀ i, i < d → PC Tryz.prog 39 [.sl ((ML.take (i + 1)).drop i), iV d] (.tup [serA (sE i) (lE i), iV 0]))
  (hR : ∀ i, i < d → PC Tryz.prog 42 [serA (sE i) (lE i), iV 0, iV d] (.sl (R i)))
  (hLg : ∀ i, i < d → LA[i]? = some (B i)) (hBg : ∀ i, i < d → ∃ g xs g' xs', B i = .agg [.p (.bool g), .sl xs, .p (.bool g'), .sl xs'])
  (hN : ∀ i, i < d → PC Tryz.prog 23 [B i] (W i)) (hWg : ∀ i, ∃ g xs g' xs', W i = .agg [.p (.bool g), .sl xs, .p (.bool g'), .sl xs'])
  (hX : PC Tryz.prog 43 [.sl ((List.range d).map fun i => .sl (R i)), .sl ((List.range d).map W)] (.tup [.sl X, bV true, bV true]))
  (hXg : ∀ i, i < d → X[i]? = some (.agg [.p (.bool (xg i)), .sl (xs i), .p (.bool (xg' i)), .sl (xs' i)]))
  (hNorm : PC Tryz.prog 44 [.sl ((List.range d).map fun i => .agg [iV (a i), iV (b i), iV (c i), .p (.bool (xg i)), .sl (xs i), .p (.bool (xg' i)), .sl (xs' i)])] (.sl Y)) :
  PC Tryz.prog 17 [iV k, .sl LA] (.tup [.sl Y, iV 0]) := by
 have hLe : (((LA.length : Nat) : Int) != (d : Int)) = false := by rw [hLA]; simp
 refine pb2 Tryz.func17 Zac.tmp Zac.tmp ?_
 refine r1A ?_
 refine T.seqE (mkS [(0, .v (iV k)), (1, .v (.sl LA))] [] 97 true) ?_ ?_
 ·refine goA ?_
  refine clG hw ?_
  exact midE
 refine T.seqE (mkS [(0, .v (iV k)), (1, .v (.sl LA)), (7, .v (iV d))] [] 97 true) ?_ ?_
 ·refine goA ?_
  refine clG hdim ?_
  exact midE
 refine T.seqE (mkS [(0, .v (iV k)), (1, .v (.sl LA)), (7, .v (iV d))] [] 97 true) ?_ ?_
 ·refine goA ?_
  exact midE
 refine T.seqE (mkS [(1, .v (.sl LA)), (7, .v (iV d)), (8, .v (.sl ML))] [] 97 true) ?_ ?_
 ·refine goA ?_
  refine clG hM ?_
  exact midE
 refine r1A ?_
 refine T.seqE (mkS [(1, .v (.sl LA)), (7, .v (iV d)), (8, .v (.sl ML)), (9, .own 60 d)] [(60, .lst 1 31 ((List.range d).map fun i => .sl (R i)))] 97 true) ?_ ?_
 ·refine r1A ?_
  refine T.block ?_
  refine T.loop (fun N s1 => ∃ i : Nat, N = d - i ∧ i ≤ d ∧ s1 = mkS [(1, .v (.sl LA)), (7, .v (iV d)), (8, .v (.sl ML)), (9, .own 60 i), (10, .v (iV i))] [(60, .lst 1 31 ((List.range i).map fun i => .sl (R i)))] 97 true) d
   (s' := mkS [(1, .v (.sl LA)), (7, .v (iV d)), (8, .v (.sl ML)), (9, .own 60 0), (10, .v (iV ((0 : Nat) : Int)))] [(60, .lst 1 31 ((List.range 0).map fun i => .sl (R i)))] 97 true) entA ⟨0, rfl, Nat.zero_le _, rfl⟩ ?_
  rintro _ _ ⟨i, rfl, hi, rfl⟩
  by_cases hlt : i < d
  ·have b1 : decide ((i : Int) < ((ML.length : Nat) : Int)) = true := decide_eq_true oM
   have c1 := hE i hlt
   have c2 := hR i hlt
   have hl := Zfj (F := fun i => .sl (R i)) i
   have hs := rgm_s (fun i => .sl (R i)) i
   have t1 : ((i : Int) + 1).toNat = i + 1 := oM
   have t2 : ((i : Int)).toNat = i := oM
   refine goA ?_
   refine evG ggA (ss_slice_lhX (lo := (i : Int)) (hi := (i : Int) + 1) (Zaa rfl) (Zag rfl) rfl hMz rfl rfl oM oM oM) ?_
   rw [t1, t2]
   refine goA ?_
   refine clG c1 ?_
   refine clG c2 ?_
   refine evG ggA (Zaw (Zaa rfl) (Zaf rfl) rfl rfl rfl rfl (Zci rfl rfl) (Nat.le_of_ble_eq_true rfl)) ?_
   refine evG ggA (Zct (a := .sl (R i)) (Zaa rfl) (Zaf rfl) rfl rfl hl rfl rfl dC rfl oM (Nat.le_of_ble_eq_true rfl) rfl) ?_
   rw [hs]
   refine goA ?_
   exact Zab (k := d - (i + 1)) (s' := mkS [(1, .v (.sl LA)), (7, .v (iV d)), (8, .v (.sl ML)), (9, .own 60 (i + 1)), (10, .v (iV ((i + 1 : Nat) : Int)))] [(60, .lst 1 31 ((List.range (i + 1)).map fun i => .sl (R i)))] 97 true) oM (by rw [show ((i + 1 : Nat) : Int) = (i : Int) + 1 by omega]; exact entA) ⟨i + 1, rfl, hlt, rfl⟩
  ·obtain rfl : i = d := oM
   have b1 : decide ((i : Int) < ((ML.length : Nat) : Int)) = false := decide_eq_false oM
   refine goA ?_
   exact midE
 have hl1 := Zfj (F := fun i => .sl (R i)) d
 refine T.weak (s' := mkS [(1, .v (.sl LA)), (7, .v (iV d)), (8, .v (.sl ML)), (9, .v (.sl ((List.range d).map fun i => .sl (R i))))] [] 97 true) entA ?_
 generalize hRR : ((List.range d).map fun i => AV.sl (R i)) = RR at *
 refine r1A ?_
 refine T.seqE (mkS [(8, .v (.sl ML)), (9, .v (.sl RR)), (13, .own 61 d)] [(61, .lst 4 39 ((List.range d).map W))] 97 true) ?_ ?_
 ·refine r1A ?_
  refine T.block ?_
  refine T.loop (fun N s1 => ∃ i : Nat, N = d - i ∧ i ≤ d ∧ s1 = mkS [(1, .v (.sl LA)), (7, .v (iV d)), (8, .v (.sl ML)), (9, .v (.sl RR)), (13, .own 61 i), (14, .v (iV i))] [(61, .lst 4 39 ((List.range i).map W))] 97 true) d
   (s' := mkS [(1, .v (.sl LA)), (7, .v (iV d)), (8, .v (.sl ML)), (9, .v (.sl RR)), (13, .own 61 0), (14, .v (iV ((0 : Nat) : Int)))] [(61, .lst 4 39 ((List.range 0).map W))] 97 true) entA ⟨0, rfl, Nat.zero_le _, rfl⟩ ?_
  rintro _ _ ⟨i, rfl, hi, rfl⟩
  by_cases hlt : i < d
  ·have b1 : decide ((i : Int) < d) = true := decide_eq_true oM
   have c1 := hN i hlt
   have g1 := hLg i hlt
   have hl := Zfj (F := W) i
   have hs := rgm_s W i
   obtain ⟨g, ys, g', ys', e⟩ := hBg i hlt
   obtain ⟨g2, zs, g2', zs', e2⟩ := hWg i
   rw [e] at g1
   rw [e, e2] at c1
   rw [e2] at hs
   rw [show i = ((i : Int)).toNat by omega] at g1
   refine goA ?_
   refine ixG g1 ?_
   refine clG c1 ?_
   refine evG ggA (Zaw (Zaa rfl) (Zaf rfl) rfl rfl rfl rfl (Zci rfl rfl) (Nat.le_of_ble_eq_true rfl)) ?_
   refine evG ggA (Zct (a := .agg [.p (.bool g2), .sl zs, .p (.bool g2'), .sl zs']) (Zaa rfl) (Zaf rfl) rfl rfl hl rfl rfl dC rfl oM (Nat.le_of_ble_eq_true rfl) rfl) ?_
   rw [hs]
   refine goA ?_
   exact Zab (k := d - (i + 1)) (s' := mkS [(1, .v (.sl LA)), (7, .v (iV d)), (8, .v (.sl ML)), (9, .v (.sl RR)), (13, .own 61 (i + 1)), (14, .v (iV ((i + 1 : Nat) : Int)))] [(61, .lst 4 39 ((List.range (i + 1)).map W))] 97 true) oM (by rw [show ((i + 1 : Nat) : Int) = (i : Int) + 1 by omega]; exact entA) ⟨i + 1, rfl, hlt, rfl⟩
  ·obtain rfl : i = d := oM
   have b1 : decide ((i : Int) < i) = false := decide_eq_false oM
   refine goA ?_
   exact midE
 have hl2 := Zfj (F := W) d
 refine T.weak (s' := mkS [(8, .v (.sl ML)), (9, .v (.sl RR)), (13, .v (.sl ((List.range d).map W)))] [] 97 true) entA ?_
 refine T.seqE (mkS [(8, .v (.sl ML)), (15, .v (.sl X))] [] 97 true) ?_ ?_
 ·refine goA ?_
  refine clG hX ?_
  exact midE
 obtain ⟨U, hU⟩ : ∃ U : Nat → AV, U = fun i => .agg [iV (a i), iV (b i), iV (c i), .p (.bool (xg i)), .sl (xs i), .p (.bool (xg' i)), .sl (xs' i)] := ⟨_, rfl⟩
 rw [← hU] at hNorm
 refine r1A ?_
 refine T.seqE (mkS [(18, .own 62 d)] [(62, .lst 7 86 ((List.range d).map U))] 97 true) ?_ ?_
 ·refine r1A ?_
  refine T.block ?_
  refine T.loop (fun N s1 => ∃ i : Nat, N = d - i ∧ i ≤ d ∧ s1 = mkS [(8, .v (.sl ML)), (15, .v (.sl X)), (18, .own 62 i), (19, .v (iV i))] [(62, .lst 7 86 ((List.range i).map U))] 97 true) d
   (s' := mkS [(8, .v (.sl ML)), (15, .v (.sl X)), (18, .own 62 0), (19, .v (iV ((0 : Nat) : Int)))] [(62, .lst 7 86 ((List.range 0).map U))] 97 true) entA ⟨0, rfl, Nat.zero_le _, rfl⟩ ?_
  rintro _ _ ⟨i, rfl, hi, rfl⟩
  by_cases hlt : i < d
  ·have b1 : decide ((i : Int) < ((ML.length : Nat) : Int)) = true := decide_eq_true oM
   have g1 := hMg i hlt
   have g2 := hXg i hlt
   have hl := Zfj (F := U) i
   have hs := rgm_s U i
   have hUi : U i = .agg [iV (a i), iV (b i), iV (c i), .p (.bool (xg i)), .sl (xs i), .p (.bool (xg' i)), .sl (xs' i)] := by rw [hU]
   rw [hUi] at hs
   rw [show i = ((i : Int)).toNat by omega] at g1 g2
   refine goA ?_
   refine ixG g1 ?_
   refine ixG g2 ?_
   refine evG ggA (Zaw (Zaa rfl) (Zaf rfl) rfl rfl rfl rfl (Zci rfl rfl) (Nat.le_of_ble_eq_true rfl)) ?_
   refine evG ggA (ss_snocB (a := .agg [iV (a i), iV (b i), iV (c i), .p (.bool (xg i)), .sl (xs i), .p (.bool (xg' i)), .sl (xs' i)]) (Zaa rfl) (Zaf rfl) rfl rfl hl rfl rfl dC rfl oM (Nat.le_of_ble_eq_true rfl) rfl) ?_
   rw [hs]
   refine goA ?_
   exact Zab (k := d - (i + 1)) (s' := mkS [(8, .v (.sl ML)), (15, .v (.sl X)), (18, .own 62 (i + 1)), (19, .v (iV ((i + 1 : Nat) : Int)))] [(62, .lst 7 86 ((List.range (i + 1)).map U))] 97 true) oM (by rw [show ((i + 1 : Nat) : Int) = (i : Int) + 1 by omega]; exact entA) ⟨i + 1, rfl, hlt, rfl⟩
  ·obtain rfl : i = d := oM
   have b1 : decide ((i : Int) < ((ML.length : Nat) : Int)) = false := decide_eq_false oM
   refine goA ?_
   exact midE
 have hl3 := Zfj (F := U) d
 refine T.weak (s' := mkS [(18, .v (.sl ((List.range d).map U)))] [] 97 true) entA ?_
 refine goA ?_
 refine clG hNorm ?_
 exact rfl
theorem uni_set {d i : Nat} (hi : i < d) : ((tk (fun _ => (0 : Rat)) d).map encQ).set i (encQ 1) = (uniL d i).map encQ := by
 apply List.ext_getElem?
 intro j
 unfold uniL tk
 rw [List.getElem?_set, List.length_map, List.length_map, List.length_range, List.map_map, List.map_map]
 by_cases e : i = j
 ·subst e
  rw [if_pos rfl, if_pos hi, List.getElem?_map, List.getElem?_range hi]
  show some (encQ 1) = some (encQ (if i = i then 1 else 0))
  rw [if_pos rfl]
 ·rw [if_neg e]
  by_cases hj : j < d
  ·rw [List.getElem?_map, List.getElem?_map, List.getElem?_range hj]
   show some (encQ 0) = some (encQ (if j = i then 1 else 0))
   rw [if_neg (fun h => e h.symm)]
  ·rw [List.getElem?_eq_none (by simp; omega), List.getElem?_eq_none (by simp; omega)]
set_option maxHeartbeats 8000000 in
theorem miller39_core {k q : Int} {d : Nat} (hd : d ≤ 100) {wS : Nat → Int} {wL : Nat → List AV}
  (hw : PC Tryz.prog 33 [iV k] (iV 0)) (hq : 0 ≤ q ∧ q ≤ 1000) (hdim : PC Tryz.prog 19 [iV k] (iV d))
  (hZ : PCO Tryz.prog 34 [iV d] 4 39 ((tk (fun _ => (0 : Rat)) d).map encQ))
  (hF : ∀ i, i < d → PC Tryz.prog 15 [iV k, .sl ((uniL d i).map encQ), iV q] (.tup [serA (wS i) (wL i), iV 0])) :
  PC Tryz.prog 9 [iV k, iV q] (.tup [.sl ((List.range d).map fun (a : Nat) => serA (wS a) (wL a)), iV 0]) := by
 have b0 : decide (q < 0) = false := decide_eq_false oM
 have b1 : decide (q > 1000) = false := decide_eq_false oM
 have hQ : PC Tryz.prog 35 [iV 1] (rA 1) := q_p 1 dC dC
 have hzl : ((tk (fun _ => (0 : Rat)) d).map encQ).length = d := by simp
 obtain ⟨F, hFF⟩ : ∃ F : Nat → AV, F = fun (a : Nat) => serA (wS a) (wL a) := ⟨_, rfl⟩
 rw [← hFF]
 refine pb2 Tryz.func9 Zac.tmp Zac.tmp ?_
 refine r1A ?_
 refine T.seqE (mkS [(0, .v (iV k)), (1, .v (iV q))] [] 49 true) ?_ ?_
 ·refine goA ?_
  refine clG hw ?_
  exact midE
 refine T.seqE (mkS [(0, .v (iV k)), (1, .v (iV q))] [] 49 true) ?_ ?_
 ·refine goA ?_
  exact midE
 refine T.seqE (mkS [(0, .v (iV k)), (1, .v (iV q)), (7, .own 60 0)] [(60, .lst 2 33 [])] 49 true) ?_ ?_
 ·refine goA ?_
  exact midE
 refine T.seqE (mkS [(0, .v (iV k)), (1, .v (iV q)), (7, .own 60 0), (8, .v (iV d))] [(60, .lst 2 33 [])] 49 true) ?_ ?_
 ·refine goA ?_
  refine clG hdim ?_
  exact midE
 refine T.seqE (mkS [(7, .own 60 d)] [(60, .lst 2 33 ((List.range d).map F))] 49 true) ?_ ?_
 ·refine r1A ?_
  refine T.block ?_
  refine T.loop (fun N s1 => ∃ i : Nat, N = d - i ∧ i ≤ d ∧ s1 = mkS [(0, .v (iV k)), (1, .v (iV q)), (7, .own 60 i), (8, .v (iV d)), (9, .v (iV i))] [(60, .lst 2 33 ((List.range i).map F))] 49 true) d
   (s' := mkS [(0, .v (iV k)), (1, .v (iV q)), (7, .own 60 0), (8, .v (iV d)), (9, .v (iV ((0 : Nat) : Int)))] [(60, .lst 2 33 ((List.range 0).map F))] 49 true) entA ⟨0, rfl, Nat.zero_le _, rfl⟩ ?_
  rintro _ _ ⟨i, rfl, hi, rfl⟩
  by_cases hlt : i < d
  ·have b2 : decide ((i : Int) < d) = true := decide_eq_true oM
   have c1 := hF i hlt
   have hu := uni_set hlt
   have hul : ((uniL d i).map encQ).length = d := by simp [uniL]
   have hu : ((tk (fun _ => (0 : Rat)) d).map encQ).set i (rA 1) = (uniL d i).map encQ := hu
   have hl := Zfj (F := F) i
   have hs := rgm_s F i
   have hFi : F i = serA (wS i) (wL i) := by rw [hFF]
   rw [hFi] at hs
   have hti : ((i : Int)).toNat = i := oM
   refine T.seqE (mkS [(0, .v (iV k)), (1, .v (iV q)), (7, .own 60 i), (8, .v (iV d)), (9, .v (iV i))] [(60, .lst 2 33 ((List.range i).map F))] 49 true) ?_ ?_
   ·refine goA ?_
    exact midE
   refine T.seqE (mkS [(0, .v (iV k)), (1, .v (iV q)), (7, .own 60 (i + 1)), (8, .v (iV d)), (9, .v (iV i))] [(60, .lst 2 33 ((List.range (i + 1)).map F))] 49 true) ?_ ?_
   ·refine T.block ?_
    refine T.seqE (mkS [(0, .v (iV k)), (1, .v (iV q)), (7, .own 60 i), (8, .v (iV d)), (9, .v (iV i)), (10, .own 61 d)] [(60, .lst 2 33 ((List.range i).map F)), (61, .lst 4 39 ((tk (fun _ => (0 : Rat)) d).map encQ))] 49 true) ?_ ?_
    ·refine T.regionO 1 ?_
     show EvL _ _ _ (_ :: _) _ _
     refine runA ?_
     refine Zao ?_
     refine ocall 61 hZ rfl rfl rfl rfl ?_
     refine runA ?_
     refine Zao ?_
     exact Zae (s' := mkS [(0, .v (iV k)), (1, .v (iV q)), (7, .own 60 i), (8, .v (iV d)), (9, .v (iV i)), (10, .own 61 ((tk (fun _ => (0 : Rat)) d).map encQ).length)] [(60, .lst 2 33 ((List.range i).map F)), (61, .lst 4 39 ((tk (fun _ => (0 : Rat)) d).map encQ))] 49 true) entA (by rw [hzl])
    generalize (tk (fun _ => (0 : Rat)) d).map encQ = ZZ at *
    generalize (uniL d i).map encQ = UU at *
    refine T.seqE (mkS [(0, .v (iV k)), (1, .v (iV q)), (7, .own 60 i), (8, .v (iV d)), (9, .v (iV i)), (10, .own 61 d)] [(60, .lst 2 33 ((List.range i).map F)), (61, .lst 4 39 UU)] 49 true) ?_ ?_
    ·refine goA ?_
     refine clG hQ ?_
     refine evG ggA (Zah (Zaa rfl) (Zag rfl) rfl rfl hzl rfl oM oM) ?_
     rw [hti]
     refine evG ggA (Zbd (x := rA 1) rfl (Zbp rfl) rfl rfl hzl hlt rfl rfl (fun l e => by cases e) rfl) ?_
     rw [hu]
     refine goA ?_
     exact midE
    refine T.weak (s' := mkS [(0, .v (iV k)), (1, .v (iV q)), (7, .own 60 i), (8, .v (iV d)), (9, .v (iV i)), (10, .v (.sl UU))] [(60, .lst 2 33 ((List.range i).map F))] 49 true) entA ?_
    refine goA ?_
    refine clG c1 ?_
    refine evG ggA (Zaw (Zaa rfl) (Zaf rfl) rfl rfl rfl rfl (Zci rfl rfl) (Nat.le_of_ble_eq_true rfl)) ?_
    refine evG ggA (Zct (a := serA (wS i) (wL i)) (Zaa rfl) (Zaf rfl) rfl rfl hl rfl rfl dC rfl oM (Nat.le_of_ble_eq_true rfl) rfl) ?_
    rw [hs]
    refine goA ?_
    exact midE
   refine goA ?_
   exact Zab (k := d - (i + 1)) (s' := mkS [(0, .v (iV k)), (1, .v (iV q)), (7, .own 60 (i + 1)), (8, .v (iV d)), (9, .v (iV ((i + 1 : Nat) : Int)))] [(60, .lst 2 33 ((List.range (i + 1)).map F))] 49 true) oM (by rw [show ((i + 1 : Nat) : Int) = (i : Int) + 1 by omega]; exact entA) ⟨i + 1, rfl, hlt, rfl⟩
  ·obtain rfl : i = d := oM
   have b2 : decide ((i : Int) < i) = false := decide_eq_false oM
   refine goA ?_
   exact midE
 have hl := Zfj (F := F) d
 refine T.weak (s' := mkS [(7, .v (.sl ((List.range d).map F)))] [] 49 true) entA ?_
 refine goA ?_
 exact rfl
theorem miller39_err {k q e : Int} (h : e ≠ 0) (hw : PC Tryz.prog 33 [iV k] (iV e)) : PC Tryz.prog 9 [iV k, iV q] (.tup [.sl [], iV e]) := by
 have b1 : (e != 0) = true := bne_iff_ne.2 h
 refine pb2 Tryz.func9 Zac.tmp Zac.tmp ?_
 refine goA ?_
 refine clG hw ?_
 exact rfl
theorem miller39_range {k q : Int} (h : q < 0 ∨ q > 1000) (hw : PC Tryz.prog 33 [iV k] (iV 0)) : PC Tryz.prog 9 [iV k, iV q] (.tup [.sl [], iV 2]) := by
 by_cases h1 : q < 0
 ·have b1 : decide (q < 0) = true := decide_eq_true h1
  refine pb2 Tryz.func9 Zac.tmp Zac.tmp ?_
  refine goA ?_
  refine clG hw ?_
  exact rfl
 ·have b1 : decide (q < 0) = false := decide_eq_false h1
  have b2 : decide (q > 1000) = true := decide_eq_true oM
  refine pb2 Tryz.func9 Zac.tmp Zac.tmp ?_
  refine goA ?_
  refine clG hw ?_
  exact rfl
end Ab

namespace Ab
open Go Go.RowKit Go.Proofs Hp
set_option maxRecDepth 100000
def kphi (a : Nat) (κ : Ky) : Rat := qE (qW ⟨κ.1, κ.2.1, κ.2.2, 0⟩) a
theorem qEx_qlf (a : Nat) : ∀ p : List QT, qEx p a = qlf (kphi a) p
  | [] => rfl
  | t :: p => by
    show qX t.q (qW t) a + qEx p a = t.q * kphi a t.k + qlf (kphi a) p
    rw [qEx_qlf a p]
    rfl
theorem qEx_nf (p : List QT) (a : Nat) : qEx (qnf p) a = qEx p a := by rw [qEx_qlf, qEx_qlf, qlf_nf]
theorem qEx_snoc (t : QT) (a : Nat) : ∀ A : List QT, qEx (A ++ [t]) a = qEx A a + qX t.q (qW t) a
  | [] => by
    show qX t.q (qW t) a + 0 = 0 + qX t.q (qW t) a
    rw [Rat.add_zero, Rat.zero_add]
  | u :: A => by
    show qX u.q (qW u) a + qEx (A ++ [t]) a = qX u.q (qW u) a + qEx A a + qX t.q (qW t) a
    rw [qEx_snoc t a A, Rat.add_assoc]
def fX (L : List QT) (a : Int) : Rat := if a < 0 then 0 else qEx L a.toNat
theorem xS_outA {P : Nat} {L : List QT} (h : TermsOK L) (hP : P ≤ 12) : ∀ (n : Nat) (A B : List QT), A.length = n → L = A ++ B → Out (some (xS P A)) P (fX A) 0 30000
  | 0, A, B, hn, _ => by
    obtain rfl := List.eq_nil_of_length_eq_zero hn
    refine ⟨(P : Int), [], rfl, oM, by simp, oM, oM, fun a ha => ?_, fun q hq => (by cases hq), rfl⟩
    rw [Zg1 ha]
    unfold fX
    split <;> rfl
  | n + 1, A, B, hn, hL => by
    have hne : A ≠ [] := fun e => by rw [e] at hn; cases hn
    obtain ⟨A', t, rfl⟩ : ∃ A' t, A = A' ++ [t] := ⟨A.dropLast, A.getLast hne, (List.dropLast_concat_getLast hne).symm⟩
    have hA' : A'.length = n := by simpa using hn
    have e : L = A' ++ t :: B := by rw [hL, List.append_assoc]; rfl
    have ih := xS_outA h hP n A' (t :: B) hA' e
    obtain ⟨p8, pu⟩ := terms_pre h e
    have hs := xS_step hP p8 pu
    have ho := xS_ok (A := A' ++ [t]) hP (by have := h.len; rw [hL] at this; rw [List.length_append] at this; omega) pu
    obtain ⟨s, l, e1, f2, f3, f4, f5, f6, f7, f8⟩ := ih
    injection e1 with e1
    rw [e1] at hs
    have hts : ∀ i, i < P → Ht (qX t.q (qW t) i) 30000 := fun i hi => (part_ht (pu t (by simp)).1 (qW_all t) (pu t (by simp)).2 hP hi).mono dC
    have o3 := comb_out (s := s) (t := 0) (c := 1) (l := l) (m := tk (qX t.q (qW t)) P) (K := 30000) (Za2.2 ⟨f2, oM, oM⟩) (Zcs dC oM) dC dC f7 (Ze1 hts)
    have hs : Zgf s l 0 (tk (qX t.q (qW t)) P) 1 = some (xS P (A' ++ [t])) := hs
    rw [hs, tk_len] at o3
    have o4 := o3.congr (p' := (P : Int)) (f' := fX (A' ++ [t])) (b' := 0) (K' := 2 * 30000 + 2) oM (fun a ha => by
      rw [f6 a ha, show ((1 : Int) : Rat) = 1 from rfl, Rat.one_mul]
      unfold fX
      by_cases h0 : a < 0
      · rw [if_pos h0, if_pos h0, Zg1 h0, Rat.zero_add]
      · rw [if_neg h0, if_neg h0, qEx_snoc, cf_tk oM oM, show (a - 0).toNat = a.toNat by omega]) oM (Nat.le_refl _)
    obtain ⟨s', l', g1, g2, g3, g4, g5, g6, g7, g8⟩ := o4
    have g1' := g1
    injection g1' with g1'
    refine ⟨s', l', g1, g2, g3, g4, g5, g6, fun q hq => ?_, g8⟩
    have := ho.2.2 q
    rw [g1'] at this
    exact this hq
theorem xS_out {P : Nat} {L : List QT} (h : TermsOK L) (hP : P ≤ 12) : Out (some (xS P L)) P (fX L) 0 30000 := xS_outA h hP L.length L [] rfl (List.append_nil L).symm
theorem rexpP {L : List QT} {P K : Nat} (h : TermsOK L) (hn : QN L) (hv : ∀ t, t ∈ L → (qe t).vt) (hP : P ≤ 12) : PC Tryz.prog 39 [.sl (PL L), iV P] (.tup [serA (xS P L).1 ((xS P L).2.map encQ), iV 0]) := by
 have h8 := h.len
 have hc := rcheck38_p (U := L.map qe) (by simp; omega)
 have hQ : QV (L.map qe) := ⟨by simp; omega, fun e he => by
  obtain ⟨t, ht, rfl⟩ := List.mem_map.1 he
  exact hv t ht⟩
 rw [decide_eq_true hQ] at hc
 have hN := norm38_p (U := L.map qe) (K := 33) (by simp; omega) (fun e he => by
  obtain ⟨t, ht, rfl⟩ := List.mem_map.1 he
  exact qe_ok (h.ht t ht)) dC
 rw [qe_map, qnf_id hn] at hN
 exact rexp_ok oM oM hc hN (rexp_p h hP)
theorem monL_ok {k : Nat} (h40 : k ≤ 40) : ∀ t, t ∈ monL k → t.q = 1 ∧ (qe t).vt ∧ 0 ≤ t.a ∧ 0 ≤ t.b ∧ 0 ≤ t.c ∧ t.a + t.b + t.c ≤ 30 := fun t ht => by
 obtain ⟨b, hb, e⟩ := List.mem_filterMap.1 ht
 have hb := List.mem_range.1 hb
 split at e
 ·injection e with e
  subst e
  refine ⟨rfl, ?_, ?_⟩
  ·unfold QE.vt QE.w qe
   simp only
   omega
  ·simp only
   omega
 ·cases e
theorem one_terms {k : Nat} (h40 : k ≤ 40) {t : QT} (ht : t ∈ monL k) : TermsOK [t] ∧ QN [t] := by
 obtain ⟨h1, h2, h3, h4, h5, h6⟩ := monL_ok h40 t ht
 have h0 : t.q ≠ 0 := by rw [h1]; decide
 refine ⟨⟨fun u hu => ?_, fun u hu => ?_, fun u hu => ?_, by simp⟩, ?_⟩
 ·rw [List.mem_singleton.1 hu]; exact h0
 ·rw [List.mem_singleton.1 hu, h1]; exact ⟨dC, dC⟩
 ·rw [List.mem_singleton.1 hu]; exact ⟨h3, h4, h5, h6⟩
 ·unfold QN
  first | exact ⟨h0, fun u hu => (by cases hu), trivial⟩ | simp [QN, h0]
theorem rw_one {k : Nat} (h40 : k ≤ 40) {t : QT} (ht : t ∈ monL k) {d : Nat} (hd : d ≤ 12) : tk (fun (a : Nat) => cf (xS d [t]).1 (xS d [t]).2 a) d = rwT d t := by
 obtain ⟨h1, h2⟩ := one_terms h40 ht
 obtain ⟨s, l, e1, f2, f3, f4, f5, f6, f7, f8⟩ := xS_out (P := d) h1 hd
 injection e1 with e1
 rw [e1]
 have hq := (monL_ok h40 t ht).1
 unfold rwT
 refine List.ext_getElem? fun i => ?_
 by_cases hi : i < d
 ·have e2 : (tk (fun (a : Nat) => cf s l a) d)[i]? = some (cf s l i) := by
   unfold tk
   rw [List.getElem?_map, List.getElem?_range hi]
   rfl
  rw [e2, List.getElem?_map, List.getElem?_eq_getElem (by rw [lzE_len]; exact hi)]
  have e3 := lzE_get d (qW t) i hi
  rw [List.getD_eq_getElem?_getD, List.getElem?_eq_getElem (by rw [lzE_len]; exact hi)] at e3
  have e3 : (lzE d (qW t))[i]'(by rw [lzE_len]; exact hi) = zE (qW t) i := e3
  show some (cf s l i) = some ((((lzE d (qW t))[i]'_ : Int)) : Rat)
  rw [e3, f6 _ oM]
  unfold fX
  rw [if_neg oM, show ((i : Nat) : Int).toNat = i by omega]
  show some (qX t.q (qW t) i + 0) = _
  rw [Rat.add_zero, hq]
  show some (1 * qE (qW t) i) = _
  rw [Rat.one_mul, qE_Z _ (qW_all t)]
 ·rw [List.getElem?_eq_none (by simp; omega), List.getElem?_eq_none (by simp [lzE_len]; omega)]
theorem take_drop_one {α : Type} {l : List α} {i : Nat} {x : α} (h : l[i]? = some x) : (l.take (i + 1)).drop i = [x] := by
 have hi : i < l.length := (List.getElem?_eq_some_iff.1 h).1
 rw [List.take_add_one, h, List.drop_append_of_le_length (by rw [List.length_take]; omega), List.drop_of_length_le (by rw [List.length_take]; omega)]
 rfl
theorem polM_at : ∀ (Ts : List QT) (X : List Rat) (i : Nat) (t : QT) (x : Rat), Ts[i]? = some t → X[i]? = some x → (polM Ts X)[i]? = some ⟨t.a, t.b, t.c, x⟩
  | [], _, i, t, x, h, _ => by simp at h
  | u :: Ts, [], i, t, x, _, h => by simp at h
  | u :: Ts, y :: X, 0, t, x, h1, h2 => by
    simp at h1 h2
    subst h1 h2
    rfl
  | u :: Ts, y :: X, i + 1, t, x, h1, h2 => polM_at Ts X i t x h1 h2
set_option maxHeartbeats 4000000 in
theorem polyP {k i : Nat} (h : k % 2 = 0) (h40 : k ≤ 40) (hi : i < mdm k) : PC Tryz.prog 17 [iV k, .sl ((uniL (mdm k) i).map encQ)] (.tup [.sl (PL (qnf (polM (monL k) (solM k i)))), iV 0]) := by
 obtain ⟨hml, hs⟩ := sol_ok h h40 hi
 have hd4 := mdm_bd h40
 have hw := weight39_p (k := (k : Int)) oM oM (by show ((k % 2 : Nat) : Int) = 0; rw [h]; rfl)
 have hdim := rdim_p (k := (k : Int)) oM oM
 rw [dimV_mdm h] at hdim
 have hM := mon38_p h40
 obtain ⟨d, hd⟩ : ∃ d, d = mdm k := ⟨_, rfl⟩
 obtain ⟨Ts, hTs⟩ : ∃ Ts, Ts = monL k := ⟨_, rfl⟩
 obtain ⟨X, hX⟩ : ∃ X, X = solM k i := ⟨_, rfl⟩
 have hTl : Ts.length = d := by rw [hTs, hml, hd]
 have hXl : X.length = d := by rw [hX, hs.l, hd]
 have hT : ∀ j, j < d → ∃ t, Ts[j]? = some t ∧ t ∈ monL k := fun j hj => ⟨Ts[j], List.getElem?_eq_getElem _, by rw [← hTs]; exact List.getElem_mem _⟩
 have hXx : ∀ j, j < d → ∃ x, X[j]? = some x := fun j hj => ⟨X[j], List.getElem?_eq_getElem _⟩
 have hTD : ∀ j t, Ts[j]? = some t → Ts.getD j ⟨0, 0, 0, 0⟩ = t := fun j t e => by rw [List.getD_eq_getElem?_getD, e]; rfl
 have hXD : ∀ j x, X[j]? = some x → X.getD j 0 = x := fun j x e => by rw [List.getD_eq_getElem?_getD, e]; rfl
 have hul : (uniL d i).length = d := by simp [uniL]
 have hug : ∀ j, j < d → (uniL d i)[j]? = some (if j = i then 1 else 0) := fun j hj => by
  unfold uniL tk
  rw [List.getElem?_map, List.getElem?_range hj]
  rfl
 have hu9 : ∀ q, q ∈ uniL d i → Ht q 9 := Ze1 fun j hj => by
  split
  ·exact ⟨dC, dC⟩
  ·exact ht0 dC
 -- the equations
 have hex := express_p (Rw := rwM k) (b := uniL d i) (n := d) (N := d) (K := 9) (by unfold rwM; rw [List.length_map, hml, hd]) (fun r hr => by
   obtain ⟨t, -, rfl⟩ := List.mem_map.1 hr
   unfold rwT
   rw [List.length_map, lzE_len, hd]) hul oM oM dC (fun c hc M hM a ha j => by
   obtain ⟨M', g1, g2⟩ := hs.g c oM
   have g1 : gjS (eqM (rwM k) (uniL (mdm k) i)) c = some M' := g1
   rw [← hd, hM] at g1
   injection g1 with g1
   subst g1
   unfold elt
   by_cases hl : a < M.length
   ·rw [List.getD_eq_getElem?_getD (l := M), List.getElem?_eq_getElem hl]
    exact Zcl dC (g2 _ (List.getElem_mem hl)) j
   ·rw [List.getD_eq_getElem?_getD (l := M), List.getElem?_eq_none oM]
    exact ht0 dC)
 have hres : exA d (gjS (eqM (rwM k) (uniL d i)) d) = .tup [.sl (X.map encQ), bV true, bV true] := by
  obtain ⟨M, g1, g2⟩ := hs.x
  have g1 : gjS (eqM (rwM k) (uniL (mdm k) i)) (mdm k) = some M := g1
  rw [← hd] at g1 g2
  rw [g1, hX]
  unfold exA
  simp only
  rw [g2]
 rw [hres] at hex
 have hrw : (rwM k).map grow = (List.range d).map fun j => AV.sl ((rwT d (Ts.getD j ⟨0, 0, 0, 0⟩)).map encQ) := by
  refine List.ext_getElem? fun j => ?_
  unfold rwM
  rw [← hTs, ← hd]
  by_cases hj : j < d
  ·obtain ⟨t, e1, e2⟩ := hT j hj
   rw [List.getElem?_map, List.getElem?_map, e1, Zf1 hj, hTD j t e1]
   rfl
  ·rw [List.getElem?_eq_none (by simp; omega), List.getElem?_eq_none (by simp; omega)]
 have huw : (uniL d i).map encQ = (List.range d).map fun j => encQ ((uniL d i).getD j 0) := by
  refine List.ext_getElem? fun j => ?_
  by_cases hj : j < d
  ·rw [List.getElem?_map, hug j hj, Zf1 hj, List.getD_eq_getElem?_getD, hug j hj]
   rfl
  ·rw [List.getElem?_eq_none (by simp; omega), List.getElem?_eq_none (by simp; omega)]
 rw [hrw, huw] at hex
 have hUn : PL (polM Ts X) = (List.range d).map fun j => AV.agg [iV (Ts.getD j ⟨0, 0, 0, 0⟩).a, iV (Ts.getD j ⟨0, 0, 0, 0⟩).b, iV (Ts.getD j ⟨0, 0, 0, 0⟩).c, .p (.bool (decide ((X.getD j 0).num < 0))), .sl ((dgs (X.getD j 0).num.natAbs).map u32), .p (.bool (decide (((X.getD j 0).den : Int) < 0))), .sl ((dgs ((X.getD j 0).den : Int).natAbs).map u32)] := by
  refine List.ext_getElem? fun j => ?_
  by_cases hj : j < d
  ·obtain ⟨t, e1, -⟩ := hT j hj
   obtain ⟨x, e2⟩ := hXx j hj
   rw [List.getElem?_map, List.getElem?_map, polM_at Ts X j t x e1 e2, Zf1 hj, hTD j t e1, hXD j x e2]
   rfl
  ·rw [List.getElem?_eq_none (by rw [pl_len, polM_len Ts X oM]; omega), List.getElem?_eq_none (by simp; omega)]
 have hNorm := norm38_p (U := (polM Ts X).map qe) (K := 3) (by rw [List.length_map, polM_len Ts X oM]; omega) (fun e he => by
  obtain ⟨u, hu, rfl⟩ := List.mem_map.1 he
  exact qe_ok (hs.h _ (by rw [← hX]; exact (polM_mem Ts X u hu).2))) dC
 rw [qe_map] at hNorm
 have hNorm : PC Tryz.prog 44 [.sl (PL (polM Ts X))] (.sl (PL (qnf (polM Ts X)))) := hNorm
 rw [hUn] at hNorm
 rw [← hTs, ← hX]
 rw [← hTs] at hM
 rw [← hd] at hdim ⊢
 refine poly39_core (d := d) oM (LA := (uniL d i).map encQ) (ML := PL Ts) (X := X.map encQ) (Y := PL (qnf (polM Ts X))) (sE := fun j => (xS d [Ts.getD j ⟨0, 0, 0, 0⟩]).1) (lE := fun j => (xS d [Ts.getD j ⟨0, 0, 0, 0⟩]).2.map encQ) (R := fun j => (rwT d (Ts.getD j ⟨0, 0, 0, 0⟩)).map encQ)
  (a := fun j => (Ts.getD j ⟨0, 0, 0, 0⟩).a) (b := fun j => (Ts.getD j ⟨0, 0, 0, 0⟩).b) (c := fun j => (Ts.getD j ⟨0, 0, 0, 0⟩).c) (xg := fun j => decide ((X.getD j 0).num < 0)) (xs := fun j => (dgs (X.getD j 0).num.natAbs).map u32) (xg' := fun j => decide (((X.getD j 0).den : Int) < 0)) (xs' := fun j => (dgs ((X.getD j 0).den : Int).natAbs).map u32)
  (mg := fun j => decide ((Ts.getD j ⟨0, 0, 0, 0⟩).q.num < 0)) (ms := fun j => (dgs (Ts.getD j ⟨0, 0, 0, 0⟩).q.num.natAbs).map u32) (mg' := fun j => decide (((Ts.getD j ⟨0, 0, 0, 0⟩).q.den : Int) < 0)) (ms' := fun j => (dgs ((Ts.getD j ⟨0, 0, 0, 0⟩).q.den : Int).natAbs).map u32)
  (B := fun j => encQ ((uniL d i).getD j 0)) (W := fun j => encQ ((uniL d i).getD j 0))
  hw hdim (by rw [List.length_map, hul]) hM (by rw [pl_len, hTl]) (fun j hj => ?_) (fun x hx => ?_) (fun j hj => ?_) (fun j hj => ?_) (fun j hj => ?_) (fun j hj => by unfold encQ ci; exact ⟨_, _, _, _, rfl⟩) (fun j hj => ?_) (fun j => by unfold encQ ci; exact ⟨_, _, _, _, rfl⟩) hex (fun j hj => ?_) hNorm
 ·obtain ⟨t, e1, -⟩ := hT j hj
  rw [List.getElem?_map, List.getElem?_map, e1, hTD j t e1]
  rfl
 ·obtain ⟨u, hu, rfl⟩ := List.mem_map.1 hx
  rfl
 ·obtain ⟨t, e1, e2⟩ := hT j hj
  obtain ⟨o1, o2⟩ := one_terms h40 e2
  have c := rexpP (L := [t]) (P := d) (K := 1) o1 o2 (fun u hu => by rw [List.mem_singleton.1 hu]; exact (monL_ok h40 t e2).2.1) oM
  have e3 : ((PL Ts).take (j + 1)).drop j = PL [t] := take_drop_one (by rw [List.getElem?_map, List.getElem?_map, e1]; rfl)
  rw [e3, hTD j t e1]
  exact c
 ·obtain ⟨t, e1, e2⟩ := hT j hj
  obtain ⟨o1, o2⟩ := one_terms h40 e2
  obtain ⟨s, l, g1, f2, f3, f4, f5, f6, f7, f8⟩ := xS_out (P := d) o1 oM
  injection g1 with g1
  have c := row37_p (s := (xS d [t]).1) (es := (xS d [t]).2.map encQ) (l := (xS d [t]).2) (K := 30000) (n := d) (Zbb (by rw [g1]; exact f7)) dC (by rw [g1]; exact f2) (by rw [g1]; show s ≤ 1000; omega) (by rw [g1, List.length_map]; show (l.length : Int) ≤ 1000 - s; omega) oM
  rw [rw_one h40 e2 oM] at c
  rw [hTD j t e1]
  exact c
 ·rw [List.getElem?_map, hug j hj, List.getD_eq_getElem?_getD, hug j hj]
  rfl
 ·exact (Zca (Zad (Zcl dC hu9 j)) dC).up
 ·obtain ⟨x, e2⟩ := hXx j hj
  rw [List.getElem?_map, e2, hXD j x e2]
  rfl
theorem formP {k q p i : Nat} (h : k % 2 = 0) (h40 : k ≤ 40) (hi : i < mdm k) (hq : q ≤ 12) (hp : p = max q (mdm k)) : PC Tryz.prog 15 [iV k, .sl ((uniL (mdm k) i).map encQ), iV q] (.tup [serA (sF (wO k p q i)) ((sL (wO k p q i)).map encQ), iV 0]) := by
 obtain ⟨hml, hs⟩ := sol_ok h h40 hi
 have hd4 := mdm_bd h40
 have hpl : (polM (monL k) (solM k i)).length = mdm k := by rw [polM_len _ _ (by rw [hml, hs.l]), hml]
 obtain ⟨p0, hp0⟩ : ∃ p0, p0 = polM (monL k) (solM k i) := ⟨_, rfl⟩
 have hk : ∀ t, t ∈ qnf p0 → (qe t).vt ∧ 0 ≤ t.a ∧ 0 ≤ t.b ∧ 0 ≤ t.c ∧ t.a + t.b + t.c ≤ 30 := fun t ht => by
  obtain ⟨u, hu, e⟩ := qnf_key ht
  rw [hp0] at hu
  obtain ⟨⟨v, hv, e1, e2, e3⟩, -⟩ := polM_mem _ _ u hu
  obtain ⟨-, m2, m3⟩ := monL_ok h40 v hv
  have e4 : t.a = v.a ∧ t.b = v.b ∧ t.c = v.c := by
   unfold QT.k at e
   injection e with a1 a2
   injection a2 with a2 a3
   exact ⟨by rw [← a1, e1], by rw [← a2, e2], by rw [← a3, e3]⟩
  obtain ⟨a1, a2, a3⟩ := e4
  refine ⟨?_, by rw [a1, a2, a3]; exact m3⟩
  unfold QE.vt QE.w qe at m2 ⊢
  simp only at m2 ⊢
  rw [a1, a2, a3]
  exact m2
 have hT : TermsOK (qnf p0) := ⟨qn_ne (qnf_n _), fun t ht => (qnf_ht (K := 3) dC (fun u hu => hs.h _ (by rw [hp0] at hu; exact (polM_mem _ _ u hu).2)) t ht).mono (by rw [hp0, hpl]; omega), fun t ht => (hk t ht).2, Nat.le_trans (qnf_len _) (by rw [hp0, hpl]; omega)⟩
 have hE := rexpP (L := qnf p0) (P := q) (K := 1) hT (qnf_n _) (fun t ht => (hk t ht).1) hq
 have o1 := xS_out (P := q) hT hq
 have oZ := zO_out (p := p) h h40 hi (Nat.le_refl (mdm k)) oM
 have o2 := cut_out (s := sF (zO k p i (mdm k))) (l := sL (zO k p i (mdm k))) (p := q) (by rwa [oZ.parts.2.2.2.2.2.2.2] at oZ) oM oM
 have e : some (xS q (qnf p0)) = wO k p q i := Out.eq (o1.congr (p' := (q : Int)) (f' := fI (zl k i (mdm k))) rfl (fun a ha => by
  unfold fX fI
  by_cases h0 : a < 0
  ·rw [if_pos h0, if_pos h0]
  ·rw [if_neg h0, if_neg h0, qEx_nf, hp0, ← dot_qEx _ _ _ oM, hs.e _ oM]) (Int.le_refl _) (Nat.le_refl _)) o2
 have hP := polyP h h40 hi
 rw [← hp0] at hP
 rw [← e]
 exact form39_core hP hE
theorem miller39P {k q p : Nat} (h : k % 2 = 0) (h40 : k ≤ 40) (hq : q ≤ 12) (hp : p = max q (mdm k)) : PC Tryz.prog 9 [iV k, iV q] (.tup [.sl ((List.range (mdm k)).map fun (a : Nat) => serA (sF (wO k p q a)) ((sL (wO k p q a)).map encQ)), iV 0]) := by
 have hd4 := mdm_bd h40
 have hw := weight39_p (k := (k : Int)) oM oM (by show ((k % 2 : Nat) : Int) = 0; rw [h]; rfl)
 have hdim := rdim_p (k := (k : Int)) oM oM
 rw [dimV_mdm h] at hdim
 exact miller39_core oM hw oM hdim (zeros_p (mdm k) oM) fun i hi => formP h h40 hi hq hp
end Ab

namespace Ab
open Go Go.RowKit Go.Proofs Hp
set_option maxRecDepth 100000
abbrev oneI : AV := .agg [.p (.bool false), .sl [u32 1]]
set_option maxHeartbeats 8000000 in
theorem bases_core {k q e : Int} {n : Nat} (hn : n ≤ 100) {L : List AV} {S : Nat → Int} {C : Nat → List AV}
  (g3 : PC Tryz.prog 6 [iV q, iV 12] (bV false)) (hk : ¬ (k > 40 ∧ k ≤ 60))
  (f1 : PC Tryz.prog 8 [iV k, iV q] (.tup [.sl L, iV e])) (f2 : PC Tryz.prog 9 [iV k, iV q] (.tup [.sl L, iV e]))
  (hL : L.length = n) (hLg : ∀ i, i < n → L[i]? = some (.agg [.p (.int .i64 (S i)), .sl (C i)]))
  (hs : ∀ i, i < n → PC Tryz.prog 10 [.agg [.p (.int .i64 (S i)), .sl (C i)], .agg [.p (.int .i64 (S i)), .sl (C i)]] (bV true))
  (hCl : ∀ i, i < n → (C i).length ≤ 100) (hC : ∀ i, i < n → ∀ j, j < (C i).length → ∃ g xs, (C i)[j]? = some (.agg [.p (.bool g), .sl xs, .p (.bool false), .sl [u32 1]]))
  (hz : PC Tryz.prog 12 [iV 1] oneI) (hi : PC Tryz.prog 11 [oneI, oneI] (bV true)) :
  PC Tryz.prog 3 [iV k, iV q] (bV true) := by
 have aw := l39awake_p
 have q1 : (((L.length : Nat) : Int) != ((L.length : Nat) : Int)) = false := by simp
 have q2 : (e != e) = false := by simp
 refine pb1 Tryz.func3 Zac.tmp ?_
 refine r1A ?_
 refine T.seqE (mkS [(0, .v (iV k)), (1, .v (iV q))] [] 83 true) ?_ ?_
 ·by_cases h1 : k > 40
  ·have b1 : decide (k > 40) = true := decide_eq_true h1
   have b2 : decide (k ≤ 60) = false := decide_eq_false oM
   refine goA ?_
   refine clG g3 ?_
   exact midE
  ·have b1 : decide (k > 40) = false := decide_eq_false h1
   refine goA ?_
   refine clG g3 ?_
   exact midE
 refine T.seqE (mkS [(0, .v (iV k)), (1, .v (iV q)), (5, .v (.sl L)), (6, .v (iV e))] [] 83 true) ?_ ?_
 ·refine goA ?_
  refine clG f1 ?_
  exact midE
 refine T.seqE (mkS [(5, .v (.sl L)), (6, .v (iV e)), (7, .v (.sl L)), (8, .v (iV e))] [] 83 true) ?_ ?_
 ·refine goA ?_
  refine clG f2 ?_
  exact midE
 refine T.seqE (mkS [(5, .v (.sl L)), (7, .v (.sl L))] [] 83 true) ?_ ?_
 ·refine goA ?_
  exact midE
 refine T.seqE (mkS [] [] 83 true) ?_ ?_
 ·refine r1A ?_
  refine T.block ?_
  refine T.loop (fun N s1 => ∃ i : Nat, N = n - i ∧ i ≤ n ∧ s1 = mkS [(5, .v (.sl L)), (7, .v (.sl L)), (9, .v (iV i))] [] 83 true) n
   (s' := mkS [(5, .v (.sl L)), (7, .v (.sl L)), (9, .v (iV ((0 : Nat) : Int)))] [] 83 true) entA ⟨0, rfl, Nat.zero_le _, rfl⟩ ?_
  rintro _ _ ⟨i, rfl, hin, rfl⟩
  by_cases hlt : i < n
  ·have b1 : decide ((i : Int) < ((L.length : Nat) : Int)) = true := decide_eq_true oM
   have g1 := hLg i hlt
   have c1 := hs i hlt
   have cl := hCl i hlt
   have cc := hC i hlt
   rw [show i = ((i : Int)).toNat by omega] at g1
   have g1 : L[((i : Int)).toNat]? = some (.agg [.p (.int .i64 (S i)), .sl (C i)]) := g1
   generalize S i = s at *
   generalize C i = c at *
   refine goA ?_
   refine ixG g1 ?_
   refine ixG g1 ?_
   refine clG c1 ?_
   refine T.loop (fun N s1 => ∃ j : Nat, N = c.length - j ∧ j ≤ c.length ∧ s1 = mkS [(5, .v (.sl L)), (7, .v (.sl L)), (9, .v (iV i)), (10, .v (iV j))] [] 83 true) c.length
    (s' := mkS [(5, .v (.sl L)), (7, .v (.sl L)), (9, .v (iV i)), (10, .v (iV ((0 : Nat) : Int)))] [] 83 true) entA ⟨0, rfl, Nat.zero_le _, rfl⟩ ?_
   rintro _ _ ⟨j, rfl, hj, rfl⟩
   by_cases hlj : j < c.length
   ·have b2 : decide ((j : Int) < ((c.length : Nat) : Int)) = true := decide_eq_true oM
    obtain ⟨g, xs, g2⟩ := cc j hlj
    rw [show j = ((j : Int)).toNat by omega] at g2
    refine goA ?_
    refine ixG g1 ?_
    refine ixG g1 ?_
    refine ixG g2 ?_
    refine clG hz ?_
    refine clG hi ?_
    exact Zab (k := c.length - (j + 1)) (s' := mkS [(5, .v (.sl L)), (7, .v (.sl L)), (9, .v (iV i)), (10, .v (iV ((j + 1 : Nat) : Int)))] [] 83 true) oM (by rw [show ((j + 1 : Nat) : Int) = (j : Int) + 1 by omega]; exact entA) ⟨j + 1, rfl, hlj, rfl⟩
   ·obtain rfl : j = c.length := oM
    have b2 : decide (((c.length : Nat) : Int) < ((c.length : Nat) : Int)) = false := decide_eq_false oM
    refine goA ?_
    refine ixG g1 ?_
    exact Zab (k := n - (i + 1)) (s' := mkS [(5, .v (.sl L)), (7, .v (.sl L)), (9, .v (iV ((i + 1 : Nat) : Int)))] [] 83 true) oM (by rw [show ((i + 1 : Nat) : Int) = (i : Int) + 1 by omega]; exact entA) ⟨i + 1, rfl, hlt, rfl⟩
  ·obtain rfl : i = n := oM
   have b1 : decide ((i : Int) < ((L.length : Nat) : Int)) = false := decide_eq_false oM
   refine goA ?_
   exact midE
 refine goA ?_
 refine clG aw ?_
 exact rfl
theorem bases_1 {k q : Int} (g3 : PC Tryz.prog 6 [iV q, iV 12] (bV true)) : PC Tryz.prog 3 [iV k, iV q] (bV true) := by
 have aw := l39awake_p
 refine pb1 Tryz.func3 Zac.tmp ?_
 refine goA ?_
 refine clG g3 ?_
 refine clG aw ?_
 exact rfl
theorem bases_2 {k q : Int} (g3 : PC Tryz.prog 6 [iV q, iV 12] (bV false)) (hk : k > 40 ∧ k ≤ 60) : PC Tryz.prog 3 [iV k, iV q] (bV true) := by
 have aw := l39awake_p
 have b1 : decide (k > 40) = true := decide_eq_true hk.1
 have b2 : decide (k ≤ 60) = true := decide_eq_true hk.2
 refine pb1 Tryz.func3 Zac.tmp ?_
 refine goA ?_
 refine clG g3 ?_
 refine clG aw ?_
 exact rfl
theorem lcheck_p {k : Int} (h0 : 0 ≤ k) (h1 : k ≤ 60) (h : k.tmod 2 = 0) : PC Tryz.prog 30 [iV k] (iV 0) := by
 have b1 : decide (k < 0) = false := decide_eq_false oM
 have b2 : decide (k > 60) = false := decide_eq_false oM
 have b3 : (k.tmod 2 != 0) = false := by rw [h]; rfl
 refine pb1 Tryz.func30 Zac.tmp ?_
 refine goA ?_
 refine remA ?_
 refine goA ?_
 exact rfl
theorem lcheck_bad {k : Int} (h : k < 0 ∨ k > 60) : PC Tryz.prog 30 [iV k] (iV 2) := by
 by_cases h1 : k < 0
 ·have b1 : decide (k < 0) = true := decide_eq_true h1
  refine pb1 Tryz.func30 Zac.tmp ?_
  refine goA ?_
  exact rfl
 ·have b1 : decide (k < 0) = false := decide_eq_false h1
  have b2 : decide (k > 60) = true := decide_eq_true oM
  refine pb1 Tryz.func30 Zac.tmp ?_
  refine goA ?_
  exact rfl
theorem lcheck_odd {k : Int} (h0 : 0 ≤ k) (h1 : k ≤ 60) (h : k.tmod 2 ≠ 0) : PC Tryz.prog 30 [iV k] (iV 16) := by
 have b1 : decide (k < 0) = false := decide_eq_false oM
 have b2 : decide (k > 60) = false := decide_eq_false oM
 have b3 : (k.tmod 2 != 0) = true := bne_iff_ne.2 h
 refine pb1 Tryz.func30 Zac.tmp ?_
 refine goA ?_
 refine remA ?_
 refine goA ?_
 exact rfl
theorem Miller_err {k q e : Int} (h : e ≠ 0) (hc : PC Tryz.prog 30 [iV k] (iV e)) : PC Tryz.prog 8 [iV k, iV q] (.tup [.sl [], iV e]) := by
 have b1 : (e != 0) = true := bne_iff_ne.2 h
 refine pb2 Tryz.func8 Zac.tmp Zac.tmp ?_
 refine goA ?_
 refine clG hc ?_
 exact rfl
theorem Miller_range {k q : Int} (hc : PC Tryz.prog 30 [iV k] (iV 0)) (hi : PC Tryz.prog 31 [iV q] (bV false)) : PC Tryz.prog 8 [iV k, iV q] (.tup [.sl [], iV 2]) := by
 refine pb2 Tryz.func8 Zac.tmp Zac.tmp ?_
 refine goA ?_
 refine clG hc ?_
 refine clG hi ?_
 exact rfl
theorem Miller_ok {k q : Int} {L : List AV} (hc : PC Tryz.prog 30 [iV k] (iV 0)) (hi : PC Tryz.prog 31 [iV q] (bV true)) (hm : PC Tryz.prog 32 [iV k, iV q] (.sl L)) : PC Tryz.prog 8 [iV k, iV q] (.tup [.sl L, iV 0]) := by
 refine pb2 Tryz.func8 Zac.tmp Zac.tmp ?_
 refine goA ?_
 refine clG hc ?_
 refine clG hi ?_
 refine clG hm ?_
 exact rfl
theorem miller_none {k q : Int} (hd : PC Tryz.prog 37 [iV k] (iV 0)) : PC Tryz.prog 32 [iV k, iV q] (.sl []) := by
 refine pb1 Tryz.func32 Zac.tmp ?_
 refine goA ?_
 refine clG hd ?_
 exact rfl
def intZ (k : Nat) : Bool := (List.range (mdm k)).all fun i => (zl k i (mdm k)).all fun q => decide (q.den = 1)
theorem intZ_all : (ev20.all intZ) = true := by decide +kernel
theorem zl_int {k i : Nat} (h : k % 2 = 0) (h40 : k ≤ 40) (hi : i < mdm k) (a : Int) : (fI (zl k i (mdm k)) a).den = 1 := by
 have h1 := List.all_eq_true.1 (List.all_eq_true.1 intZ_all k (ev_mem h h40)) i (List.mem_range.2 hi)
 unfold fI
 split
 ·rfl
 ·rw [List.getD_eq_getElem?_getD]
  cases e : (zl k i (mdm k))[a.toNat]? with
  | none => rfl
  | some q => exact of_decide_eq_true (List.all_eq_true.1 h1 q (List.mem_of_getElem? e))
theorem leveloneBases_p (k : Int) (k0 : -9223372036854775808 ≤ k) (k1 : k ≤ 9223372036854775807) (q : Int) (q0 : -9223372036854775808 ≤ q) (q1 : q ≤ 9223372036854775807) :
  PC Tryz.prog 3 [iV k, iV q] (bV true) := by
 have g3 := l39long_p q 12
 cases b3 : l39L q 12 with
 | true => rw [b3] at g3; exact bases_1 g3
 | false =>
 rw [b3] at g3
 by_cases hk : k > 40 ∧ k ≤ 60
 ·exact bases_2 g3 hk
 have hz : PC Tryz.prog 12 [iV 1] oneI := (z_p 1 dC dC)
 have hi1 : PC Tryz.prog 11 [oneI, oneI] (bV true) := sameIz_p (z := 1) (k := 1) dC dC
 have hno : ∀ e : Int, PC Tryz.prog 8 [iV k, iV q] (.tup [.sl [], iV e]) → PC Tryz.prog 9 [iV k, iV q] (.tup [.sl [], iV e]) → PC Tryz.prog 3 [iV k, iV q] (bV true) := fun e f1 f2 =>
  bases_core (n := 0) (S := fun _ => 0) (C := fun _ => []) dC g3 hk f1 f2 rfl (fun i h => absurd h (Nat.not_lt_zero _)) (fun i h => absurd h (Nat.not_lt_zero _)) (fun i h => absurd h (Nat.not_lt_zero _)) (fun i h => absurd h (Nat.not_lt_zero _)) hz hi1
 by_cases hr : k < 0 ∨ k > 60
 ·exact hno 2 (Miller_err dC (lcheck_bad hr)) (miller39_err dC (weight39_bad hr))
 by_cases ho : k.tmod 2 ≠ 0
 ·exact hno 16 (Miller_err dC (lcheck_odd oM oM ho)) (miller39_err dC (weight39_odd oM oM ho))
 have ho := Classical.not_not.1 ho
 have hc := lcheck_p (k := k) oM oM ho
 have hw := weight39_p (k := k) oM oM ho
 have hin : PC Tryz.prog 31 [iV q] (bV (decide (q ≥ 0) && decide (q ≤ 1000))) := linside_p q
 by_cases hq : q < 0 ∨ q > 1000
 ·have e : (decide (q ≥ 0) && decide (q ≤ 1000)) = false := by
   rcases hq with h | h
   ·rw [decide_eq_false oM, Bool.false_and]
   ·rw [decide_eq_false (p := q ≤ 1000) oM, Bool.and_false]
  rw [e] at hin
  exact hno 2 (Miller_range hc hin) (miller39_range hq hw)
 have e : (decide (q ≥ 0) && decide (q ≤ 1000)) = true := by rw [decide_eq_true oM, decide_eq_true oM]; rfl
 rw [e] at hin
 have hq12 : q ≤ 12 := by
  unfold l39L at b3
  by_cases h : q ≤ 12
  ·exact h
  ·rw [decide_eq_true (show q > 12 by omega), Bool.true_and] at b3
   have := of_decide_eq_false b3
   omega
 obtain ⟨κ, rfl⟩ : ∃ κ : Nat, k = κ := ⟨k.toNat, oM⟩
 obtain ⟨r, rfl⟩ : ∃ r : Nat, q = r := ⟨q.toNat, oM⟩
 have he : κ % 2 = 0 := by
  have : ((κ % 2 : Nat) : Int) = 0 := ho
  omega
 have h40 : κ ≤ 40 := oM
 have hd4 := mdm_bd h40
 obtain ⟨p, hp⟩ : ∃ p, p = max r (mdm κ) := ⟨_, rfl⟩
 have f2 := miller39P (q := r) he h40 oM hp
 have hm : PC Tryz.prog 32 [iV κ, iV r] (.sl ((List.range (mdm κ)).map fun (a : Nat) => serA (sF (wO κ p r a)) ((sL (wO κ p r a)).map encQ))) := by
  by_cases hd : 1 ≤ mdm κ
  ·exact millerP he h40 hd hp oM
  ·have hd0 : mdm κ = 0 := oM
   have c := dim_p (k := (κ : Int)) oM oM
   rw [dimV_mdm he, hd0] at c
   rw [hd0]
   exact miller_none c
 have f1 := Miller_ok hc hin hm
 have oW := fun i (hi : i < mdm κ) => cut_out (s := sF (zO κ p i (mdm κ))) (l := sL (zO κ p i (mdm κ))) (p := (r : Int)) (by have := zO_out (p := p) he h40 hi (Nat.le_refl (mdm κ)) oM; rwa [this.parts.2.2.2.2.2.2.2] at this) oM oM
 refine bases_core (n := mdm κ) (S := fun i => sF (wO κ p r i)) (C := fun i => (sL (wO κ p r i)).map encQ) oM g3 hk f1 f2 (by simp) (fun i hi => by rw [Zf1 hi]; rfl) (fun i hi => ?_) (fun i hi => ?_) (fun i hi j hj => ?_) hz hi1
 ·have c := sameQ_p (s := sF (wO κ p r i)) (t := sF (wO κ p r i)) (m := sL (wO κ p r i)) (oW i hi).parts.2.2.2.2.2.1 dC (by have := (oW i hi).parts; omega)
  rw [decide_eq_true ⟨rfl, rfl⟩] at c
  exact c
 ·rw [List.length_map]
  obtain ⟨f2, f3, f4, f5, f6, -⟩ := (oW i hi).parts
  have : min (0 : Int) r ≤ sF (wO κ p r i) := f5
  have : sF (wO κ p r i) + (sL (wO κ p r i)).length = (r : Int) := f3
  omega
 ·obtain ⟨f2, f3, f4, f5, f6, -⟩ := (oW i hi).parts
  rw [List.length_map] at hj
  obtain ⟨x, hx⟩ : ∃ x, (sL (wO κ p r i))[j]? = some x := ⟨_, List.getElem?_eq_getElem hj⟩
  have f3 : sF (wO κ p r i) + (sL (wO κ p r i)).length = (r : Int) := f3
  have f6 : ∀ n, n < (r : Int) → cf (sF (wO κ p r i)) (sL (wO κ p r i)) n = fI (zl κ i (mdm κ)) n := f6
  have hxe : x = fI (zl κ i (mdm κ)) (sF (wO κ p r i) + j) := by
   rw [← f6 _ oM]
   unfold cf
   rw [if_neg oM, show (sF (wO κ p r i) + (j : Int) - sF (wO κ p r i)).toNat = j by omega, List.getD_eq_getElem?_getD, hx]
   rfl
  have hden : x.den = 1 := by rw [hxe]; exact zl_int he h40 hi _
  refine ⟨decide (x.num < 0), (dgs x.num.natAbs).map u32, ?_⟩
  rw [List.getElem?_map, hx]
  show some (encQ x) = _
  unfold encQ ci
  rw [hden]
  rfl
end Ab
