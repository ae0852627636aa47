/- Binomials, Serre's derivative and brackets by the contracts of what they call; the example of the chapter on quasimodular forms: walked. -/
import Derived.Test.YtkbccidalhefaaaGreatQmX
import Derived.Test.YtkbccidalhefaaaGreatSTB
set_option linter.all false
namespace Ab
open Go Go.RowKit Go.Proofs Hp
set_option maxRecDepth 100000

/-- binomials, as the program -/
def bnG (m : Int) : Nat → Int
  | 0 => 1
  | i + 1 => (bnG m i * (m - i)).tdiv ((i : Int) + 1)
def bnGOK : Bool := (List.range 70).all fun a => (List.range 8).all fun i => decide ((bnG ((a : Int) - 2) i).natAbs ≤ 1000000000)
theorem bnG_ok : bnGOK = true := by decide +kernel
theorem bnG_le {m : Int} {i : Nat} (h0 : -2 ≤ m) (h1 : m ≤ 67) (hi : i < 8) : (bnG m i).natAbs ≤ 1000000000 := by
  have h := List.all_eq_true.1 (List.all_eq_true.1 bnG_ok (m + 2).toNat (List.mem_range.2 (by omega))) i (List.mem_range.2 hi)
  rw [show (((m + 2).toNat : Int)) - 2 = m by omega] at h
  exact of_decide_eq_true h
theorem qbin_p {m : Int} {s : Nat} (h0 : -2 ≤ m) (h1 : m ≤ 67) (hs : s ≤ 7) : PC Tryz.prog 47 [iV m, iV s] (iV (bnG m s)) := by
  refine pc_body1 true Tryz.func47 rfl rfl rfl (Nat.le_of_ble_eq_true rfl) CellT.tmp ?_
  refine r1A ?_
  refine r1A ?_
  refine T.seqI (fun s1 => s1 = mkS [(5, .v (iV (bnG m s)))] [] 21 true) ?_ ?_
  · refine r1A ?_
    refine T.block ?_
    refine T.loop (fun N s1 => ∃ i : Nat, N = s - i ∧ i ≤ s ∧ s1 = mkS [(0, .v (iV m)), (5, .v (iV (bnG m i))), (7, .v (iV s)), (8, .v (iV i))] [] 21 true) s
      (s' := mkS [(0, .v (iV m)), (5, .v (iV 1)), (7, .v (iV s)), (8, .v (iV ((0 : Nat) : Int)))] [] 21 true) (by exact entA) ⟨0, rfl, Nat.zero_le _, rfl⟩ ?_
    rintro _ _ ⟨i, rfl, hi, rfl⟩
    by_cases hlt : i < s
    · have b1 : decide ((i : Int) < (s : Int)) = true := decide_eq_true (by omega)
      have hb := bnG_le h0 h1 (i := i) (by omega)
      have hx : (bnG m i * (m - i)).natAbs ≤ 1000000000 * 100 := by
        rw [Int.natAbs_mul]
        exact Nat.mul_le_mul hb (by omega)
      have hstep : bnG m (i + 1) = (bnG m i * (m - i)).tdiv ((i : Int) + 1) := rfl
      have hb2 := bnG_le h0 h1 (i := i + 1) (by omega)
      rw [hstep] at hb2
      generalize hB : bnG m i = B at *
      generalize hP : B * (m - (i : Int)) = P at *
      have hw : ∀ q : Int, q = P.tdiv ((i : Int) + 1) → IntKind.i64.wrap q = q := fun q hq => w64 (by rw [hq]; omega) (by rw [hq]; omega)
      refine goA ?_
      rw [hP]
      refine evG ggA (ss_div (op := .quo) (c := P.tdiv ((i : Int) + 1)) (InB_of rfl) rfl rfl (by omega) (hw _ rfl)) ?_
      refine goA ?_
      exact loopQ_intro (k := s - (i + 1)) (s' := mkS [(0, .v (iV m)), (5, .v (iV (P.tdiv ((i : Int) + 1)))), (7, .v (iV s)), (8, .v (iV ((i : Int) + 1)))] [] 21 true) (by omega) (by exact entA) ⟨i + 1, rfl, hlt, by rw [hstep]; rfl⟩
    · obtain rfl : i = s := by omega
      have b1 : decide ((i : Int) < (i : Int)) = false := decide_eq_false (by omega)
      refine goA ?_
      exact midQ_intro (s' := mkS [(5, .v (iV (bnG m i)))] [] 21 true) (by exact entA) rfl
  rintro _ rfl
  refine goA ?_
  exact rfl
theorem sameRatz_p {q : Rat} {K : Nat} (h : Ht q K) (hK : K ≤ 1000000000000) : PC Tryz.prog 53 [encQ q, encQ q] (bV true) := by
  have c := sameRat_p (rq q) (rq q) (by
    have := dgs_len h.1
    show (dgs q.num.natAbs).length ≤ _
    omega) (by
    have h2 := h.2
    have := dgs_len (z := (q.den : Int).natAbs) (by rw [Int.natAbs_natCast]; exact h2)
    show (dgs (q.den : Int).natAbs).length ≤ _
    omega)
  rw [decide_eq_true rfl] at c
  exact c
theorem av_idx {l : List QT} {A B : List QT} {t : QT} (h : l = A ++ t :: B) : (PL l)[((A.length : Nat) : Int).toNat]? = some (qe t).av := by
  subst h
  unfold PL
  rw [List.map_append, List.map_cons]
  exact av_get (by rw [List.length_map]; omega)
set_option maxHeartbeats 8000000 in
/-- a polynomial held against itself -/
theorem rsame38_p {l : List QT} {K : Nat} (hl : l.length ≤ 1000000) (h : ∀ t, t ∈ l → Ht t.q K) (hK : K ≤ 1000000000000) : PC Tryz.prog 27 [.sl (PL l), .sl (PL l)] (bV true) := by
  have hpl := PL_len l
  refine pc_body1 true Tryz.func27 rfl rfl rfl (Nat.le_of_ble_eq_true rfl) CellT.tmp ?_
  have b0 : (((PL l).length : Int) != ((PL l).length : Int)) = false := by simp
  obtain ⟨X, hX⟩ : ∃ X, X = PL l := ⟨_, rfl⟩
  rw [← hX] at hpl b0 ⊢
  refine goA ?_
  refine T.loop (fun N s1 => ∃ A B : List QT, l = A ++ B ∧ N = B.length ∧ s1 = mkS [(0, .v (.sl X)), (1, .v (.sl X)), (4, .v (bV false)), (5, .v (iV A.length))] [] 68 true) l.length
    (s' := mkS [(0, .v (.sl X)), (1, .v (.sl X)), (4, .v (bV false)), (5, .v (iV ((0 : Nat) : Int)))] [] 68 true) (by exact entA) ⟨[], l, rfl, rfl, rfl⟩ ?_
  rintro _ _ ⟨A, B, hAB, rfl, rfl⟩
  have hlA : l.length = A.length + B.length := by rw [hAB]; simp
  rcases B with _ | ⟨t, B⟩
  · have b1 : decide ((A.length : Int) < (X.length : Int)) = false := decide_eq_false (by simp at hlA; omega)
    refine goA ?_
    exact rfl
  have b1 : decide ((A.length : Int) < (X.length : Int)) = true := decide_eq_true (by simp at hlA; omega)
  have hget : X[((A.length : Nat) : Int).toNat]? = some (qe t).av := by rw [hX]; exact av_idx hAB
  have cs := sameRatz_p (h t (by rw [hAB]; simp)) hK
  have hAB2 : l = (A ++ [t]) ++ B := by rw [hAB]; simp
  have hlB : B.length < (t :: B).length := by simp
  have hnx : ((A.length : Nat) : Int) + 1 = ((A ++ [t]).length : Nat) := by simp
  simp only [List.length_cons] at hlA
  clear hAB
  obtain ⟨a, b, c, q⟩ := t
  have hget : X[((A.length : Nat) : Int).toNat]? = some (.agg [iV a, iV b, iV c, .p (.bool (decide (q.num < 0))), .sl ((dgs q.num.natAbs).map u32), .p (.bool (decide ((q.den : Int) < 0))), .sl ((dgs (q.den : Int).natAbs).map u32)]) := hget
  have n1 : (a != a) = false := by simp
  have n2 : (b != b) = false := by simp
  have n3 : (c != c) = false := by simp
  refine goA ?_
  refine evG ggA (ss_index_sl (InB_of rfl) (elem_tab rfl) rfl rfl (by omega) hget rfl) ?_
  refine goA ?_
  refine evG ggA (ss_index_sl (InB_of rfl) (elem_tab rfl) rfl rfl (by omega) hget rfl) ?_
  refine goA ?_
  refine evG ggA (ss_index_sl (InB_of rfl) (elem_tab rfl) rfl rfl (by omega) hget rfl) ?_
  refine goA ?_
  refine evG ggA (ss_index_sl (InB_of rfl) (elem_tab rfl) rfl rfl (by omega) hget rfl) ?_
  refine goA ?_
  refine evG ggA (ss_index_sl (InB_of rfl) (elem_tab rfl) rfl rfl (by omega) hget rfl) ?_
  refine goA ?_
  refine evG ggA (ss_index_sl (InB_of rfl) (elem_tab rfl) rfl rfl (by omega) hget rfl) ?_
  refine goA ?_
  refine evG ggA (ss_index_sl (InB_of rfl) (elem_tab rfl) rfl rfl (by omega) hget rfl) ?_
  refine goA ?_
  refine evG ggA (ss_index_sl (InB_of rfl) (elem_tab rfl) rfl rfl (by omega) hget rfl) ?_
  refine goA ?_
  refine evG ggA (ss_call (InB_of rfl) rfl rfl cs) ?_
  refine goA ?_
  rw [hnx]
  exact loopQ_intro (k := B.length) (s' := mkS [(0, .v (.sl X)), (1, .v (.sl X)), (4, .v (bV false)), (5, .v (iV ((A ++ [(⟨a, b, c, q⟩ : QT)]).length : Nat)))] [] 68 true) hlB (by exact entA) ⟨A ++ [⟨a, b, c, q⟩], B, hAB2, rfl, rfl⟩
/-- Serre's derivative, where there is one -/
theorem qserre_core {X T1 D W C R : List AV} {f : Rat} {k : Int} (hv : PC Tryz.prog 30 [.sl X] (bV true)) (ht : PC Tryz.prog 31 [.sl X] (.sl T1)) (hp : PC Tryz.prog 38 [.sl T1] (.tup [iV k, bV true])) (hT : 0 < T1.length) (hk : k + 2 ≤ 60) (hk0 : 0 ≤ k)
    (hf : PC Tryz.prog 40 [iV (0 - k), iV 12] (encQ f)) (hw : PC Tryz.prog 39 [.sl T1, .sl [(qe ⟨1, 0, 0, f⟩).av]] (.sl W)) (hd : PC Tryz.prog 33 [.sl T1] (.sl D))
    (hc : PC Tryz.prog 41 [.sl [.sl D, .sl W]] (.sl C)) (hr : PC Tryz.prog 31 [.sl C] (.sl R)) : PC Tryz.prog 10 [.sl X] (.tup [.sl R, iV 0]) := by
  have b1 : decide ((T1.length : Int) > 0) = true := decide_eq_true (by omega)
  have b2 : decide (k + 2 > 60) = false := decide_eq_false (by omega)
  refine pc_body2 true Tryz.func10 rfl rfl rfl (Nat.le_of_ble_eq_true rfl) CellT.tmp CellT.tmp ?_
  refine goA ?_
  refine evG ggA (ss_call (InB_of rfl) rfl rfl hv) ?_
  refine goA ?_
  refine evG ggA (ss_call (InB_of rfl) rfl rfl ht) ?_
  refine goA ?_
  refine evG ggA (ss_call (InB_of rfl) rfl rfl hp) ?_
  refine goA ?_
  refine evG ggA (ss_call (InB_of rfl) rfl rfl hf) ?_
  refine goA ?_
  refine evG ggA (ss_bslice (InB_of rfl) (make_tab rfl) rfl rfl rfl rfl (ones_ok rfl) (Nat.le_of_ble_eq_true rfl)) ?_
  refine evG ggA (ss_call (InB_of rfl) rfl rfl hw) ?_
  refine goA ?_
  refine evG ggA (ss_call (InB_of rfl) rfl rfl hd) ?_
  refine goA ?_
  refine evG ggA (ss_bslice (InB_of rfl) (make_tab rfl) rfl rfl rfl rfl (ones_ok rfl) (Nat.le_of_ble_eq_true rfl)) ?_
  refine evG ggA (ss_call (InB_of rfl) rfl rfl hc) ?_
  refine evG ggA (ss_call (InB_of rfl) rfl rfl hr) ?_
  refine goA ?_
  exact rfl
set_option maxHeartbeats 16000000 in
/-- a bracket, where there is one -/
theorem qbracket_core {n : Nat} (hn : n ≤ 6) {X Y R : List AV} {f g : Nat → List AV} {k l : Int} {tm sc : Nat → List AV} {b1 b2 : Nat → Int} {q : Nat → Rat}
    (hv1 : PC Tryz.prog 30 [.sl X] (bV true)) (hv2 : PC Tryz.prog 30 [.sl Y] (bV true))
    (ht1 : PC Tryz.prog 31 [.sl X] (.sl (f 0))) (ht2 : PC Tryz.prog 31 [.sl Y] (.sl (g 0)))
    (hp1 : PC Tryz.prog 38 [.sl (f 0)] (.tup [iV k, bV true])) (hp2 : PC Tryz.prog 38 [.sl (g 0)] (.tup [iV l, bV true]))
    (h1 : 0 < (f 0).length) (h2 : 0 < (g 0).length) (hk : 0 ≤ k ∧ k ≤ 60) (hl : 0 ≤ l ∧ l ≤ 60) (hkl : k + l + 2 * n ≤ 60)
    (hd1 : ∀ i, i < n → PC Tryz.prog 33 [.sl (f i)] (.sl (f (i + 1)))) (hd2 : ∀ i, i < n → PC Tryz.prog 33 [.sl (g i)] (.sl (g (i + 1))))
    (hb1 : ∀ r, r ≤ n → PC Tryz.prog 47 [iV ((n : Int) + k - 1), iV ((n : Int) - r)] (iV (b1 r))) (hb2 : ∀ r, r ≤ n → PC Tryz.prog 47 [iV ((n : Int) + l - 1), iV r] (iV (b2 r)))
    (hbl : ∀ r, r ≤ n → (b1 r * b2 r).natAbs ≤ 1000000000000000000)
    (hof : ∀ r, r ≤ n → PC Tryz.prog 49 [iV (if r % 2 = 0 then b1 r * b2 r else -(b1 r * b2 r))] (encQ (q r)))
    (htm : ∀ r, r ≤ n → PC Tryz.prog 39 [.sl (f r), .sl (g (n - r))] (.sl (tm r))) (hsc : ∀ r, r ≤ n → PC Tryz.prog 48 [encQ (q r), .sl (tm r)] (.sl (sc r)))
    (hcs : ∀ r, r ≤ n → (∀ a, a ∈ sc r → a.cells.length = 7 ∧ ∀ c, c ∈ a.cells → c.nu = true) ∧ (sc r).length ≤ 100000)
    (hR : PC Tryz.prog 31 [.sl ((List.range (n + 1)).flatMap sc)] (.sl R)) : PC Tryz.prog 12 [.sl X, .sl Y, iV n] (.tup [.sl R, iV 0]) := by
  have c1 : decide ((n : Int) < 0) = false := decide_eq_false (by omega)
  have c2 : decide ((n : Int) > 6) = false := decide_eq_false (by omega)
  have c3 : (((f 0).length : Int) == 0) = false := by simp; intro h; rw [h] at h1; simp at h1
  have c4 : (((g 0).length : Int) == 0) = false := by simp; intro h; rw [h] at h2; simp at h2
  have c5 : decide (k + l + 2 * (n : Int) > 60) = false := decide_eq_false (by omega)
  have fm : ∀ m, ((List.range m).map (fun i => AV.sl (f i))).length = m := fun m => by simp
  have gm : ∀ m, ((List.range m).map (fun i => AV.sl (g i))).length = m := fun m => by simp
  have fa : ∀ m i, i < m → ((List.range m).map (fun i => AV.sl (f i)))[i]? = some (.sl (f i)) := fun m i h => by rw [List.getElem?_map, List.getElem?_range h]; rfl
  have ga : ∀ m i, i < m → ((List.range m).map (fun i => AV.sl (g i)))[i]? = some (.sl (g i)) := fun m i h => by rw [List.getElem?_map, List.getElem?_range h]; rfl
  have fs : ∀ m, (List.range m).map (fun i => AV.sl (f i)) ++ [.sl (f m)] = (List.range (m + 1)).map (fun i => AV.sl (f i)) := fun m => by rw [List.range_succ, List.map_append]; rfl
  have gs : ∀ m, (List.range m).map (fun i => AV.sl (g i)) ++ [.sl (g m)] = (List.range (m + 1)).map (fun i => AV.sl (g i)) := fun m => by rw [List.range_succ, List.map_append]; rfl
  refine pc_body2 true Tryz.func12 rfl rfl rfl (Nat.le_of_ble_eq_true rfl) CellT.tmp CellT.tmp ?_
  refine goA ?_
  refine evG ggA (ss_call (InB_of rfl) rfl rfl hv1) ?_
  refine goA ?_
  refine evG ggA (ss_call (InB_of rfl) rfl rfl hv2) ?_
  refine goA ?_
  refine evG ggA (ss_call (InB_of rfl) rfl rfl ht1) ?_
  refine goA ?_
  refine evG ggA (ss_call (InB_of rfl) rfl rfl ht2) ?_
  refine goA ?_
  refine evG ggA (ss_call (InB_of rfl) rfl rfl hp1) ?_
  refine goA ?_
  refine evG ggA (ss_call (InB_of rfl) rfl rfl hp2) ?_
  refine goA ?_
  refine evG ggA (ss_bslice_own 31 (InB_of rfl) rfl (make_tab rfl) rfl rfl rfl rfl (ones_ok rfl) (Nat.le_of_ble_eq_true rfl) (by decide) (fun _ a ha => by rw [List.mem_singleton] at ha; subst ha; exact List.all_eq_true.1 rfl)) ?_
  refine goA ?_
  refine evG ggA (ss_bslice_own 32 (InB_of rfl) rfl (make_tab rfl) rfl rfl rfl rfl (ones_ok rfl) (Nat.le_of_ble_eq_true rfl) (by decide) (fun _ a ha => by rw [List.mem_singleton] at ha; subst ha; exact List.all_eq_true.1 rfl)) ?_
  refine runA ?_
  refine ev_nil ?_
  refine osA ?_
  refine T.seqI (fun s1 => s1 = mkS [(2, .v (iV n)), (8, .v (iV k)), (10, .v (iV l)), (12, .v (.sl ((List.range (n + 1)).map (fun i => AV.sl (f i))))), (13, .v (.sl ((List.range (n + 1)).map (fun i => AV.sl (g i)))))] [] 138 true) ?_ ?_
  · refine r1A ?_
    refine T.block ?_
    refine T.loop (fun N s1 => ∃ i : Nat, N = n - i ∧ i ≤ n ∧ s1 = mkS [(2, .v (iV n)), (8, .v (iV k)), (10, .v (iV l)), (12, .own 31 (i + 1)), (13, .own 32 (i + 1)), (73, .v (iV n)), (74, .v (iV i))] [(31, .lst 1 23 ((List.range (i + 1)).map (fun i => AV.sl (f i)))), (32, .lst 1 23 ((List.range (i + 1)).map (fun i => AV.sl (g i))))] 138 true) n
      (s' := mkS [(2, .v (iV n)), (8, .v (iV k)), (10, .v (iV l)), (12, .own 31 1), (13, .own 32 1), (73, .v (iV n)), (74, .v (iV ((0 : Nat) : Int)))] [(31, .lst 1 23 [.sl (f 0)]), (32, .lst 1 23 [.sl (g 0)])] 138 true) (by exact entA) ⟨0, rfl, Nat.zero_le _, rfl⟩ ?_
    rintro _ _ ⟨i, rfl, hi, rfl⟩
    have ef := fm (i + 1)
    have eg := gm (i + 1)
    by_cases hlt : i < n
    · have b1 : decide ((i : Int) < (n : Int)) = true := decide_eq_true (by omega)
      have e1 := fa (i + 1) i (by omega)
      have e2 := ga (i + 1) i (by omega)
      have e3 := fs (i + 1)
      have e4 := gs (i + 1)
      have d1 := hd1 i hlt
      have d2 := hd2 i hlt
      generalize (List.range (i + 1)).map (fun i => AV.sl (f i)) = F at *
      generalize (List.range (i + 1)).map (fun i => AV.sl (g i)) = G at *
      refine goA ?_
      refine evG ggA (ss_index_own (InB_of rfl) (elem_tab rfl) rfl rfl ef rfl (by omega) (by omega)) ?_
      rw [show ((i : Nat) : Int).toNat = i by omega]
      refine evG ggA (ss_load_op1 (InB_of rfl) (one_tab rfl) rfl rfl ef e1 rfl) ?_
      refine goA ?_
      refine evG ggA (ss_call (InB_of rfl) rfl rfl d1) ?_
      refine evG ggA (ss_bslice (InB_of rfl) (make_tab rfl) rfl rfl rfl rfl (ones_ok rfl) (Nat.le_of_ble_eq_true rfl)) ?_
      refine evG ggA (ss_snocA (a := .sl (f (i + 1))) (InB_of rfl) (make_tab rfl) rfl rfl ef rfl rfl (by decide) rfl (by omega) (Nat.le_of_ble_eq_true rfl) rfl) ?_
      rw [e3]
      refine goA ?_
      refine evG ggA (ss_index_own (InB_of rfl) (elem_tab rfl) rfl rfl eg rfl (by omega) (by omega)) ?_
      rw [show ((i : Nat) : Int).toNat = i by omega]
      refine evG ggA (ss_load_op1 (InB_of rfl) (one_tab rfl) rfl rfl eg e2 rfl) ?_
      refine goA ?_
      refine evG ggA (ss_call (InB_of rfl) rfl rfl d2) ?_
      refine evG ggA (ss_bslice (InB_of rfl) (make_tab rfl) rfl rfl rfl rfl (ones_ok rfl) (Nat.le_of_ble_eq_true rfl)) ?_
      refine evG ggA (ss_snocA (a := .sl (g (i + 1))) (InB_of rfl) (make_tab rfl) rfl rfl eg rfl rfl (by decide) rfl (by omega) (Nat.le_of_ble_eq_true rfl) rfl) ?_
      rw [e4]
      refine goA ?_
      exact loopQ_intro (k := n - (i + 1)) (s' := mkS [(2, .v (iV n)), (8, .v (iV k)), (10, .v (iV l)), (12, .own 31 (i + 1 + 1)), (13, .own 32 (i + 1 + 1)), (73, .v (iV n)), (74, .v (iV ((i : Int) + 1)))] [(31, .lst 1 23 ((List.range (i + 1 + 1)).map (fun i => AV.sl (f i)))), (32, .lst 1 23 ((List.range (i + 1 + 1)).map (fun i => AV.sl (g i))))] 138 true) (by omega) (by exact entA) ⟨i + 1, rfl, hlt, rfl⟩
    · obtain rfl : i = n := by omega
      have b1 : decide ((i : Int) < (i : Int)) = false := decide_eq_false (by omega)
      refine goA ?_
      exact midQ_intro (s' := mkS [(2, .v (iV i)), (8, .v (iV k)), (10, .v (iV l)), (12, .v (.sl ((List.range (i + 1)).map (fun i => AV.sl (f i))))), (13, .v (.sl ((List.range (i + 1)).map (fun i => AV.sl (g i)))))] [] 138 true) (by exact entA) rfl
  rintro _ rfl
  have fa := fa (n + 1)
  have ga := ga (n + 1)
  clear fs gs fm gm hd1 hd2 ht1 ht2 hp1 hp2 hv1 hv2 c1 c2 c3 c4 c5 h1 h2
  generalize (List.range (n + 1)).map (fun i => AV.sl (f i)) = F at *
  generalize (List.range (n + 1)).map (fun i => AV.sl (g i)) = G at *
  refine r1A ?_
  refine T.seqI (fun s1 => s1 = mkS [(15, .v (.sl ((List.range (n + 1)).flatMap sc)))] [] 138 true) ?_ ?_
  · refine r1A ?_
    refine T.block ?_
    refine T.loop (fun N s1 => ∃ r : Nat, N = n + 1 - r ∧ r ≤ n + 1 ∧ ((List.range r).flatMap sc).length ≤ r * 100000 ∧ s1 = mkS [(2, .v (iV n)), (8, .v (iV k)), (10, .v (iV l)), (12, .v (.sl F)), (13, .v (.sl G)), (15, .own 100 ((List.range r).flatMap sc).length), (95, .v (iV ((n : Int) + 1))), (96, .v (iV r))] [(100, .lst 7 50 ((List.range r).flatMap sc))] 138 true) (n + 1)
      (s' := mkS [(2, .v (iV n)), (8, .v (iV k)), (10, .v (iV l)), (12, .v (.sl F)), (13, .v (.sl G)), (15, .own 100 0), (95, .v (iV ((n : Int) + 1))), (96, .v (iV ((0 : Nat) : Int)))] [(100, .lst 7 50 [])] 138 true) (by exact entA) ⟨0, rfl, Nat.zero_le _, by simp, rfl⟩ ?_
    rintro _ _ ⟨r, rfl, hr, hol, rfl⟩
    by_cases hlt : r < n + 1
    · have d1 : decide ((r : Int) < (n : Int) + 1) = true := decide_eq_true (by omega)
      have e1 : F[((r : Nat) : Int).toNat]? = some (.sl (f r)) := by rw [show ((r : Nat) : Int).toNat = r by omega]; exact fa r hlt
      have e2 : G[((n : Int) - (r : Int)).toNat]? = some (.sl (g (n - r))) := by rw [show ((n : Int) - (r : Int)).toNat = n - r by omega]; exact ga _ (by omega)
      have k1 := hb1 r (by omega)
      have k2 := hb2 r (by omega)
      have k3 := hbl r (by omega)
      have k4 := hof r (by omega)
      have k5 := htm r (by omega)
      have k6 := hsc r (by omega)
      obtain ⟨k7, k8⟩ := hcs r (by omega)
      have k9 : ∀ a, a ∈ sc r → a.cells.length = 7 := fun a ha => (k7 a ha).1
      have k10 : ∀ a, a ∈ sc r → ∀ c, c ∈ a.cells → c.nu = true := fun a ha => (k7 a ha).2
      have hstep : (List.range r).flatMap sc ++ sc r = (List.range (r + 1)).flatMap sc := by rw [List.range_succ, List.flatMap_append]; simp
      have hol2 : ((List.range r).flatMap sc).length + (sc r).length ≤ (r + 1) * 100000 := by omega
      have hlen2 : ((List.range (r + 1)).flatMap sc).length = ((List.range r).flatMap sc).length + (sc r).length := by rw [← hstep]; simp
      generalize hS : (List.range r).flatMap sc = S at *
      generalize hS2 : (List.range (r + 1)).flatMap sc = S2 at *
      generalize hB1 : b1 r = B1 at *
      generalize hB2 : b2 r = B2 at *
      generalize hP : B1 * B2 = P at *
      generalize q r = qr at *
      have hb : S.length + (sc r).length ≤ 700000 := by omega
      by_cases hpar : r % 2 = 0
      · have d2 : (((r : Int)).tmod 2 != 0) = false := by rw [show (r : Int).tmod 2 = ((r % 2 : Nat) : Int) from (Int.ofNat_tmod r 2).symm, hpar]; rfl
        rw [if_pos hpar] at k4
        refine goA ?_
        refine evG ggA (ss_call (InB_of rfl) rfl rfl k1) ?_
        refine goA ?_
        refine evG ggA (ss_call (InB_of rfl) rfl rfl k2) ?_
        refine goA ?_
        rw [hP]
        refine goA ?_
        refine evG ggA (ss_div (op := .rem) (InB_of rfl) rfl rfl (by omega) rfl) ?_
        refine goA ?_
        refine evG ggA (ss_call (InB_of rfl) rfl rfl k4) ?_
        refine goA ?_
        refine evG ggA (ss_index_sl (InB_of rfl) (elem_tab rfl) rfl rfl (by omega) e1 rfl) ?_
        refine goA ?_
        refine evG ggA (ss_index_sl (InB_of rfl) (elem_tab rfl) rfl rfl (by omega) e2 rfl) ?_
        refine goA ?_
        refine evG ggA (ss_call (InB_of rfl) rfl rfl k5) ?_
        refine evG ggA (ss_call (InB_of rfl) rfl rfl k6) ?_
        refine evG ggA (ss_append (InB_of rfl) (make_tab rfl) rfl rfl rfl rfl k9 (by decide) (by unfold maxLen; omega) (by omega) rfl (fun _ => k10)) ?_
        rw [hstep]
        refine goA ?_
        rw [← hlen2]
        exact loopQ_intro (k := n + 1 - (r + 1)) (s' := mkS [(2, .v (iV n)), (8, .v (iV k)), (10, .v (iV l)), (12, .v (.sl F)), (13, .v (.sl G)), (15, .own 100 S2.length), (95, .v (iV ((n : Int) + 1))), (96, .v (iV ((r : Int) + 1)))] [(100, .lst 7 50 S2)] 138 true) (by omega) (by exact entA) ⟨r + 1, rfl, hlt, by rw [hS2, hlen2]; omega, by rw [hS2]; rfl⟩
      · have d2 : (((r : Int)).tmod 2 != 0) = true := by rw [show (r : Int).tmod 2 = ((r % 2 : Nat) : Int) from (Int.ofNat_tmod r 2).symm, show r % 2 = 1 by omega]; rfl
        rw [if_neg hpar] at k4
        have hneg : (0 : Int) - P = -P := Int.zero_sub P
        refine goA ?_
        refine evG ggA (ss_call (InB_of rfl) rfl rfl k1) ?_
        refine goA ?_
        refine evG ggA (ss_call (InB_of rfl) rfl rfl k2) ?_
        refine goA ?_
        rw [hP]
        refine goA ?_
        refine evG ggA (ss_div (op := .rem) (InB_of rfl) rfl rfl (by omega) rfl) ?_
        refine goA ?_
        rw [hneg]
        refine goA ?_
        refine evG ggA (ss_call (InB_of rfl) rfl rfl k4) ?_
        refine goA ?_
        refine evG ggA (ss_index_sl (InB_of rfl) (elem_tab rfl) rfl rfl (by omega) e1 rfl) ?_
        refine goA ?_
        refine evG ggA (ss_index_sl (InB_of rfl) (elem_tab rfl) rfl rfl (by omega) e2 rfl) ?_
        refine goA ?_
        refine evG ggA (ss_call (InB_of rfl) rfl rfl k5) ?_
        refine evG ggA (ss_call (InB_of rfl) rfl rfl k6) ?_
        refine evG ggA (ss_append (InB_of rfl) (make_tab rfl) rfl rfl rfl rfl k9 (by decide) (by unfold maxLen; omega) (by omega) rfl (fun _ => k10)) ?_
        rw [hstep]
        refine goA ?_
        rw [← hlen2]
        exact loopQ_intro (k := n + 1 - (r + 1)) (s' := mkS [(2, .v (iV n)), (8, .v (iV k)), (10, .v (iV l)), (12, .v (.sl F)), (13, .v (.sl G)), (15, .own 100 S2.length), (95, .v (iV ((n : Int) + 1))), (96, .v (iV ((r : Int) + 1)))] [(100, .lst 7 50 S2)] 138 true) (by omega) (by exact entA) ⟨r + 1, rfl, hlt, by rw [hS2, hlen2]; omega, by rw [hS2]; rfl⟩
    · obtain rfl : r = n + 1 := by omega
      have d1 : decide (((n + 1 : Nat) : Int) < (n : Int) + 1) = false := decide_eq_false (by omega)
      refine goA ?_
      exact midQ_intro (s' := mkS [(15, .v (.sl ((List.range (n + 1)).flatMap sc)))] [] 138 true) (by exact entA) rfl
  rintro _ rfl
  refine goA ?_
  refine evG ggA (ss_call (InB_of rfl) rfl rfl hR) ?_
  refine goA ?_
  exact rfl
end Ab
