/- The statement QuasimodularDerivatives: the document's brackets, what both sides answer, the walk of the law. -/
import Derived.Test.YtkbccidalhefaaaGreatQdC
set_option linter.all false
namespace Ab
open Go Go.RowKit Go.Proofs Hp
set_option maxRecDepth 100000

set_option maxHeartbeats 16000000 in
theorem rbracket_core {n : Nat} (hn : n ≤ 6) {X Y : List AV} {f g acc tm sc : Nat → List AV} {k l : Int} {q : Nat → Rat} (h2 : PC Tryz.prog 50 [.sl X, .sl Y] (iV 0)) (n1 : PC Tryz.prog 35 [.sl X] (.sl (f 0))) (n2 : PC Tryz.prog 35 [.sl Y] (.sl (g 0)))
    (p1 : PC Tryz.prog 42 [.sl (f 0)] (bV true)) (p2 : PC Tryz.prog 42 [.sl (g 0)] (bV true)) (l1 : 0 < (f 0).length) (l2 : 0 < (g 0).length) (t1 : PC Tryz.prog 36 [.sl (f 0)] (iV k)) (t2 : PC Tryz.prog 36 [.sl (g 0)] (iV l))
    (hk : 0 ≤ k ∧ k ≤ 60) (hl : 0 ≤ l ∧ l ≤ 60) (hkl : k + l + 2 * n ≤ 60)
    (hd1 : ∀ i, i < n → PC Tryz.prog 37 [.sl (f i)] (.sl (f (i + 1)))) (hd2 : ∀ i, i < n → PC Tryz.prog 37 [.sl (g i)] (.sl (g (i + 1))))
    (hf : ∀ r : Nat, r ≤ n → PC Tryz.prog 51 [iV n, iV r, iV k, iV l] (rA (q r))) (hp : ∀ r, r ≤ n → PC Tryz.prog 45 [.sl (f r), .sl (g (n - r))] (.sl (tm r))) (hs : ∀ r, r ≤ n → PC Tryz.prog 44 [rA (q r), .sl (tm r)] (.sl (sc r)))
    (ha : ∀ r, r ≤ n → PC Tryz.prog 43 [.sl (acc r), .sl (sc r)] (.sl (acc (r + 1)))) (h0 : acc 0 = []) : PC Tryz.prog 13 [.sl X, .sl Y, iV n] (.tup [.sl (acc (n + 1)), iV 0]) := by
  have c1 : decide ((n : Int) < 0) = false := decide_eq_false (by omega)
  have c2 : decide ((n : Int) > 6) = false := decide_eq_false (by omega)
  have c3 : (((f 0).length : Int) == 0) = false := by simp; intro h; rw [h] at l1; simp at l1
  have c4 : (((g 0).length : Int) == 0) = false := by simp; intro h; rw [h] at l2; simp at l2
  have c5 : decide (k + l + 2 * (n : Int) > 60) = false := decide_eq_false (by omega)
  refine pc_body2 true Tryz.func13 rfl rfl rfl (Nat.le_of_ble_eq_true rfl) CellT.tmp CellT.tmp ?_
  refine goA ?_
  refine evG ggA (ss_call (InB_of rfl) rfl rfl h2) ?_
  refine goA ?_
  refine evG ggA (ss_call (InB_of rfl) rfl rfl n1) ?_
  refine goA ?_
  refine evG ggA (ss_call (InB_of rfl) rfl rfl n2) ?_
  refine goA ?_
  refine evG ggA (ss_call (InB_of rfl) rfl rfl p1) ?_
  refine goA ?_
  refine evG ggA (ss_call (InB_of rfl) rfl rfl p2) ?_
  refine goA ?_
  refine evG ggA (ss_call (InB_of rfl) rfl rfl t1) ?_
  refine goA ?_
  refine evG ggA (ss_call (InB_of rfl) rfl rfl t2) ?_
  refine goA ?_
  clear h2 n1 n2 p1 p2 t1 t2
  refine T.loop (fun N s1 => ∃ r : Nat, N = n + 1 - r ∧ r ≤ n + 1 ∧ s1 = mkS [(2, .v (iV n)), (9, .v (.sl (f 0))), (10, .v (.sl (g 0))), (11, .v (iV k)), (12, .v (iV l)), (13, .v (.sl (acc r))), (14, .v (iV r))] [] 97 true) (n + 1)
    (s' := mkS [(2, .v (iV n)), (9, .v (.sl (f 0))), (10, .v (.sl (g 0))), (11, .v (iV k)), (12, .v (iV l)), (13, .v (.sl [])), (14, .v (iV ((0 : Nat) : Int)))] [] 97 true) (by exact entA) ⟨0, rfl, Nat.zero_le _, by rw [h0]⟩ ?_
  rintro _ _ ⟨r, rfl, hr, rfl⟩
  by_cases hlt : r ≤ n
  · have b1 : decide ((r : Int) ≤ (n : Int)) = true := decide_eq_true (by omega)
    have cf := hf r hlt
    have cp := hp r hlt
    have cs := hs r hlt
    have ca := ha r hlt
    have hfin : ∃ r' : Nat, n + 1 - (r + 1) = n + 1 - r' ∧ r' ≤ n + 1 ∧ mkS [(2, .v (iV n)), (9, .v (.sl (f 0))), (10, .v (.sl (g 0))), (11, .v (iV k)), (12, .v (iV l)), (13, .v (.sl (acc (r + 1)))), (14, .v (iV ((r : Int) + 1)))] [] 97 true = mkS [(2, .v (iV n)), (9, .v (.sl (f 0))), (10, .v (.sl (g 0))), (11, .v (iV k)), (12, .v (iV l)), (13, .v (.sl (acc r'))), (14, .v (iV r'))] [] 97 true := ⟨r + 1, rfl, by omega, rfl⟩
    clear hf hp hs ha h0
    generalize acc r = A0 at *
    generalize acc (r + 1) = A1 at *
    generalize tm r = M0 at *
    generalize sc r = S0 at *
    generalize q r = q0 at *
    refine goA ?_
    refine T.loop (fun N s1 => ∃ i : Nat, N = r - i ∧ i ≤ r ∧ s1 = mkS [(2, .v (iV n)), (9, .v (.sl (f 0))), (10, .v (.sl (g 0))), (11, .v (iV k)), (12, .v (iV l)), (13, .v (.sl A0)), (14, .v (iV r)), (15, .v (.sl (f i))), (16, .v (.sl (g 0))), (17, .v (iV i))] [] 97 true) r
      (s' := mkS [(2, .v (iV n)), (9, .v (.sl (f 0))), (10, .v (.sl (g 0))), (11, .v (iV k)), (12, .v (iV l)), (13, .v (.sl A0)), (14, .v (iV r)), (15, .v (.sl (f 0))), (16, .v (.sl (g 0))), (17, .v (iV ((0 : Nat) : Int)))] [] 97 true) (by exact entA) ⟨0, rfl, Nat.zero_le _, rfl⟩ ?_
    rintro _ _ ⟨i, rfl, hi, rfl⟩
    by_cases hil : i < r
    · have b2 : decide ((i : Int) < (r : Int)) = true := decide_eq_true (by omega)
      have cd := hd1 i (by omega)
      refine goA ?_
      refine evG ggA (ss_call (InB_of rfl) rfl rfl cd) ?_
      refine goA ?_
      exact loopQ_intro (k := r - (i + 1)) (s' := mkS [(2, .v (iV n)), (9, .v (.sl (f 0))), (10, .v (.sl (g 0))), (11, .v (iV k)), (12, .v (iV l)), (13, .v (.sl A0)), (14, .v (iV r)), (15, .v (.sl (f (i + 1)))), (16, .v (.sl (g 0))), (17, .v (iV ((i : Int) + 1)))] [] 97 true) (by omega) (by exact entA) ⟨i + 1, rfl, hil, rfl⟩
    · obtain rfl : i = r := by omega
      have b2 : decide ((i : Int) < (i : Int)) = false := decide_eq_false (by omega)
      refine goA ?_
      refine T.loop (fun N s1 => ∃ j : Nat, N = n - i - j ∧ j ≤ n - i ∧ s1 = mkS [(2, .v (iV n)), (9, .v (.sl (f 0))), (10, .v (.sl (g 0))), (11, .v (iV k)), (12, .v (iV l)), (13, .v (.sl A0)), (14, .v (iV i)), (15, .v (.sl (f i))), (16, .v (.sl (g j))), (18, .v (iV j))] [] 97 true) (n - i)
        (s' := mkS [(2, .v (iV n)), (9, .v (.sl (f 0))), (10, .v (.sl (g 0))), (11, .v (iV k)), (12, .v (iV l)), (13, .v (.sl A0)), (14, .v (iV i)), (15, .v (.sl (f i))), (16, .v (.sl (g 0))), (18, .v (iV ((0 : Nat) : Int)))] [] 97 true) (by exact entA) ⟨0, rfl, Nat.zero_le _, rfl⟩ ?_
      rintro _ _ ⟨j, rfl, hj, rfl⟩
      by_cases hjl : j < n - i
      · have b3 : decide ((j : Int) < (n : Int) - (i : Int)) = true := decide_eq_true (by omega)
        have cd := hd2 j (by omega)
        refine goA ?_
        refine evG ggA (ss_call (InB_of rfl) rfl rfl cd) ?_
        refine goA ?_
        exact loopQ_intro (k := n - i - (j + 1)) (s' := mkS [(2, .v (iV n)), (9, .v (.sl (f 0))), (10, .v (.sl (g 0))), (11, .v (iV k)), (12, .v (iV l)), (13, .v (.sl A0)), (14, .v (iV i)), (15, .v (.sl (f i))), (16, .v (.sl (g (j + 1)))), (18, .v (iV ((j : Int) + 1)))] [] 97 true) (by omega) (by exact entA) ⟨j + 1, rfl, by omega, rfl⟩
      · have hj2 : j = n - i := by omega
        rw [← hj2] at cp
        have b3 : decide ((j : Int) < (n : Int) - (i : Int)) = false := decide_eq_false (by omega)
        clear hd1 hd2
        generalize f 0 = F0 at *
        generalize g 0 = G0 at *
        generalize f i = Fi at *
        generalize g j = Gj at *
        refine goA ?_
        refine evG ggA (ss_call (InB_of rfl) rfl rfl cf) ?_
        refine goA ?_
        refine evG ggA (ss_call (InB_of rfl) rfl rfl cp) ?_
        refine evG ggA (ss_call (InB_of rfl) rfl rfl cs) ?_
        refine evG ggA (ss_call (InB_of rfl) rfl rfl ca) ?_
        refine goA ?_
        exact loopQ_intro (k := n + 1 - (i + 1)) (s' := mkS [(2, .v (iV n)), (9, .v (.sl F0)), (10, .v (.sl G0)), (11, .v (iV k)), (12, .v (iV l)), (13, .v (.sl A1)), (14, .v (iV ((i : Int) + 1)))] [] 97 true) (by omega) (by exact entA) hfin
  · obtain rfl : r = n + 1 := by omega
    have b1 : decide (((n + 1 : Nat) : Int) ≤ (n : Int)) = false := decide_eq_false (by omega)
    refine goA ?_
    exact rfl
theorem Nz.db {R : List QT} (h : Nz R) : DB 0 R := ⟨h.d, h.l, h.h, fun t ht => by
  have := h.v t ht
  unfold QE.vt at this
  simp only [qe] at this
  show 0 ≤ t.a ∧ 0 ≤ t.b ∧ 0 ≤ t.c ∧ t.a ≤ 60 + 2 * ((0 : Nat) : Int) ∧ t.b ≤ 60 + 2 * ((0 : Nat) : Int) ∧ t.c ≤ 60 + 2 * ((0 : Nat) : Int)
  omega⟩
section
variable {i : Nat} {p : List QT} (h : DB i p) (hi : i ≤ 3)
include h hi
theorem DB.bd : p.length ≤ 512 ∧ 1 ≤ hB i ∧ hB i ≤ 2343 := by
  have := hl3 i hi
  have := h.l
  exact ⟨by omega, hB_1 i, by omega⟩
theorem DB.tn : ∀ e, e ∈ p.map qe → e.t.tn := fun e he => by
  obtain ⟨t, ht, rfl⟩ := List.mem_map.1 he
  exact h.p.tn (by omega) t ht
omit hi in
theorem DB.ok : ∀ e, e ∈ p.map qe → e.ok (hB i) := fun e he => by
  obtain ⟨t, ht, rfl⟩ := List.mem_map.1 he
  exact qe_ok (h.h t ht)
theorem DB.derive : PC Tryz.prog 33 [.sl (PL p)] (.sl (PL (qnf (qdv p)))) := by
  obtain ⟨b1, b2, b3⟩ := h.bd hi
  have c := qderive_p (sort_p 3072 (by decide)) (U := p.map qe) (K := hB i) (by rw [List.length_map]; omega) (by decide) (h.tn hi) h.ok ⟨b2, by omega⟩ (by omega)
  rw [qe_map] at c
  exact c
theorem DB.derived : PC Tryz.prog 37 [.sl (PL p)] (.sl (PL (qnf (qdv p)))) := by
  obtain ⟨b1, b2, b3⟩ := h.bd hi
  exact derived_p h.d h.p (by omega) (by omega) h.h ⟨b2, by omega⟩
end
theorem both_derive {U : List QE} (h : ArgOK U) : BothQ 7 8 [.sl (U.map QE.av)] := by
  obtain ⟨b, hv, hc, hd⟩ := arg_v h
  cases b with
  | false => exact ⟨[], 2, qD_bad hv, rD_bad hc, same_nil⟩
  | true =>
    have hd := hd rfl
    have hz := hd.nz
    have t1 := hd.tidy
    have n1 := hd.norm
    clear hd
    generalize qnf (U.map QE.t) = P at *
    have db := hz.db
    have cd := db.derive (by decide)
    have rd := db.derived (by decide)
    have nx := db.next (by decide)
    have sm : PC Tryz.prog 27 [.sl (PL (qnf (qdv P))), .sl (PL (qnf (qdv P)))] (bV true) := rsame38_p (K := 143) (by have := nx.l; have := hl3 1 (by decide); show _ ≤ _; exact Nat.le_trans nx.l (by decide)) nx.h (by decide)
    by_cases h0 : P.length = 0
    · exact ⟨_, 0, qD_zero hv t1 (by rw [PL_len]; exact h0) cd, rD_zero hc n1 (by rw [PL_len]; exact h0) rd, sm⟩
    have p1 := qtop_p (U := P.map qe) (by rw [List.length_map]; have := hz.l; omega) hz.sm
    have q1 := rtop_p (U := P.map qe) (by rw [List.length_map]; have := hz.l; omega) hz.sm
    have b1 := hz.top
    have l1 : 0 < (PL P).length := by rw [PL_len]; omega
    by_cases hk : topQ (P.map qe) + 2 ≤ 60
    · exact ⟨_, 0, qD_core hv t1 l1 p1 ⟨b1.1, hk⟩ cd, rD_ok hc n1 l1 q1 ⟨b1.1, hk⟩ rd, sm⟩
    · exact ⟨[], 7, qD_large hv t1 l1 p1 ⟨by omega, b1.2⟩, rD_large hc n1 l1 q1 ⟨by omega, b1.2⟩, same_nil⟩
theorem both_serre {U : List QE} (h : ArgOK U) : BothQ 10 11 [.sl (U.map QE.av)] := by
  obtain ⟨b, hv, hc, hd⟩ := arg_v h
  cases b with
  | false => exact ⟨[], 2, qS'_bad hv, rS'_bad hc, same_nil⟩
  | true =>
    have hd := hd rfl
    have hz := hd.nz
    have t1 := hd.tidy
    have n1 := hd.norm
    clear hd
    generalize qnf (U.map QE.t) = P at *
    have pl := hz.l
    have p1 := qpure_p (U := P.map qe) (by rw [List.length_map]; omega) hz.sm
    have q1 := rpure_p (U := P.map qe) (by rw [List.length_map]; omega) hz.sm
    cases hp : purQ (P.map qe) with
    | false =>
      rw [hp] at p1 q1
      exact ⟨[], 20, qS'_kind hv t1 p1, rS'_kind hc n1 q1, same_nil⟩
    | true =>
    rw [hp, if_pos rfl] at p1
    rw [hp] at q1
    have q2 := rtop_p (U := P.map qe) (by rw [List.length_map]; omega) hz.sm
    have b1 := hz.top
    generalize topQ (P.map qe) = k at *
    by_cases hk : 0 < P.length ∧ 58 < k
    · exact ⟨[], 7, qS'_large hv t1 (by rw [PL_len]; exact hk.1) p1 ⟨hk.2, b1.2⟩, rS'_large hc n1 (by rw [PL_len]; exact hk.1) q1 q2 ⟨hk.2, b1.2⟩, same_nil⟩
    have db := hz.db
    have cd := db.derive (by decide)
    have rd := db.derived (by decide)
    have nx := db.next (by decide)
    have nxl : (qnf (qdv P)).length ≤ 32 := nx.l
    have nxh : ∀ t, t ∈ qnf (qdv P) → Ht t.q 143 := nx.h
    -- the number of the second summand
    have hf := qfrac_p (n := 0 - k) (d := 12) (by omega) (by decide) (by decide)
    have rf := lfrac_p (n := 0 - k) (d := 12) (by unfold Bn; omega) (by decide) (by unfold Bn; omega)
    rw [Rat.divInt_eq_div] at rf
    have hh : Ht (((0 - k : Int) : Rat) / ((12 : Int) : Rat)) 2 := ht_frac (by omega) (by decide)
    generalize ((0 - k : Int) : Rat) / ((12 : Int) : Rat) = f at *
    have fm : ∀ t, t ∈ qml P [⟨1, 0, 0, f⟩] → Ht t.q 35 := fun t ht => by
      obtain ⟨x, y, hx, hy, rfl⟩ := qml_mem ht
      rw [List.mem_singleton.1 hy]
      exact (ht_mul (hz.h x hx) hh (by decide)).mono (by decide)
    have fl : (qml P [⟨1, 0, 0, f⟩]).length ≤ 8 := by rw [qml_len]; simpa using pl
    -- the document's
    have om : ∀ t, t ∈ qml [⟨1, 0, 0, 1⟩] P → Ht t.q 34 := fun t ht => by
      obtain ⟨x, y, hx, hy, rfl⟩ := qml_mem ht
      rw [List.mem_singleton.1 hx]
      exact (ht_mul (k := 1) (ht_int (c := 1) (by decide)) (hz.h y hy) (by decide)).mono (by decide)
    have ol : (qml [⟨1, 0, 0, 1⟩] P).length ≤ 8 := by rw [qml_len]; simpa using pl
    have c1 := term38_p 1 0 0 (q := 1)
    have c2 := product_p (p := [⟨1, 0, 0, 1⟩]) (r := P) (K := 33) (H := 300) (by decide) (by omega) (by simp; omega) (fun t h => by rw [List.mem_singleton.1 h]; unfold QT.tn; decide) hz.tn' (fun t h => by rw [List.mem_singleton.1 h]; exact (ht_int (c := 1) (by decide)).mono (by decide)) hz.h (by decide) (fun A B e k => (crude_ht (by decide) om e k).mono (by omega)) (fun t ht => (om t ht).mono (by decide)) (by decide)
    have oh : ∀ t, t ∈ qnf (qml [⟨1, 0, 0, 1⟩] P) → Ht t.q 300 := fun t ht => (qnf_ht (by decide) om t ht).mono (by omega)
    have onl := qnf_len (qml [⟨1, 0, 0, 1⟩] P)
    have sd := (qnf_d (qml [⟨1, 0, 0, 1⟩] P)).sc f
    have sh : ∀ t, t ∈ (qnf (qml [⟨1, 0, 0, 1⟩] P)).map (qsc f) → Ht t.q 302 := fun t ht => by
      obtain ⟨x, hx, rfl⟩ := List.mem_map.1 ht
      exact (ht_mul hh (oh x hx) (by decide)).mono (by decide)
    have c3 := rtimes_p (U := (qnf (qml [⟨1, 0, 0, 1⟩] P)).map qe) (K := 300) (H := 302) (isV_mono (isV_encQ hh) (by decide)) (by rw [List.length_map]; omega) (fun e he => by obtain ⟨t, ht, rfl⟩ := List.mem_map.1 he; exact qe_ok (oh t ht)) (by decide) (fun A B e k => by
      rw [qe_map] at e
      rw [e] at sd
      exact QD.co_ht (by decide) k sd.app.1 fun t ht => sh t (by rw [e]; exact List.mem_append_left _ ht)) (fun t ht => sh t (by rw [qe_map] at ht; exact ht)) (by decide)
    rw [qe_map] at c3
    have c4 := step_plus (W := qdv P) (X := (qnf (qml [⟨1, 0, 0, 1⟩] P)).map (qsc f)) (H := 400) (fun k => (dv_ht (by decide) hz.d hz.tn' hz.h k).mono (by decide)) (fun k => (QD.co_ht (by decide) k sd sh).mono (by decide)) (by decide) (by decide) (by have := qdv_len P; omega) (by rw [List.length_map]; omega)
    have eR : qnf (qdv P ++ (qnf (qml [⟨1, 0, 0, 1⟩] P)).map (qsc f)) = qnf (qnf (qdv P) ++ qnf (qml P [⟨1, 0, 0, f⟩])) := by
      refine nf_app (fun k => (qnf_co _ k).symm) fun k => ?_
      rw [qnf_co, sc_co, qnf_co, ← sc_co, serre_co]
    rw [eR] at c4
    have ho : PC Tryz.prog 29 [iV 1] (encQ 1) := q_p 1 (by decide) (by decide)
    have rs := rS'_ok (k := k) hc n1 (by rw [PL_len]; omega) b1 q1 q2 rd rf ho c1 c2 c3 c4
    have wh : ∀ t, t ∈ qnf (qml P [⟨1, 0, 0, f⟩]) → Ht t.q 300 := fun t ht => (qnf_ht (by decide) fm t ht).mono (by omega)
    have wl := qnf_len (qml P [⟨1, 0, 0, f⟩])
    have rh : ∀ t, t ∈ qnf (qdv P) ++ qnf (qml P [⟨1, 0, 0, f⟩]) → Ht t.q 300 := fun t ht => by
      rcases List.mem_append.1 ht with ht | ht
      · exact (nxh t ht).mono (by decide)
      · exact wh t ht
    have rl : (qnf (qdv P) ++ qnf (qml P [⟨1, 0, 0, f⟩])).length ≤ 40 := by rw [List.length_append]; omega
    have sm : PC Tryz.prog 27 [.sl (PL (qnf (qnf (qdv P) ++ qnf (qml P [⟨1, 0, 0, f⟩])))), .sl (PL (qnf (qnf (qdv P) ++ qnf (qml P [⟨1, 0, 0, f⟩]))))] (bV true) := same_nf (K := 300) (by omega) rh (by decide)
    by_cases h0 : P.length = 0
    · obtain rfl := List.length_eq_zero_iff.1 h0
      exact ⟨_, 0, qserre_zero hv t1, rs, sm⟩
    have hw := qtimes_p (sort_p 8 (by decide)) (U := P.map qe) (V := [qe ⟨1, 0, 0, f⟩]) (K := 33) (by rw [List.length_map]; simpa using pl) (by decide) (by rw [List.length_map]; omega) (by simp) hz.tn (fun e he => by rw [List.mem_singleton.1 he]; unfold QT.tn; rw [qe_t]; simp) hz.ok (fun e he => by rw [List.mem_singleton.1 he]; exact qe_ok (hh.mono (by decide))) (by decide) (by decide)
    rw [qe_map, show [qe ⟨1, 0, 0, f⟩].map QE.t = [(⟨1, 0, 0, f⟩ : QT)] from rfl] at hw
    have hcc := concat_p ((qnf (qdv P)).map qe) ((qnf (qml P [⟨1, 0, 0, f⟩])).map qe) (by rw [List.length_map]; omega) (by rw [List.length_map]; omega)
    rw [← List.map_append] at hcc
    have hr := tidyL_p (sort_p 40 (by decide)) (L := qnf (qdv P) ++ qnf (qml P [⟨1, 0, 0, f⟩])) (K := 300) rl (by decide) (fun t ht => by
      rcases List.mem_append.1 ht with ht | ht
      · exact (nx.p.tn (by decide) t ht).sm
      · obtain ⟨u, hu, e⟩ := qnf_key ht
        obtain ⟨x, y, hx, hy, rfl⟩ := qml_mem hu
        rw [List.mem_singleton.1 hy] at e
        have hv := hz.v x hx
        unfold QE.vt at hv
        simp only [qe, QT.k, qpr, Prod.mk.injEq] at hv e
        unfold QE.sm
        simp only [qe]
        omega) rh (by decide) (by decide)
    exact ⟨_, 0, qserre_core hv t1 p1 (by rw [PL_len]; omega) (by omega) b1.1 hf hw cd hcc hr, rs, sm⟩
/-- a summand of a bracket -/
def bX (m : Nat) (k l : Int) (P R : List QT) (r : Nat) : List QT := (qnf (qml (qD r P) (qD (m - r) R))).map (qsc ((fcI m r k l : Int) : Rat))
theorem fcI_le {m r : Nat} {k l : Int} (hm : m ≤ 6) (hr : r ≤ m) (hk : 0 ≤ k ∧ k ≤ 60) (hl : 0 ≤ l ∧ l ≤ 60) : (bnG ((m : Int) + k - 1) (m - r) * bnG ((m : Int) + l - 1) r).natAbs ≤ 1000000000000000000 ∧ (fcI m r k l).natAbs ≤ 1000000000000000000 := by
  have h1 := (bnR_eq (m := (m : Int) + k - 1) (i := m - r) (by omega) (by omega) (by omega)).2
  have h2 := (bnR_eq (m := (m : Int) + l - 1) (i := r) (by omega) (by omega) (by omega)).2
  have h : (bnG ((m : Int) + k - 1) (m - r) * bnG ((m : Int) + l - 1) r).natAbs ≤ 1000000000 * 1000000000 := by
    rw [Int.natAbs_mul]
    exact Nat.mul_le_mul h1 h2
  refine ⟨h, ?_⟩
  unfold fcI
  split
  · exact h
  · rw [Int.natAbs_neg]; exact h
theorem ht_big {z : Int} (h : z.natAbs ≤ 1000000000000000000) : Ht (z : Rat) 2 := by
  have e : pw 2 = 18446744073709551616 := by decide
  refine ⟨?_, ?_⟩
  · rw [Rat.num_intCast, e]; omega
  · rw [Rat.den_intCast, e]; decide
structure XOK (X : List QT) : Prop where
  d : QD X
  h : ∀ t, t ∈ X → Ht t.q 24002
  l : X.length ≤ 4096
  s : ∀ t, t ∈ X → (qe t).sm
section
variable {m : Nat} {k l : Int} {P R : List QT} (hP : DB 0 P) (hR : DB 0 R) (hm : m ≤ 3) (hk : 0 ≤ k ∧ k ≤ 60) (hl : 0 ≤ l ∧ l ≤ 60) {r : Nat} (hr : r ≤ m)
include hP hR hm hr
theorem prod_ok : (∀ t, t ∈ qnf (qml (qD r P) (qD (m - r) R)) → Ht t.q 24000) ∧ (qnf (qml (qD r P) (qD (m - r) R))).length ≤ 4096 ∧ ∀ t, t ∈ qnf (qml (qD r P) (qD (m - r) R)) → (qe t).sm := by
  have d1 := hP.D r (by omega)
  have d2 := hR.D (m - r) (by omega)
  refine ⟨nf_ht (d1.prod d2 (by omega)), ?_, fun t ht => ?_⟩
  · refine Nat.le_trans (qnf_len _) ?_
    rw [qml_len]
    exact d1.plen d2 (by omega)
  · obtain ⟨u, hu, e⟩ := qnf_key ht
    obtain ⟨x, y, hx, hy, rfl⟩ := qml_mem hu
    have h1 := d1.p x hx
    have h2 := d2.p y hy
    simp only [QT.k, qpr, Prod.mk.injEq] at e
    unfold QE.sm
    simp only [qe]
    omega
include hk hl
theorem bX_ok : XOK (bX m k l P R r) := by
  obtain ⟨h1, h2, h3⟩ := prod_ok hP hR hm hr
  refine ⟨(qnf_d _).sc _, fun t ht => ?_, by unfold bX; rw [List.length_map]; exact h2, fun t ht => ?_⟩
  · obtain ⟨x, hx, rfl⟩ := List.mem_map.1 ht
    exact (ht_mul (ht_big (fcI_le (by omega) hr hk hl).2) (h1 x hx) (by decide)).mono (by decide)
  · obtain ⟨x, hx, rfl⟩ := List.mem_map.1 ht
    exact h3 x hx
theorem bX_nf : (∀ t, t ∈ qnf (bX m k l P R r) → Ht t.q 24002) ∧ (qnf (bX m k l P R r)).length ≤ 4096 ∧ ∀ t, t ∈ qnf (bX m k l P R r) → (qe t).sm := by
  have x := bX_ok hP hR hm hk hl hr
  refine ⟨nf_ht fun y => QD.co_ht (by decide) y x.d x.h, Nat.le_trans (qnf_len _) x.l, fun t ht => ?_⟩
  obtain ⟨u, hu, e⟩ := qnf_key ht
  have := x.s u hu
  simp only [QT.k, Prod.mk.injEq] at e
  unfold QE.sm at this ⊢
  simp only [qe] at this ⊢
  omega
theorem b_times : PC Tryz.prog 39 [.sl (PL (qD r P)), .sl (PL (qD (m - r) R))] (.sl (PL (qnf (qml (qD r P) (qD (m - r) R))))) := by
  have d1 := hP.D r (by omega)
  have d2 := hR.D (m - r) (by omega)
  have b1 := d1.bd (by omega)
  have b2 := d2.bd (by omega)
  have c := qtimes_p (sort_p 4096 (by decide)) (U := (qD r P).map qe) (V := (qD (m - r) R).map qe) (K := 2343) (by rw [List.length_map, List.length_map]; exact d1.plen d2 (by omega)) (by decide) (by rw [List.length_map]; omega) (by rw [List.length_map]; omega) (d1.tn (by omega)) (d2.tn (by omega)) (fun e he => isV_mono (d1.ok e he) b1.2.2) (fun e he => isV_mono (d2.ok e he) b2.2.2) (by decide) (by decide)
  rw [qe_map, qe_map] at c
  exact c
theorem b_scale : PC Tryz.prog 48 [encQ ((fcI m r k l : Int) : Rat), .sl (PL (qnf (qml (qD r P) (qD (m - r) R))))] (.sl (PL (qnf (bX m k l P R r)))) := by
  obtain ⟨h1, h2, h3⟩ := prod_ok hP hR hm hr
  have c := qscale_p (sort_p 4096 (by decide)) (a := encQ ((fcI m r k l : Int) : Rat)) (U := (qnf (qml (qD r P) (qD (m - r) R))).map qe) (K := 24000) (isV_mono (isV_encQ (ht_big (fcI_le (by omega) hr hk hl).2)) (by decide)) (by rw [List.length_map]; exact h2) (by decide) (fun e he => by obtain ⟨t, ht, rfl⟩ := List.mem_map.1 he; exact h3 t ht) (fun e he => by obtain ⟨t, ht, rfl⟩ := List.mem_map.1 he; exact qe_ok (h1 t ht)) (by decide) (by decide)
  rw [qe_map] at c
  exact c
theorem rb_product : PC Tryz.prog 45 [.sl (PL (qD r P)), .sl (PL (qD (m - r) R))] (.sl (PL (qnf (qml (qD r P) (qD (m - r) R))))) := by
  have d1 := hP.D r (by omega)
  have d2 := hR.D (m - r) (by omega)
  have b1 := d1.bd (by omega)
  have b2 := d2.bd (by omega)
  have pl := d1.plen d2 (by omega)
  have hh : ∀ t, t ∈ qml (qD r P) (qD (m - r) R) → Ht t.q 4686 := fun t ht => by
    obtain ⟨x, y, hx, hy, rfl⟩ := qml_mem ht
    exact (ht_mul (d1.h x hx) (d2.h y hy) b1.2.1).mono (by omega)
  exact product_p (K := 2343) (H := 20000000) (by omega) (by omega) (by omega) (d1.p.tn (by omega)) (d2.p.tn (by omega)) (fun t ht => (d1.h t ht).mono b1.2.2) (fun t ht => (d2.h t ht).mono b2.2.2) (by decide) (fun A B e k => (crude_ht (by decide) hh e k).mono (by
    rw [qml_len]
    omega)) (fun t ht => (hh t ht).mono (by decide)) (by decide)
theorem rb_times : PC Tryz.prog 44 [rA ((fcI m r k l : Int) : Rat), .sl (PL (qnf (qml (qD r P) (qD (m - r) R))))] (.sl (PL (qnf (bX m k l P R r)))) := by
  obtain ⟨h1, h2, h3⟩ := prod_ok hP hR hm hr
  have x := bX_ok hP hR hm hk hl hr
  have c := rtimes_p (a := encQ ((fcI m r k l : Int) : Rat)) (U := (qnf (qml (qD r P) (qD (m - r) R))).map qe) (K := 24000) (H := 24002) (isV_mono (isV_encQ (ht_big (fcI_le (by omega) hr hk hl).2)) (by decide)) (by rw [List.length_map]; omega) (fun e he => by obtain ⟨t, ht, rfl⟩ := List.mem_map.1 he; exact qe_ok (h1 t ht)) (by decide) (fun A B e y => by
    rw [qe_map] at e
    have hd : QD (bX m k l P R r) := x.d
    have hh := x.h
    unfold bX at hd hh
    rw [e] at hd hh
    exact QD.co_ht (by decide) y hd.app.1 fun t ht => hh t (List.mem_append_left _ ht)) (fun t ht => x.h t (by rw [qe_map] at ht; exact ht)) (by decide)
  rw [qe_map] at c
  exact c
end
/-- the sum so far -/
def bW (m : Nat) (k l : Int) (P R : List QT) (r : Nat) : List QT := (List.range r).flatMap (bX m k l P R)
theorem bW_s (m : Nat) (k l : Int) (P R : List QT) (r : Nat) : bW m k l P R (r + 1) = bW m k l P R r ++ bX m k l P R r := by
  unfold bW
  rw [List.range_succ, List.flatMap_append]
  simp
section
variable {m : Nat} {k l : Int} {P R : List QT} (hP : DB 0 P) (hR : DB 0 R) (hm : m ≤ 3) (hk : 0 ≤ k ∧ k ≤ 60) (hl : 0 ≤ l ∧ l ≤ 60)
include hP hR hm hk hl
theorem bW_ok (y : Ky) : ∀ r, r ≤ m + 1 → Ht (qco (bW m k l P R r) y) (1 + r * 24003) ∧ (bW m k l P R r).length ≤ r * 4096
  | 0, _ => ⟨ht0 (by decide), Nat.le_refl _⟩
  | r + 1, h => by
    obtain ⟨i1, i2⟩ := bW_ok y r (by omega)
    have x := bX_ok hP hR hm hk hl (r := r) (by omega)
    rw [bW_s]
    refine ⟨?_, ?_⟩
    · rw [qco_app]
      exact (ht_add i1 (QD.co_ht (by decide) y x.d x.h)).mono (by omega)
    · rw [List.length_append]
      have := x.l
      omega
theorem rb_plus {r : Nat} (hr : r ≤ m) : PC Tryz.prog 43 [.sl (PL (qnf (bW m k l P R r))), .sl (PL (qnf (bX m k l P R r)))] (.sl (PL (qnf (bW m k l P R (r + 1))))) := by
  have x := bX_ok hP hR hm hk hl hr
  rw [bW_s]
  exact step_plus (H := 100000) (fun y => ((bW_ok hP hR hm hk hl y r (by omega)).1).mono (by omega)) (fun y => (QD.co_ht (by decide) y x.d x.h).mono (by decide)) (by decide) (by decide) (by have := (bW_ok hP hR hm hk hl (0, 0, 0) r (by omega)).2; omega) (by have := x.l; omega)
theorem bW_prog (y : Ky) : ∀ r, qco ((List.range r).flatMap fun i => qnf (bX m k l P R i)) y = qco (bW m k l P R r) y
  | 0 => rfl
  | r + 1 => by
    rw [bW_s, List.range_succ, List.flatMap_append, qco_app, qco_app, bW_prog y r]
    simp only [List.flatMap_cons, List.flatMap_nil, List.append_nil]
    rw [qnf_co]
theorem b_tidy : PC Tryz.prog 31 [.sl ((List.range (m + 1)).flatMap fun r => PL (qnf (bX m k l P R r)))] (.sl (PL (qnf (bW m k l P R (m + 1))))) := by
  have e : ((List.range (m + 1)).flatMap fun r => PL (qnf (bX m k l P R r))) = PL ((List.range (m + 1)).flatMap fun r => qnf (bX m k l P R r)) := by
    unfold PL
    rw [List.map_flatMap, List.map_flatMap]
  have hmem : ∀ t, t ∈ ((List.range (m + 1)).flatMap fun r => qnf (bX m k l P R r)) → Ht t.q 24002 ∧ (qe t).sm := fun t ht => by
    obtain ⟨r, hr, ht⟩ := List.mem_flatMap.1 ht
    have hr := List.mem_range.1 hr
    have x := bX_nf hP hR hm hk hl (r := r) (by omega)
    exact ⟨x.1 t ht, x.2.2 t ht⟩
  have hlen : ∀ r, r ≤ m + 1 → ((List.range r).flatMap fun r => qnf (bX m k l P R r)).length ≤ r * 4096 := by
    intro r
    induction r with
    | zero => intro _; simp
    | succ r ih =>
      intro h
      have := ih (by omega)
      have x := (bX_nf hP hR hm hk hl (r := r) (by omega)).2.1
      rw [List.range_succ, List.flatMap_append, List.length_append]
      simp only [List.flatMap_cons, List.flatMap_nil, List.append_nil]
      omega
  have c := tidyL_p (sort_p 16384 (by decide)) (L := (List.range (m + 1)).flatMap fun r => qnf (bX m k l P R r)) (K := 24002) (by have := hlen (m + 1) (Nat.le_refl _); omega) (by decide) (fun t ht => (hmem t ht).2) (fun t ht => (hmem t ht).1) (by decide) (by decide)
  rw [e, ← qnf_eq fun y => bW_prog hP hR hm hk hl y (m + 1)]
  exact c
end
theorem both_bracket {U V : List QE} {n : Int} (h : ArgOK U) (k : ArgOK V) (hn : ¬ (3 < n ∧ n ≤ 6)) : BothQ 12 13 [.sl (U.map QE.av), .sl (V.map QE.av), iV n] := by
  obtain ⟨b, hv, hc, hd⟩ := arg_v h
  obtain ⟨c, kv, kc, kd⟩ := arg_v k
  have h2 := rTwo_p hc kc
  cases b with
  | false => exact ⟨[], 2, qB_bad hv fun e => (by cases e), rB_bad h2, same_nil⟩
  | true =>
  cases c with
  | false => exact ⟨[], 2, qB_bad hv fun _ => kv, rB_bad h2, same_nil⟩
  | true =>
    by_cases hr : n < 0 ∨ n > 6
    · exact ⟨[], 2, qB_range hv kv hr, rB_range h2 hr, same_nil⟩
    obtain ⟨m, rfl⟩ : ∃ m : Nat, n = m := ⟨n.toNat, by omega⟩
    have hm : m ≤ 3 := by omega
    have hd := hd rfl
    have kd := kd rfl
    have hz := hd.nz
    have kz := kd.nz
    have t1 := hd.tidy
    have t2 := kd.tidy
    have n1 := hd.norm
    have n2 := kd.norm
    clear hd kd
    generalize qnf (U.map QE.t) = P at *
    generalize qnf (V.map QE.t) = R at *
    have pl := hz.l
    have rl := kz.l
    have p1 := qpure_p (U := P.map qe) (by rw [List.length_map]; omega) hz.sm
    have p2 := qpure_p (U := R.map qe) (by rw [List.length_map]; omega) kz.sm
    have q1 := rpure_p (U := P.map qe) (by rw [List.length_map]; omega) hz.sm
    have q2 := rpure_p (U := R.map qe) (by rw [List.length_map]; omega) kz.sm
    have hn6 : 0 ≤ (m : Int) ∧ (m : Int) ≤ 6 := by omega
    by_cases hb : (purQ (P.map qe) && purQ (R.map qe)) = false
    · exact ⟨[], 20, qB_kind hn6 hv kv t1 t2 p1 p2 hb, rB_kind h2 hn6 n1 n2 q1 q2 hb, same_nil⟩
    have hb1 : purQ (P.map qe) = true := by cases hx : purQ (P.map qe) <;> simp [hx] at hb ⊢
    have hb2 : purQ (R.map qe) = true := by cases hx : purQ (R.map qe) <;> simp [hx] at hb ⊢
    rw [hb1, if_pos rfl] at p1
    rw [hb2, if_pos rfl] at p2
    rw [hb1] at q1
    rw [hb2] at q2
    by_cases h0 : P.length = 0 ∨ R.length = 0
    · exact ⟨[], 0, qB_zero hn6 hv kv t1 t2 p1 p2 (by rw [PL_len, PL_len]; exact h0), rB_zero h2 hn6 n1 n2 q1 q2 (by rw [PL_len, PL_len]; exact h0), same_nil⟩
    have s1 := rtop_p (U := P.map qe) (by rw [List.length_map]; omega) hz.sm
    have s2 := rtop_p (U := R.map qe) (by rw [List.length_map]; omega) kz.sm
    have b1 := hz.top
    have b2 := kz.top
    have l1 : 0 < (PL P).length := by rw [PL_len]; omega
    have l2 : 0 < (PL R).length := by rw [PL_len]; omega
    have dP := hz.db
    have dR := kz.db
    generalize topQ (P.map qe) = k at *
    generalize topQ (R.map qe) = l at *
    by_cases hkl : 60 < k + l + 2 * (m : Int)
    · exact ⟨[], 7, qB_large hn6 hv kv t1 t2 p1 p2 l1 l2 b1 b2 hkl, rB_large h2 hn6 n1 n2 q1 q2 l1 l2 s1 s2 b1 b2 hkl, same_nil⟩
    have hk : 0 ≤ k ∧ k ≤ 60 := by omega
    have hl : 0 ≤ l ∧ l ≤ 60 := by omega
    clear hz kz h0 hb hb1 hb2 b1 b2
    refine ⟨PL (qnf (bW m k l P R (m + 1))), 0, ?_, ?_, ?_⟩
    · exact qbracket_core (n := m) (by omega) (f := fun i => PL (qD i P)) (g := fun i => PL (qD i R)) (k := k) (l := l) (tm := fun r => PL (qnf (qml (qD r P) (qD (m - r) R)))) (sc := fun r => PL (qnf (bX m k l P R r))) (b1 := fun r => bnG ((m : Int) + k - 1) (m - r)) (b2 := fun r => bnG ((m : Int) + l - 1) r) (q := fun r => ((fcI m r k l : Int) : Rat))
        hv kv t1 t2 p1 p2 l1 l2 hk hl (by omega) (fun i hi => (dP.D i (by omega)).derive (by omega)) (fun i hi => (dR.D i (by omega)).derive (by omega))
        (fun r hr => by
          have c := qbin_p (m := (m : Int) + k - 1) (s := m - r) (by omega) (by omega) (by omega)
          rw [show ((m - r : Nat) : Int) = (m : Int) - r by omega] at c
          exact c) (fun r hr => qbin_p (m := (m : Int) + l - 1) (s := r) (by omega) (by omega) (by omega))
        (fun r hr => (fcI_le (by omega) hr hk hl).1) (fun r hr => by
          have := (fcI_le (m := m) (r := r) (k := k) (l := l) (by omega) hr hk hl).2
          exact rof_p (fcI m r k l) (by omega) (by omega))
        (fun r hr => b_times dP dR hm hk hl hr) (fun r hr => b_scale dP dR hm hk hl hr)
        (fun r hr => ⟨fun a ha => ⟨av_cells _ a ha, av_nu _ a ha⟩, by rw [PL_len]; have := (bX_nf dP dR hm hk hl hr).2.1; omega⟩) (b_tidy dP dR hm hk hl)
    · exact rbracket_core (n := m) (by omega) (f := fun i => PL (qD i P)) (g := fun i => PL (qD i R)) (acc := fun r => PL (qnf (bW m k l P R r))) (tm := fun r => PL (qnf (qml (qD r P) (qD (m - r) R)))) (sc := fun r => PL (qnf (bX m k l P R r))) (q := fun r => ((fcI m r k l : Int) : Rat))
        h2 n1 n2 q1 q2 l1 l2 s1 s2 hk hl (by omega) (fun i hi => (dP.D i (by omega)).derived (by omega)) (fun i hi => (dR.D i (by omega)).derived (by omega))
        (fun r hr => rFac_p (by omega) hr hk hl) (fun r hr => rb_product dP dR hm hk hl hr) (fun r hr => rb_times dP dR hm hk hl hr) (fun r hr => rb_plus dP dR hm hk hl hr) rfl
    · have hw := fun y => bW_ok dP dR hm hk hl y (m + 1) (Nat.le_refl _)
      exact rsame38_p (K := 200000) (by have := (hw (0, 0, 0)).2; have := qnf_len (bW m k l P R (m + 1)); omega) (nf_ht fun y => ((hw y).1).mono (by omega)) (by decide)
set_option maxHeartbeats 8000000 in
theorem lder_core {X Y : List AV} {n : Int} (hn : ¬ (3 < n ∧ n ≤ 6)) (hx : PC Tryz.prog 5 [.sl X] (bV false)) (hy : PC Tryz.prog 5 [.sl Y] (bV false))
    (b1 : BothQ 7 8 [.sl X]) (b2 : BothQ 10 11 [.sl X]) (b3 : BothQ 12 13 [.sl X, .sl Y, iV n]) :
    PC Tryz.prog 3 [.sl X, .sl Y, iV n] (bV true) := by
  have aw := q38awake_p
  obtain ⟨R1, e1, p1, q1, s1⟩ := b1.ex
  obtain ⟨R2, e2, p2, q2, s2⟩ := b2.ex
  obtain ⟨R3, e3, p3, q3, s3⟩ := b3.ex
  have s1 := lsame_p (e := e1) s1
  have s2 := lsame_p (e := e2) s2
  have s3 := lsame_p (e := e3) s3
  clear b1 b2 b3
  by_cases h : 3 < n
  · have k1 : decide (n > 3) = true := decide_eq_true h
    have k2 : decide (n ≤ 6) = false := decide_eq_false (by omega)
    refine pc_body1 true Tryz.func3 rfl rfl rfl (Nat.le_of_ble_eq_true rfl) CellT.tmp ?_
    refine goA ?_
    refine evG ggA (ss_call (InB_of rfl) rfl rfl hx) ?_
    refine goA ?_
    refine evG ggA (ss_call (InB_of rfl) rfl rfl hy) ?_
    refine goA ?_
    refine evG ggA (ss_call (InB_of rfl) rfl rfl p1) ?_
    refine goA ?_
    refine evG ggA (ss_call (InB_of rfl) rfl rfl q1) ?_
    refine goA ?_
    refine evG ggA (ss_call (InB_of rfl) rfl rfl s1) ?_
    refine goA ?_
    refine evG ggA (ss_call (InB_of rfl) rfl rfl p2) ?_
    refine goA ?_
    refine evG ggA (ss_call (InB_of rfl) rfl rfl q2) ?_
    refine goA ?_
    refine evG ggA (ss_call (InB_of rfl) rfl rfl s2) ?_
    refine goA ?_
    refine evG ggA (ss_call (InB_of rfl) rfl rfl p3) ?_
    refine goA ?_
    refine evG ggA (ss_call (InB_of rfl) rfl rfl q3) ?_
    refine goA ?_
    refine evG ggA (ss_call (InB_of rfl) rfl rfl s3) ?_
    refine goA ?_
    refine evG ggA (ss_call (InB_of rfl) rfl rfl aw) ?_
    refine goA ?_
    exact rfl
  · have k1 : decide (n > 3) = false := decide_eq_false h
    refine pc_body1 true Tryz.func3 rfl rfl rfl (Nat.le_of_ble_eq_true rfl) CellT.tmp ?_
    refine goA ?_
    refine evG ggA (ss_call (InB_of rfl) rfl rfl hx) ?_
    refine goA ?_
    refine evG ggA (ss_call (InB_of rfl) rfl rfl hy) ?_
    refine goA ?_
    refine evG ggA (ss_call (InB_of rfl) rfl rfl p1) ?_
    refine goA ?_
    refine evG ggA (ss_call (InB_of rfl) rfl rfl q1) ?_
    refine goA ?_
    refine evG ggA (ss_call (InB_of rfl) rfl rfl s1) ?_
    refine goA ?_
    refine evG ggA (ss_call (InB_of rfl) rfl rfl p2) ?_
    refine goA ?_
    refine evG ggA (ss_call (InB_of rfl) rfl rfl q2) ?_
    refine goA ?_
    refine evG ggA (ss_call (InB_of rfl) rfl rfl s2) ?_
    refine goA ?_
    refine evG ggA (ss_call (InB_of rfl) rfl rfl p3) ?_
    refine goA ?_
    refine evG ggA (ss_call (InB_of rfl) rfl rfl q3) ?_
    refine goA ?_
    refine evG ggA (ss_call (InB_of rfl) rfl rfl s3) ?_
    refine goA ?_
    refine evG ggA (ss_call (InB_of rfl) rfl rfl aw) ?_
    refine goA ?_
    exact rfl
theorem lder_aw {X Y : List AV} {n : Int} {b c : Bool} (hx : PC Tryz.prog 5 [.sl X] (bV b)) (hy : PC Tryz.prog 5 [.sl Y] (bV c)) (h : b = true ∨ c = true ∨ (3 < n ∧ n ≤ 6)) : PC Tryz.prog 3 [.sl X, .sl Y, iV n] (bV true) := by
  have aw := q38awake_p
  cases b with
  | true =>
    refine pc_body1 true Tryz.func3 rfl rfl rfl (Nat.le_of_ble_eq_true rfl) CellT.tmp ?_
    refine goA ?_
    refine evG ggA (ss_call (InB_of rfl) rfl rfl hx) ?_
    refine goA ?_
    refine evG ggA (ss_call (InB_of rfl) rfl rfl aw) ?_
    refine goA ?_
    exact rfl
  | false =>
  cases c with
  | true =>
    refine pc_body1 true Tryz.func3 rfl rfl rfl (Nat.le_of_ble_eq_true rfl) CellT.tmp ?_
    refine goA ?_
    refine evG ggA (ss_call (InB_of rfl) rfl rfl hx) ?_
    refine goA ?_
    refine evG ggA (ss_call (InB_of rfl) rfl rfl hy) ?_
    refine goA ?_
    refine evG ggA (ss_call (InB_of rfl) rfl rfl aw) ?_
    refine goA ?_
    exact rfl
  | false =>
    have h : 3 < n ∧ n ≤ 6 := by simpa using h
    have k1 : decide (n > 3) = true := decide_eq_true h.1
    have k2 : decide (n ≤ 6) = true := decide_eq_true h.2
    refine pc_body1 true Tryz.func3 rfl rfl rfl (Nat.le_of_ble_eq_true rfl) CellT.tmp ?_
    refine goA ?_
    refine evG ggA (ss_call (InB_of rfl) rfl rfl hx) ?_
    refine goA ?_
    refine evG ggA (ss_call (InB_of rfl) rfl rfl hy) ?_
    refine goA ?_
    refine evG ggA (ss_call (InB_of rfl) rfl rfl aw) ?_
    refine goA ?_
    exact rfl
theorem quasimodularDerivatives_p (s : List RTm) (o : QpOK s) (r : List RTm) (oo : QpOK r) (n : Int) (_ : -9223372036854775808 ≤ n) (_ : n ≤ 9223372036854775807) : PC Tryz.prog 3 [.sl ((s.map tmQ).map QE.av), .sl ((r.map tmQ).map QE.av), iV n] (bV true) := by
  have g1 := great38_p (s.map tmQ)
  have g2 := great38_p (r.map tmQ)
  have ha : greatQ (s.map tmQ) = false → ArgOK (s.map tmQ) := arg_ok o
  have hb : greatQ (r.map tmQ) = false → ArgOK (r.map tmQ) := arg_ok oo
  generalize s.map tmQ = U at *
  generalize r.map tmQ = V at *
  cases h1 : greatQ U with
  | true => rw [h1] at g1; exact lder_aw g1 g2 (.inl rfl)
  | false =>
  cases h2 : greatQ V with
  | true => rw [h2] at g2; exact lder_aw g1 g2 (.inr (.inl rfl))
  | false =>
  rw [h1] at g1
  rw [h2] at g2
  by_cases hn : 3 < n ∧ n ≤ 6
  · exact lder_aw g1 g2 (.inr (.inr hn))
  · exact lder_core hn g1 g2 (both_derive (ha h1)) (both_serre (ha h1)) (both_bracket (ha h1) (hb h2) hn)
end Ab
