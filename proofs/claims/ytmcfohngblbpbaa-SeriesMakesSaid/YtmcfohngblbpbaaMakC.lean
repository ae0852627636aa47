/- Denominator of package series and of the document, in abstract values. -/
import Derived.Test.YtmcfohngblbpbaaMakB
namespace Ab
open Go Go.RowKit Go.Proofs Hp
set_option maxRecDepth 100000

theorem iof_p (x : Int) (h0 : -9223372036854775808 ≤ x) (h1 : x ≤ 9223372036854775807) : PC Try.prog 55 [.p (.int .i64 x)] (encI x) := by
  refine ⟨callOK Try.func55 rfl rfl, fun w M hM vs hvs => ?_⟩
  obtain ⟨v, rfl, hv⟩ := reps1 hvs
  rw [Rep.p_inv hv]
  refine (iof_c x w h0 h1).mono ?_
  rintro e w' ⟨v, rfl, hb, hr⟩
  exact ⟨v, rfl, hb, rep_encI hr (okm_below hM hb)⟩
theorem imul_p {a b : AV} {p q : Int} {k l : Nat} (ha : IsI a k p) (hk : k ≤ 8796093022208) (hb : IsI b l q) (hl : l ≤ 8796093022208) : PC Try.prog 59 [a, b] (encI (p * q)) := by
  refine ⟨callOK Try.func59 rfl rfl, fun w M hM vs hvs => ?_⟩
  obtain ⟨v, u, rfl, hv, hu⟩ := reps2 hvs
  refine (mul_c (isI_rep ha hv) (isI_rep hb hu) hk hl).mono ?_
  rintro e w' ⟨v, rfl, hb, hr⟩
  exact ⟨v, rfl, hb, rep_encI hr (okm_below hM hb)⟩
theorem igcd_p {a b : AV} {p q : Int} {k l : Nat} (ha : IsI a k p) (hk : k ≤ 8796093022208) (hb : IsI b l q) (hl : l ≤ 8796093022208) : PC Try.prog 58 [a, b] (encI (gcdZ p q)) := by
  refine ⟨callOK Try.func58 rfl rfl, fun w M hM vs hvs => ?_⟩
  obtain ⟨v, u, rfl, hv, hu⟩ := reps2 hvs
  refine (gcd_c (isI_rep ha hv) (isI_rep hb hu) hk hl).mono ?_
  rintro e w' ⟨v, rfl, hb, hr⟩
  exact ⟨v, rfl, hb, rep_encI hr (okm_below hM hb)⟩
theorem iexact_p {a b : AV} {p q : Int} {k l : Nat} (ha : IsI a k p) (hk : k ≤ 8796093022208) (hb : IsI b l q) (hl : l ≤ 8796093022208) (h0 : q ≠ 0) (hd : p % q = 0) : PC Try.prog 57 [a, b] (.tup [encI (p / q), .p (.int .i64 0)]) := by
  refine ⟨callOK Try.func57 rfl rfl, fun w M hM vs hvs => ?_⟩
  obtain ⟨v, u, rfl, hv, hu⟩ := reps2 hvs
  refine (exact_c (isI_rep ha hv) (isI_rep hb hu) hk hl h0 hd).mono ?_
  rintro e w' ⟨v, rfl, hb, uq, rfl, hr⟩
  refine ⟨_, rfl, hb, .tup _ _ rfl (fun i c v hi hv => ?_)⟩
  have hq := rep_encI hr (okm_below hM hb)
  rcases i with _ | _ | i
  · simp at hi hv; subst hi hv; exact hq
  · simp at hi hv; subst hi hv; exact .p _ rfl
  · simp at hi
/-- the least common denominator of the first j -/
def dnm (l : List Rat) : Nat → Int
  | 0 => 1
  | j + 1 => dnm l j * (((l.getD j 0).den : Int) / gcdZ (dnm l j) ((l.getD j 0).den : Int))
def denR (s : Int) (l : List Rat) : Int × Int := if ValidP s l.length then (dnm l l.length, 0) else (0, 2)
def denA (r : Int × Int) : AV := .tup [encI r.1, .p (.int .i64 r.2)]
theorem div_lt {x g : Int} {k : Nat} (h : x.natAbs < pw k) : (x / g).natAbs < pw k := by
  have := Int.natAbs_ediv_le_natAbs x g
  omega
theorem dnm_lt {l : List Rat} {K : Nat} (hK : 1 ≤ K) (hl : ∀ q, q ∈ l → Ht q K) : ∀ j, (dnm l j).natAbs < pw (1 + j * K)
  | 0 => by
    show (1 : Int).natAbs < pw (1 + 0 * K)
    rw [Nat.zero_mul]
    have := (ht_int (c := 1) (by decide)).1
    simpa using this
  | j + 1 => by
    have h1 := dnm_lt hK hl j
    have h2 : (((l.getD j 0).den : Nat) : Int).natAbs < pw K := by rw [Int.natAbs_natCast]; exact (ht_getD hK hl j).2
    have := lt_mul h1 (div_lt (g := gcdZ (dnm l j) ((l.getD j 0).den : Int)) h2)
    rw [Nat.add_mul j 1, Nat.one_mul, ← Nat.add_assoc]
    exact this
abbrev ivar (z : Int) : Blk := .var [.v (.p (.bool (decide (z < 0)))), .v (.sl ((dgs z.natAbs).map u32))]
abbrev ivar0 : Blk := .var [.v (.p (.bool false)), .v (.p nilV)]
set_option maxHeartbeats 4000000 in
theorem den_p {s : Int} {es : List AV} {l : List Rat} {K : Nat} (h : ValidP s es.length = true → IsL es K l) (hle : es.length = l.length) (hr : InR s es.length) (hK : 1 ≤ K ∧ K ≤ 100) : PC Try.prog 24 [serA s es] (denA (denR s l)) := by
  have hva := valid_p hr.1 hr.2 hr.3
  unfold denR
  rw [← hle]
  cases hv : ValidP s es.length with
  | false =>
    rw [hv] at hva
    unfold denA
    refine pc_body2 true Try.func24 rfl rfl rfl (Nat.le_of_ble_eq_true rfl) (CellT.agg agg_int) CellT.tmp ?_
    refine goA ?_
    refine evG ggA (ss_call (InB_of rfl) rfl rfl hva) ?_
    refine goA ?_
    exact rfl
  | true =>
  rw [hv] at hva
  have hL := h hv
  obtain ⟨a0, a1, a2⟩ := valid_iff.1 hv
  simp only [if_true]
  have hhl := isL_ht hL hK.1
  have hdl := dnm_lt hK.1 hhl
  have c1 := iof_p 1 (by decide) (by decide)
  have hd0 : dnm l 0 = 1 := rfl
  have hds : ∀ j, dnm l (j + 1) = dnm l j * (((l.getD j 0).den : Int) / gcdZ (dnm l j) ((l.getD j 0).den : Int)) := fun j => rfl
  have hN1 : es.length ≤ 1100 := by omega
  generalize dnm l = D at *
  obtain ⟨N, hN⟩ : ∃ N, N = es.length := ⟨_, rfl⟩
  rw [← hN]
  unfold denA
  refine pc_body2 true Try.func24 rfl rfl rfl (Nat.le_of_ble_eq_true rfl) (CellT.agg agg_int) CellT.tmp ?_
  refine r1A ?_
  refine T.seqI (fun s1 => s1 = mkS [(1, .ptr 1 0), (2, .ptr 2 0)] [(1, .var [.v (.p (.int .i64 s)), .v (.sl es)]), (2, ivar0)] 38 true) ?_ ?_
  · refine goA ?_
    refine evG ggA (ss_call (InB_of rfl) rfl rfl hva) ?_
    refine goA ?_
    exact midQ_intro (by exact entA) rfl
  rintro _ rfl
  refine T.seqI (fun s1 => s1 = mkS [(1, .ptr 1 0), (2, .ptr 2 0), (4, .ptr 4 0)] [(1, .var [.v (.p (.int .i64 s)), .v (.sl es)]), (2, ivar0), (4, ivar (D 0))] 38 true) ?_ ?_
  · refine goA ?_
    refine evG ggA (ss_call (InB_of rfl) rfl rfl c1) ?_
    refine goA ?_
    exact midQ_intro (s' := mkS [(1, .ptr 1 0), (2, .ptr 2 0), (4, .ptr 4 0)] [(1, .var [.v (.p (.int .i64 s)), .v (.sl es)]), (2, ivar0), (4, ivar 1)] 38 true) (by exact entA) (by rw [hd0])
  rintro _ rfl
  refine T.seqI (fun s1 => s1 = mkS [(2, .ptr 2 0), (4, .ptr 4 0)] [(2, ivar0), (4, ivar (D N))] 38 true) ?_ ?_
  · refine r1A ?_
    refine T.block ?_
    refine T.loop (fun n s1 => ∃ j : Nat, n = N - j ∧ j ≤ N ∧ s1 = mkS [(2, .ptr 2 0), (4, .ptr 4 0), (16, .v (.sl es)), (17, .v (.p (.int .i64 N))), (18, .v (.p (.int .i64 (j : Nat))))] [(2, ivar0), (4, ivar (D j))] 38 true) N
      (s' := mkS [(2, .ptr 2 0), (4, .ptr 4 0), (16, .v (.sl es)), (17, .v (.p (.int .i64 es.length))), (18, .v (.p (.int .i64 (0 : Nat))))] [(2, ivar0), (4, ivar (D 0))] 38 true) (by exact entA) ⟨0, rfl, Nat.zero_le _, by rw [hN]⟩ ?_
    rintro n _ ⟨j, rfl, hj, rfl⟩
    by_cases hlt : j < N
    · have hb : decide ((j : Int) < (N : Int)) = true := by simp; omega
      obtain ⟨y, ys, y', ys', q, e1, e2, e3⟩ := hL.at (i := j) (by omega)
      have e1' : es[((j : Nat) : Int).toNat]? = some (.agg [.p (.bool y), .sl ys, .p (.bool y'), .sl ys']) := by rw [Int.toNat_natCast]; exact e1
      have g1 : l.getD j 0 = q := by rw [List.getD_eq_getElem?_getD, e2]; rfl
      have cn := rnormal_p e3 (by omega)
      have htq := hhl q (List.mem_of_getElem? e2)
      have hqd : ((q.den : Nat) : Int).natAbs < pw K := by rw [Int.natAbs_natCast]; exact htq.2
      have hqp : (0 : Int) < q.den := by have := q.den_pos; omega
      have hjK : 1 + j * K ≤ 8796093022208 := by
        have : j * K ≤ 1100 * 100 := Nat.mul_le_mul (by omega) hK.2
        omega
      have hgl : (gcdZ (D j) (q.den : Int)).natAbs < pw K := by
        have h1 := gcdZ_le (n := D j) hqp
        have h2 := gcdZ_pos (n := D j) hqp
        omega
      have cg := igcd_p (isI_encI (hdl j)) hjK (isI_encI hqd) (by omega)
      have ce := iexact_p (isI_encI hqd) (by omega) (isI_encI hgl) (by omega) (by have := gcdZ_pos (n := D j) hqp; omega) (gcdZ_dvd (D j) (q.den : Int)).2
      have cm := imul_p (isI_encI (hdl j)) hjK (isI_encI (div_lt (g := gcdZ (D j) (q.den : Int)) hqd)) (by omega)
      have hdj := hds j
      rw [g1] at hdj
      rw [← hdj] at cm
      unfold encI at cg ce cm
      unfold encQ at cn
      generalize D j = z at *
      generalize hz' : D (j + 1) = z' at *
      generalize gcdZ z (q.den : Int) = gg at *
      generalize (q.den : Int) / gg = dd at *
      clear hdl hds hL h hhl
      refine goA ?_
      refine evG ggA (ss_index_sl (InB_of rfl) (elem_tab rfl) rfl rfl (by omega) e1' rfl) ?_
      refine goA ?_
      refine evG ggA (ss_call (InB_of rfl) rfl rfl cn) ?_
      refine runA ?_
      refine evG ggA (ss_fld_agg (l := ci q.den) (InB_of rfl) fg_den rfl rfl rfl) ?_
      refine goA ?_
      refine evG ggA (ss_call (InB_of rfl) rfl rfl cg) ?_
      refine evG ggA (ss_call (InB_of rfl) rfl rfl ce) ?_
      refine goA ?_
      refine evG ggA (ss_call (InB_of rfl) rfl rfl cm) ?_
      refine goA ?_
      exact loopQ_intro (k := N - (j + 1)) (s' := mkS [(2, .ptr 2 0), (4, .ptr 4 0), (16, .v (.sl es)), (17, .v (.p (.int .i64 N))), (18, .v (.p (.int .i64 ((j : Int) + 1))))] [(2, ivar0), (4, ivar z')] 38 true) (by omega) (by exact entA) ⟨j + 1, rfl, hlt, by rw [hz']; rfl⟩
    · obtain rfl : j = N := by omega
      have hb : decide ((j : Int) < (j : Int)) = false := by simp
      refine goA ?_
      exact midQ_intro (by exact entA) rfl
  rintro _ rfl
  unfold encI
  refine goA ?_
  exact rfl
set_option maxHeartbeats 4000000 in
theorem rden_p {s : Int} {es : List AV} {l : List Rat} {K : Nat} (h : ValidP s es.length = true → IsL es K l) (hle : es.length = l.length) (hr : InR s es.length) (hK : 1 ≤ K ∧ K ≤ 100) : PC Try.prog 25 [serA s es] (denA (denR s l)) := by
  have cch := check_p (es := es) hr.1 hr.2 hr.3
  unfold denR
  rw [← hle]
  cases hv : ValidP s es.length with
  | false =>
    rw [hv] at cch
    unfold denA
    refine pc_body2 true Try.func25 rfl rfl rfl (Nat.le_of_ble_eq_true rfl) (CellT.agg agg_int) CellT.tmp ?_
    refine goA ?_
    refine evG ggA (ss_call (InB_of rfl) rfl rfl cch) ?_
    refine goA ?_
    exact rfl
  | true =>
  rw [hv] at cch
  have hL := h hv
  obtain ⟨a0, a1, a2⟩ := valid_iff.1 hv
  simp only [if_true]
  have hhl := isL_ht hL hK.1
  have hdl := dnm_lt hK.1 hhl
  have c1 := z_p 1 (by decide) (by decide)
  have hd0 : dnm l 0 = 1 := rfl
  have hds : ∀ j, dnm l (j + 1) = dnm l j * (((l.getD j 0).den : Int) / gcdZ (dnm l j) ((l.getD j 0).den : Int)) := fun j => rfl
  have hN1 : es.length ≤ 1100 := by omega
  generalize dnm l = D at *
  obtain ⟨N, hN⟩ : ∃ N, N = es.length := ⟨_, rfl⟩
  rw [← hN]
  unfold denA
  refine pc_body2 true Try.func25 rfl rfl rfl (Nat.le_of_ble_eq_true rfl) (CellT.agg agg_int) CellT.tmp ?_
  refine r1A ?_
  refine T.seqI (fun s1 => s1 = mkS [(1, .ptr 1 0), (2, .ptr 2 0)] [(1, .var [.v (.p (.int .i64 s)), .v (.sl es)]), (2, ivar0)] 39 true) ?_ ?_
  · refine goA ?_
    refine evG ggA (ss_call (InB_of rfl) rfl rfl cch) ?_
    refine goA ?_
    exact midQ_intro (by exact entA) rfl
  rintro _ rfl
  refine T.seqI (fun s1 => s1 = mkS [(1, .ptr 1 0), (2, .ptr 2 0), (5, .ptr 5 0)] [(1, .var [.v (.p (.int .i64 s)), .v (.sl es)]), (2, ivar0), (5, ivar (D 0))] 39 true) ?_ ?_
  · unfold encI at c1
    refine goA ?_
    refine evG ggA (ss_call (InB_of rfl) rfl rfl c1) ?_
    refine goA ?_
    exact midQ_intro (s' := mkS [(1, .ptr 1 0), (2, .ptr 2 0), (5, .ptr 5 0)] [(1, .var [.v (.p (.int .i64 s)), .v (.sl es)]), (2, ivar0), (5, ivar 1)] 39 true) (by exact entA) (by rw [hd0])
  rintro _ rfl
  refine T.seqI (fun s1 => s1 = mkS [(2, .ptr 2 0), (5, .ptr 5 0)] [(2, ivar0), (5, ivar (D N))] 39 true) ?_ ?_
  · refine r1A ?_
    refine T.block ?_
    refine T.loop (fun n s1 => ∃ j : Nat, n = N - j ∧ j ≤ N ∧ s1 = mkS [(1, .ptr 1 0), (2, .ptr 2 0), (5, .ptr 5 0), (6, .v (.p (.int .i64 (j : Nat))))] [(1, .var [.v (.p (.int .i64 s)), .v (.sl es)]), (2, ivar0), (5, ivar (D j))] 39 true) N
      (s' := mkS [(1, .ptr 1 0), (2, .ptr 2 0), (5, .ptr 5 0), (6, .v (.p (.int .i64 (0 : Nat))))] [(1, .var [.v (.p (.int .i64 s)), .v (.sl es)]), (2, ivar0), (5, ivar (D 0))] 39 true) (by exact entA) ⟨0, rfl, Nat.zero_le _, rfl⟩ ?_
    rintro n _ ⟨j, rfl, hj, rfl⟩
    by_cases hlt : j < N
    · have hb : decide ((j : Int) < (es.length : Int)) = true := by simp; omega
      obtain ⟨y, ys, y', ys', q, e1, e2, e3⟩ := hL.at (i := j) (by omega)
      have e1' : es[((j : Nat) : Int).toNat]? = some (.agg [.p (.bool y), .sl ys, .p (.bool y'), .sl ys']) := by rw [Int.toNat_natCast]; exact e1
      have g1 : l.getD j 0 = q := by rw [List.getD_eq_getElem?_getD, e2]; rfl
      have cn : PC Try.prog 61 _ _ := (refnormal_p e3 (by omega)).up
      have htq := hhl q (List.mem_of_getElem? e2)
      have hqd : ((q.den : Nat) : Int).natAbs < pw K := by rw [Int.natAbs_natCast]; exact htq.2
      have hqp : (0 : Int) < q.den := by have := q.den_pos; omega
      have hjK : 1 + j * K ≤ 200000 := by
        have : j * K ≤ 1100 * 100 := Nat.mul_le_mul (by omega) hK.2
        omega
      have hgl : (gcdZ (D j) (q.den : Int)).natAbs < pw K := by
        have h1 := gcdZ_le (n := D j) hqp
        have h2 := gcdZ_pos (n := D j) hqp
        omega
      have cg : PC Try.prog 63 _ _ := (refgcd_p (k := 1 + j * K + K) ⟨_, rfl, isC_mono (isC_ci (hdl j)) (by omega)⟩ ⟨_, rfl, isC_mono (isC_ci hqd) (by omega)⟩ (by omega)).up
      rw [← gcdZ_def] at cg
      have ce : PC Try.prog 62 _ _ := (refdivided_p (isI_encI hqd) (isI_encI hgl) (by have := gcdZ_pos (n := D j) hqp; omega) (by omega)).up
      have cm : PC Try.prog 64 _ _ := (refmul_p (isI_encI (hdl j)) (isI_encI (div_lt (g := gcdZ (D j) (q.den : Int)) hqd)) (by omega) (by omega)).up
      have hdj := hds j
      rw [g1] at hdj
      rw [← hdj] at cm
      unfold encI at cg ce cm
      unfold encQ at cn
      generalize D j = z at *
      generalize hz' : D (j + 1) = z' at *
      generalize gcdZ z (q.den : Int) = gg at *
      generalize (q.den : Int) / gg = dd at *
      clear hdl hds hL h hhl
      refine goA ?_
      refine evG ggA (ss_index_sl (InB_of rfl) (elem_tab rfl) rfl rfl (by omega) e1' rfl) ?_
      refine goA ?_
      refine evG ggA (ss_call (InB_of rfl) rfl rfl cn) ?_
      refine runA ?_
      refine evG ggA (ss_fld_agg (l := ci q.den) (InB_of rfl) fg_den rfl rfl rfl) ?_
      refine goA ?_
      refine evG ggA (ss_call (InB_of rfl) rfl rfl cg) ?_
      refine evG ggA (ss_call (InB_of rfl) rfl rfl ce) ?_
      refine goA ?_
      refine evG ggA (ss_call (InB_of rfl) rfl rfl cm) ?_
      refine goA ?_
      exact loopQ_intro (k := N - (j + 1)) (s' := mkS [(1, .ptr 1 0), (2, .ptr 2 0), (5, .ptr 5 0), (6, .v (.p (.int .i64 ((j : Int) + 1))))] [(1, .var [.v (.p (.int .i64 s)), .v (.sl es)]), (2, ivar0), (5, ivar z')] 39 true) (by omega) (by exact entA) ⟨j + 1, rfl, hlt, by rw [hz']; rfl⟩
    · obtain rfl : j = N := by omega
      have hb : decide ((j : Int) < (es.length : Int)) = false := by simp; omega
      refine goA ?_
      exact midQ_intro (by exact entA) rfl
  rintro _ rfl
  unfold encI
  refine goA ?_
  exact rfl
end Ab
