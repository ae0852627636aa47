/- Coefficients, sums and differences of series in abstract values. -/
import Derived.Test.YtmcfohngblbpbaaGreatBuildB
namespace Ab
open Go Go.RowKit Go.Proofs Hp
set_option maxRecDepth 100000

/-- the coefficient of an exponent -/
def cf (s : Int) (l : List Rat) (m : Int) : Rat := if m < s then 0 else l.getD (m - s).toNat 0
/-- what at hands back: the element as it is, or the fraction 0 -/
def atV (s : Int) (es : List AV) (m : Int) : AV := if m < s then encQ 0 else es.getD (m - s).toNat (encQ 0)
theorem ht0 {k : Nat} (hk : 1 ≤ k) : Ht 0 k := by
  have h1 : pw 1 ≤ pw k := pw_le 1 k hk
  have e : pw 1 = 4294967296 := by decide
  exact ⟨by have := pw_pos k; simpa using this, by show (1 : Int) < _; omega⟩
theorem ht_int {c : Int} (h : c.natAbs < 4294967296) : Ht (c : Rat) 1 := by
  have e : pw 1 = 4294967296 := by decide
  refine ⟨?_, ?_⟩
  · rw [Rat.num_intCast, e]; omega
  · rw [Rat.den_intCast, e]; decide
theorem isV_at {s : Int} {es : List AV} {l : List Rat} {K : Nat} (h : IsL es K l) (hK : 1 ≤ K) (m : Int) : IsV (atV s es m) K (cf s l m) := by
  unfold atV cf
  split
  · exact isV_encQ (ht0 hK)
  · obtain ⟨h1, h2⟩ := h.get
    by_cases hi : (m - s).toNat < l.length
    · obtain ⟨e, h3, h4⟩ := h2 _ l[(m - s).toNat] (List.getElem?_eq_getElem hi)
      rw [List.getD_eq_getElem?_getD, List.getD_eq_getElem?_getD, h3, List.getElem?_eq_getElem hi]
      exact h4
    · rw [List.getD_eq_getElem?_getD, List.getD_eq_getElem?_getD, List.getElem?_eq_none (by omega), List.getElem?_eq_none (by omega)]
      exact isV_encQ (ht0 hK)
theorem isV_lit {a : AV} {k : Nat} {q : Rat} (h : IsV a k q) : ∃ l, a = .agg l ∧ l.length = 4 ∧ pureCells (l.map .v) = some l := by
  obtain ⟨g, d, g', d', rfl⟩ := isV_cells h
  exact ⟨_, rfl, rfl, rfl⟩
theorem at_p {s : Int} {es : List AV} {l : List Rat} {K : Nat} (h : IsL es K l) (h0 : -100 ≤ s) (h1 : s ≤ 1000) (h2 : (es.length : Int) ≤ 1000 - s) {m : Int} (hm0 : -9223372036854775808 ≤ m) (hm : m < s + es.length) : PC Tryz.prog 66 [serA s es, .p (.int .i64 m)] (atV s es m) := by
  by_cases hc : m < s
  · have hb : decide (m < s) = true := by simp [hc]
    have e : atV s es m = encQ 0 := by unfold atV; rw [if_pos hc]
    rw [e]
    have h0 := rof_p 0 (by decide) (by decide)
    rw [show ((0 : Int) : Rat) = 0 from rfl] at h0
    refine pc_body1 true Tryz.func66 rfl rfl rfl (Nat.le_of_ble_eq_true rfl) (CellT.agg (l := ci (0 : Rat).num ++ ci (0 : Rat).den) agg_rat) ?_
    refine goA ?_
    refine evG ggA (ss_call (InB_of rfl) rfl rfl h0) ?_
    refine goA ?_
    exact rfl
  · have hb : decide (m < s) = false := by simp; omega
    obtain ⟨g, ds, g', ds', q, he, hq, hv⟩ := h.at (i := (m - s).toNat) (by omega)
    have e : atV s es m = .agg [.p (.bool g), .sl ds, .p (.bool g'), .sl ds'] := by unfold atV; rw [if_neg hc, List.getD_eq_getElem?_getD, he]; rfl
    rw [e]
    refine pc_body1 true Tryz.func66 rfl rfl rfl (Nat.le_of_ble_eq_true rfl) (CellT.agg agg_rat) ?_
    refine goA ?_
    refine evG ggA (ss_index_sl (InB_of rfl) (elem_tab rfl) rfl rfl (by omega) he rfl) ?_
    refine goA ?_
    exact rfl
theorem nrm_valid {s : Int} {l : List Rat} (h0 : -100 ≤ s) (h1 : s ≤ 1000) (h2 : (l.length : Int) ≤ 1000 - s) : nrm s l = some (s + lead l, l.drop (lead l)) := by
  have e1 : nfrom s = s := by unfold nfrom; rw [if_neg (by omega)]
  have e2 : ncut s l = l := by unfold ncut; rw [if_neg (by omega), List.take_of_length_le (by omega)]
  unfold nrm
  rw [e1, e2, if_neg (by omega)]
theorem valid_iff {s : Int} {n : Nat} : ValidP s n = true ↔ -100 ≤ s ∧ s ≤ 1000 ∧ (n : Int) ≤ 1000 - s := by unfold ValidP; simp [and_assoc]
theorem tidy_p {s : Int} {es : List AV} {l : List Rat} {K : Nat} (h : IsL es K l) (hK : K ≤ 2199023255552) (h0 : -100 ≤ s) (h1 : s ≤ 1000) (h2 : (es.length : Int) ≤ 1000 - s) : PC Tryz.prog 44 [serA s es] (serA (s + lead l) ((l.drop (lead l)).map encQ)) := by
  have hlen := h.get.1
  have hb := build_p h hK (s := s) (by omega) (by omega) (by omega)
  rw [nrm_valid h0 h1 (by omega)] at hb
  refine pc_body1 true Tryz.func44 rfl rfl rfl (Nat.le_of_ble_eq_true rfl) (CellT.agg agg_ser) ?_
  refine goA ?_
  refine evG ggA (ss_call (InB_of rfl) rfl rfl hb) ?_
  refine goA ?_
  exact rfl
def tk (f : Nat → Rat) (j : Nat) : List Rat := (List.range j).map f
theorem tk_succ (f : Nat → Rat) (j : Nat) : tk f (j + 1) = tk f j ++ [f j] := by simp [tk, List.range_succ]
@[simp] theorem tk_len (f : Nat → Rat) (j : Nat) : (tk f j).length = j := by simp [tk]
theorem tk_mem {f : Nat → Rat} {j : Nat} {q : Rat} (h : q ∈ tk f j) : ∃ i, i < j ∧ q = f i := by
  simp [tk] at h
  obtain ⟨i, h1, h2⟩ := h
  exact ⟨i, h1, h2.symm⟩
/-- where a sum ends and begins -/
def cp (s : Int) (n : Nat) (t : Int) (m : Nat) : Int := min (s + n) (t + m)
def cfr (s : Int) (n : Nat) (t : Int) (m : Nat) : Int := min (min s t) (cp s n t m)
def comb (s : Int) (l : List Rat) (t : Int) (m : List Rat) (c : Int) (i : Nat) : Rat := cf s l (cfr s l.length t m.length + i) + c * cf t m (cfr s l.length t m.length + i)
def combR (s : Int) (l : List Rat) (t : Int) (m : List Rat) (c : Int) : Option (Int × List Rat) :=
  if ValidP s l.length && ValidP t m.length then nrm (cfr s l.length t m.length) (tk (comb s l t m c) (cp s l.length t m.length - cfr s l.length t m.length).toNat) else none
theorem ht_cf {s : Int} {l : List Rat} {K : Nat} (hK : 1 ≤ K) (h : ∀ q, q ∈ l → Ht q K) (m : Int) : Ht (cf s l m) K := by
  unfold cf
  split
  · exact ht0 hK
  · rw [List.getD_eq_getElem?_getD]
    cases hq : l[(m - s).toNat]? with
    | none => exact ht0 hK
    | some q => exact h q (List.mem_of_getElem? hq)
theorem isL_ht {es : List AV} {l : List Rat} {K : Nat} (h : IsL es K l) (hK : 1 ≤ K) : ∀ q, q ∈ l → Ht q K := fun q hq => by
  obtain ⟨i, hi⟩ := List.getElem?_of_mem hq
  obtain ⟨e, -, h2⟩ := h.get.2 i q hi
  exact isV_ht h2 hK
theorem ht_comb {s t : Int} {l m : List Rat} {c : Int} {K : Nat} (hK : 1 ≤ K) (hl : ∀ q, q ∈ l → Ht q K) (hm : ∀ q, q ∈ m → Ht q K) (hc : c.natAbs < 4294967296) (i : Nat) : Ht (comb s l t m c i) (2 * K + 2) :=
  (ht_add (ht_cf hK hl _) (ht_mul (ht_int hc) (ht_cf hK hm _) (Nat.le_refl _))).mono (by omega)
set_option maxHeartbeats 2000000 in
theorem combine_p {s t c : Int} {es fs : List AV} {l m : List Rat} {K : Nat} (hl : ValidP s es.length = true → ValidP t fs.length = true → IsL es K l) (hm : ValidP s es.length = true → ValidP t fs.length = true → IsL fs K m) (hle : es.length = l.length) (hlf : fs.length = m.length) (hK : 1 ≤ K ∧ K ≤ 268435456)
    (hs : -9223372036854775808 ≤ s ∧ s ≤ 9223372036854775807 ∧ es.length ≤ 9223372036854775807) (ht : -9223372036854775808 ≤ t ∧ t ≤ 9223372036854775807 ∧ fs.length ≤ 9223372036854775807) (hc : c.natAbs < 4294967296) : PC Tryz.prog 62 [serA s es, serA t fs, .p (.int .i64 c)] (serE (combR s l t m c)) := by
  have hva := valid_p hs.1 hs.2.1 hs.2.2
  have hvb := valid_p ht.1 ht.2.1 ht.2.2
  rw [serE_eq]
  unfold combR
  rw [← hle, ← hlf]
  cases h1 : ValidP s es.length with
  | false =>
    rw [h1] at hva
    refine pc_body2 true Tryz.func62 rfl rfl rfl (Nat.le_of_ble_eq_true rfl) (CellT.agg agg_ser) CellT.tmp ?_
    refine goA ?_
    refine evG ggA (ss_call (InB_of rfl) rfl rfl hva) ?_
    refine goA ?_
    exact rfl
  | true =>
  rw [h1] at hva
  cases h2 : ValidP t fs.length with
  | false =>
    rw [h2] at hvb
    refine pc_body2 true Tryz.func62 rfl rfl rfl (Nat.le_of_ble_eq_true rfl) (CellT.agg agg_ser) CellT.tmp ?_
    refine goA ?_
    refine evG ggA (ss_call (InB_of rfl) rfl rfl hva) ?_
    refine goA ?_
    refine evG ggA (ss_call (InB_of rfl) rfl rfl hvb) ?_
    refine goA ?_
    exact rfl
  | true =>
  rw [h2] at hvb
  have hL := hl h1 h2
  have hM := hm h1 h2
  obtain ⟨a0, a1, a2⟩ := valid_iff.1 h1
  obtain ⟨b0, b1, b2⟩ := valid_iff.1 h2
  have hpa := prec_p a0 a1 a2
  have hpb := prec_p b0 b1 b2
  simp only [Bool.and_true, if_true]
  have hhc : ∀ i, Ht (comb s l t m c i) (2 * K + 2) := ht_comb hK.1 (isL_ht hL hK.1) (isL_ht hM hK.1) hc
  have hcomb : comb s l t m c = fun (i : Nat) => cf s l (min (min s t) (min (s + es.length) (t + fs.length)) + i) + c * cf t m (min (min s t) (min (s + es.length) (t + fs.length)) + i) := by funext i; unfold comb cfr cp; rw [← hle, ← hlf]
  have hof := rof_p c (by omega) (by omega)
  unfold cfr cp
  generalize comb s l t m c = F at *
  refine pc_body2 true Tryz.func62 rfl rfl rfl (Nat.le_of_ble_eq_true rfl) (CellT.agg agg_ser) CellT.tmp ?_
  refine goA ?_
  refine evG ggA (ss_call (InB_of rfl) rfl rfl hva) ?_
  refine goA ?_
  refine evG ggA (ss_call (InB_of rfl) rfl rfl hvb) ?_
  refine goA ?_
  refine evG ggA (ss_call (InB_of rfl) rfl rfl hpa) ?_
  refine goA ?_
  refine evG ggA (ss_call (InB_of rfl) rfl rfl hpb) ?_
  refine goA ?_
  generalize hp : min (s + (es.length : Int)) (t + (fs.length : Int)) = p at *
  generalize hf : min (min s t) p = f at *
  obtain ⟨N, hN⟩ : ∃ N, N = (p - f).toNat := ⟨_, rfl⟩
  rw [← hN]
  refine evG ggA (ss_make 35 (e0 := rz) (InB_of rfl) (make_tab rfl) rfl rfl rfl (by omega) (by omega) (by omega) (by omega) rfl rfl rfl) ?_
  refine runA ?_
  refine ev_nil ?_
  refine seqQ_n ?_
  refine T.seqI (fun s1 => s1 = mkS [(9, .v (.p (.int .i64 f))), (10, .own 35 N), (6, .ptr 6 0)] [(6, var0), (35, .lst 4 47 ((tk F N).map encQ))] 60 true) ?_ ?_
  · refine r1A ?_
    refine T.block ?_
    refine T.loop (fun n s1 => ∃ j : Nat, n = N - j ∧ j ≤ N ∧ s1 = mkS [(2, .v (.p (.int .i64 c))), (3, .ptr 3 0), (4, .ptr 4 0), (8, .v (.p (.int .i64 p))), (9, .v (.p (.int .i64 f))), (11, .v (.p (.int .i64 (f + j)))), (10, .own 35 j), (6, .ptr 6 0)] [(3, .var [.v (.p (.int .i64 s)), .v (.sl es)]), (4, .var [.v (.p (.int .i64 t)), .v (.sl fs)]), (6, var0), (35, .lst 4 47 ((tk F j).map encQ))] 60 true) N
      (s' := mkS [(2, .v (.p (.int .i64 c))), (3, .ptr 3 0), (4, .ptr 4 0), (8, .v (.p (.int .i64 p))), (9, .v (.p (.int .i64 f))), (11, .v (.p (.int .i64 f))), (10, .own 35 0), (6, .ptr 6 0)] [(3, .var [.v (.p (.int .i64 s)), .v (.sl es)]), (4, .var [.v (.p (.int .i64 t)), .v (.sl fs)]), (6, var0), (35, .lst 4 47 ((tk F 0).map encQ))] 60 true) (by exact entA) ⟨0, rfl, Nat.zero_le _, by simp⟩ ?_
    rintro n _ ⟨j, rfl, hj, rfl⟩
    by_cases hlt : j < N
    · have hb : decide (f + (j : Int) < p) = true := by simp; omega
      have c1 := at_p hL a0 a1 a2 (m := f + j) (by omega) (by omega)
      have c2 := at_p hM b0 b1 b2 (m := f + j) (by omega) (by omega)
      obtain ⟨l1, e1, e2, e3⟩ := isV_lit (isV_at (s := s) hL hK.1 (f + j))
      have v1 := isV_at (s := s) hL hK.1 (f + j)
      have v2 := isV_at (s := t) hM hK.1 (f + j)
      rw [e1] at c1 v1
      obtain ⟨l2, e4, e5, e6⟩ := isV_lit v2
      rw [e4] at c2 v2
      have c3 := rmul_p (isV_encQ (ht_int hc)) (by omega) v2 (by omega)
      have c4 := radd_p v1 (by omega) (isV_encQ (ht_mul (ht_int hc) (isV_ht v2 hK.1) (Nat.le_refl _))) (by omega)
      have hF : F j = cf s l (f + j) + c * cf t m (f + j) := by rw [hcomb]
      rw [← hF] at c4
      refine goA ?_
      refine evG ggA (ss_call (InB_of rfl) rfl rfl c1) ?_
      refine goA ?_
      refine evG ggA (ss_call (InB_of rfl) rfl rfl hof) ?_
      refine goA ?_
      refine evG ggA (ss_call (InB_of rfl) rfl rfl c2) ?_
      refine evG ggA (ss_call (InB_of rfl) rfl rfl c3) ?_
      refine evG ggA (ss_call (InB_of rfl) rfl rfl c4) ?_
      (refine evG ggA (ss_bslice (InB_of rfl) (make_tab rfl) rfl rfl rfl rfl (one_ok rfl rfl) (Nat.le_of_ble_eq_true rfl)) ?_; refine evG ggA (ss_snoc (InB_of rfl) (make_tab rfl) rfl rfl (by first | rfl | assumption | (simp; done) | (simp; omega)) rfl (by omega) (Nat.le_of_ble_eq_true rfl) rfl) ?_)
      refine goA ?_
      exact loopQ_intro (k := N - (j + 1)) (s' := mkS [(2, .v (.p (.int .i64 c))), (3, .ptr 3 0), (4, .ptr 4 0), (8, .v (.p (.int .i64 p))), (9, .v (.p (.int .i64 f))), (11, .v (.p (.int .i64 (f + (j : Int) + 1)))), (10, .own 35 (j + 1)), (6, .ptr 6 0)] [(3, .var [.v (.p (.int .i64 s)), .v (.sl es)]), (4, .var [.v (.p (.int .i64 t)), .v (.sl fs)]), (6, var0), (35, .lst 4 47 ((tk F j ++ [F j]).map encQ))] 60 true) (by omega) (by exact entA) ⟨j + 1, rfl, hlt, by rw [tk_succ, Int.natCast_succ, ← Int.add_assoc]⟩
    · obtain rfl : j = N := by omega
      have hb : decide (f + (j : Int) < p) = false := by simp; omega
      refine goA ?_
      exact midQ_intro (s' := mkS [(9, .v (.p (.int .i64 f))), (10, .own 35 j), (6, .ptr 6 0)] [(6, var0), (35, .lst 4 47 ((tk F j).map encQ))] 60 true) (by exact entA) rfl
  rintro _ rfl
  have hbuild := build_p (s := f) (isL_enc (l := tk F N) (k := 2 * K + 2) (fun q hq => by obtain ⟨i, -, rfl⟩ := tk_mem hq; exact hhc i)) (by omega) (by omega) (by omega) (by rw [tk_len]; omega)
  rw [serE_eq] at hbuild
  refine T.weak (s' := mkS [(9, .v (.p (.int .i64 f))), (10, .v (.sl ((tk F N).map encQ))), (6, .ptr 6 0)] [(6, var0)] 60 true) (by exact entA) ?_
  refine goA ?_
  refine evG ggA (ss_call (InB_of rfl) rfl rfl hbuild) ?_
  refine goA ?_
  exact rfl
end Ab
