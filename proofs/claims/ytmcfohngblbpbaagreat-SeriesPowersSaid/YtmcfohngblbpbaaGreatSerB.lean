/- Small functions on fractions and series, in abstract values. -/
import Derived.Test.YtmcfohngblbpbaaGreatEnc
namespace Ab
open Go Go.RowKit Go.Proofs Hp
set_option maxRecDepth 100000

/-- a list of fractions, of numbers of at most k digits -/
def IsL : List AV → Nat → List Rat → Prop
  | [], _, [] => True
  | e :: es, k, q :: l => IsV e k q ∧ IsL es k l
  | _, _, _ => False
theorem IsL.get {k : Nat} : ∀ {es : List AV} {l : List Rat}, IsL es k l → es.length = l.length ∧ ∀ (i : Nat) q, l[i]? = some q → ∃ e, es[i]? = some e ∧ IsV e k q
  | [], [], _ => ⟨rfl, fun i q h => by simp at h⟩
  | e :: es, q :: l, h => by
    obtain ⟨h1, h2⟩ := IsL.get h.2
    refine ⟨by simp [h1], fun i q' hi => ?_⟩
    rcases i with _ | i
    · simp at hi; subst hi; exact ⟨e, rfl, h.1⟩
    · simpa using h2 i q' (by simpa using hi)
  | [], _ :: _, h => h.elim
  | _ :: _, [], h => h.elim
theorem IsL.mk {k : Nat} : ∀ {es : List AV} {l : List Rat}, es.length = l.length → (∀ (i : Nat) e q, es[i]? = some e → l[i]? = some q → IsV e k q) → IsL es k l
  | [], [], _, _ => trivial
  | e :: es, q :: l, h, hi => ⟨hi 0 e q rfl rfl, IsL.mk (by simpa using h) fun i e' q' h1 h2 => hi (i + 1) e' q' (by simpa using h1) (by simpa using h2)⟩
theorem isL_enc {k : Nat} : ∀ {l : List Rat}, (∀ q, q ∈ l → Ht q k) → IsL (l.map encQ) k l
  | [], _ => trivial
  | q :: l, h => ⟨isV_encQ (h q (by simp)), isL_enc fun q' hq => h q' (by simp [hq])⟩
theorem IsL.mono {k k' : Nat} (hk : k ≤ k') : ∀ {es : List AV} {l : List Rat}, IsL es k l → IsL es k' l
  | [], [], _ => trivial
  | e :: es, q :: l, h => ⟨isV_mono h.1 hk, IsL.mono hk h.2⟩
def serA (s : Int) (es : List AV) : AV := .agg [.p (.int .i64 s), .sl es]
theorem isign_p {a : AV} {k : Nat} {z : Int} (h : IsI a k z) (hk : k ≤ 17592186044416) : PC Tryz.prog 81 [a] (.p (.int .i64 (sgn z))) := by
  refine ⟨callOK Tryz.func81 rfl rfl, fun w M hM vs hvs => ?_⟩
  obtain ⟨v, rfl, hv⟩ := reps1 hvs
  refine (isign_c (isI_rep h hv) hk).mono ?_
  rintro e w' ⟨v, rfl, hb, hr⟩
  exact ⟨v, rfl, hb, by rw [hr]; exact .p _ rfl⟩
theorem rsign_p {a : AV} {k : Nat} {q : Rat} (h : IsV a k q) (hk : k ≤ 17592186044416) : ∃ sg : Int, -1 ≤ sg ∧ sg ≤ 1 ∧ (sg = 0 ↔ q = 0) ∧ PC Tryz.prog 46 [a] (.p (.int .i64 sg)) := by
  obtain ⟨cs, ds, p, d, rfl, ⟨g, l, rfl, h1, h2, h3⟩, ⟨g', l', rfl, h4, h5, h6⟩, h7⟩ := h
  have hp := sgn_mul_range p d
  rw [← h7] at hp
  refine ⟨sgn p * sgn d, hp.1, hp.2.1, hp.2.2, ?_⟩
  have hI1 : IsI (.agg [.p (.bool g), .sl (l.map u32)]) k p := ⟨_, rfl, g, l, rfl, h1, h2, h3⟩
  have hI2 : IsI (.agg [.p (.bool g'), .sl (l'.map u32)]) k d := ⟨_, rfl, g', l', rfl, h4, h5, h6⟩
  have hr : -1 ≤ sgn p * sgn d ∧ sgn p * sgn d ≤ 1 := ⟨hp.1, hp.2.1⟩
  refine pc_body1 true Tryz.func46 rfl rfl rfl (Nat.le_of_ble_eq_true rfl) CellT.tmp ?_
  refine goA ?_
  refine evG ggA (ss_call (InB_of rfl) rfl rfl (isign_p hI1 hk)) ?_
  refine goA ?_
  refine evG ggA (ss_call (InB_of rfl) rfl rfl (isign_p hI2 hk)) ?_
  refine evG ggA (ss_arith (InB_of rfl) rfl rfl (w64 (by omega) (by omega))) ?_
  refine goA ?_
  exact rfl
theorem rcmp_p {a b : AV} {k l : Nat} {p q : Rat} (ha : IsV a k p) (hk : k ≤ 1099511627774) (hb : IsV b l q) (hl : l ≤ 1099511627774) : ∃ sg : Int, -1 ≤ sg ∧ sg ≤ 1 ∧ (sg = 0 ↔ p = q) ∧ PC Tryz.prog 65 [a, b] (.p (.int .i64 sg)) := by
  obtain ⟨g, d1, g', d2, rfl⟩ := isV_cells ha
  obtain ⟨g2, d3, g3, d4, rfl⟩ := isV_cells hb
  have hsub := rsub_p ha (by omega) hb (by omega)
  have hb' : IsV _ (l + 1) q := isV_mono hb (by omega)
  have ha' : IsV _ (k + 1) p := isV_mono ha (by omega)
  have hh : Ht (p - q) (k + 1 + (l + 1) + 1) := by
    rw [Rat.sub_eq_add_neg]; exact ht_add (isV_ht ha' (by omega)) (ht_neg (isV_ht hb' (by omega)))
  obtain ⟨sg, h1, h2, h3, hsig⟩ := rsign_p (isV_encQ hh) (by omega)
  refine ⟨sg, h1, h2, ?_, ?_⟩
  · rw [h3]
    constructor
    · intro h
      have h' : p - q + q = 0 + q := by rw [h]
      rw [Rat.sub_add_cancel, Rat.zero_add] at h'
      exact h'
    · rintro rfl; exact Rat.sub_self
  refine pc_body1 true Tryz.func65 rfl rfl rfl (Nat.le_of_ble_eq_true rfl) CellT.tmp ?_
  refine goA ?_
  refine evG ggA (ss_call (InB_of rfl) rfl rfl hsub) ?_
  refine evG ggA (ss_call (InB_of rfl) rfl rfl hsig) ?_
  refine goA ?_
  exact rfl
def ValidP (s : Int) (n : Nat) : Bool := decide (-100 ≤ s) && decide (s ≤ 1000) && decide ((n : Int) ≤ 1000 - s)
theorem valid_p {s : Int} {es : List AV} (hs0 : -9223372036854775808 ≤ s) (hs1 : s ≤ 9223372036854775807) (hn : es.length ≤ 9223372036854775807) : PC Tryz.prog 43 [serA s es] (.p (.bool (ValidP s es.length))) := by
  by_cases h1 : -100 ≤ s
  · have hb1 : decide (s ≥ -100) = true := by simp [h1]
    by_cases h2 : s ≤ 1000
    · have hb2 : decide (s ≤ 1000) = true := by simp [h2]
      have e : ValidP s es.length = decide ((es.length : Int) ≤ 1000 - s) := by unfold ValidP; simp [h1, h2]
      rw [e]
      refine pc_body1 true Tryz.func43 rfl rfl rfl (Nat.le_of_ble_eq_true rfl) CellT.tmp ?_
      refine goA ?_
      exact rfl
    · have hb2 : decide (s ≤ 1000) = false := by simp; omega
      have e : ValidP s es.length = decide (s ≤ 1000) := by unfold ValidP; simp [h1, h2]
      rw [e]
      refine pc_body1 true Tryz.func43 rfl rfl rfl (Nat.le_of_ble_eq_true rfl) CellT.tmp ?_
      refine goA ?_
      rw [hb2]; exact rfl
  · have hb1 : decide (s ≥ -100) = false := by simp; omega
    have e : ValidP s es.length = false := by unfold ValidP; simp [h1]
    rw [e]
    refine pc_body1 true Tryz.func43 rfl rfl rfl (Nat.le_of_ble_eq_true rfl) CellT.tmp ?_
    refine goA ?_
    exact rfl
theorem prec_p {s : Int} {es : List AV} (h0 : -100 ≤ s) (h1 : s ≤ 1000) (h2 : (es.length : Int) ≤ 1000 - s) : PC Tryz.prog 64 [serA s es] (.p (.int .i64 (s + es.length))) := by
  refine pc_body1 true Tryz.func64 rfl rfl rfl (Nat.le_of_ble_eq_true rfl) CellT.tmp ?_
  refine goA ?_
  exact rfl
end Ab
