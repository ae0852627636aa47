/- The exponents of a product and the product of powers: plain; base.Frac. Exponents of package series, in abstract values. Frac of the base, Exponents of the document, in abstract values. Product of package series, in abstract values. sums and Product of the document, in abstract values. The statement SeriesExponents: its walk. -/
import Derived.Test.YtmcfohngblbpbaaGreatZrod
namespace Ab
open Go Go.RowKit Go.Proofs Hp
set_option maxRecDepth 100000

/-- n a(n) + the sum of b(i) a(n-i) for i from 1 to j; n = m + 1 -/
def exs (A b : List Rat) (m : Nat) : Nat → Rat
  | 0 => (((m : Int) + 1 : Int) : Rat) * A.getD (m + 1) 0
  | j + 1 => exs A b m j + b.getD j 0 * A.getD (m - j) 0
/-- x minus the d c(d) of the divisors d of n = m + 1, d up to j -/
def exc (c : List Rat) (m : Nat) (x : Rat) : Nat → Rat
  | 0 => x
  | j + 1 => if (m + 1) % (j + 1) = 0 then exc c m x j - (((j : Int) + 1 : Int) : Rat) * c.getD j 0 else exc c m x j
def exb (A : List Rat) : Nat → List Rat
  | 0 => []
  | m + 1 => exb A m ++ [-(exs A (exb A m) m m)]
def exq (A : List Rat) : Nat → List Rat
  | 0 => []
  | m + 1 => exq A m ++ [exc (exq A m) m (-(exs A (exb A m) m m)) m / (((m : Int) + 1 : Int) : Rat)]
theorem exb_len (A : List Rat) : ∀ n, (exb A n).length = n
  | 0 => rfl
  | n + 1 => by rw [exb, List.length_append, exb_len A n]; rfl
theorem exq_len (A : List Rat) : ∀ n, (exq A n).length = n
  | 0 => rfl
  | n + 1 => by rw [exq, List.length_append, exq_len A n]; rfl
def expoT (s : Int) (l : List Rat) : Int × List Rat × Int :=
  if ValidP s l.length then (if l.drop (lead l) = [] then (0, [], 18) else if (l.drop (lead l)).getD 0 0 = 1 then (s + lead l, exq (l.drop (lead l)) ((l.drop (lead l)).length - 1), 0) else (0, [], 3)) else (0, [], 2)
def expoA (r : Int × List Rat × Int) : AV := .tup [.p (.int .i64 r.1), .sl (r.2.1.map encQ), .p (.int .i64 r.2.2)]
theorem getD_snoc {l : List Rat} {x : Rat} {i : Nat} : (l ++ [x]).getD i 0 = if i < l.length then l.getD i 0 else if i = l.length then x else 0 := by
  rw [List.getD_eq_getElem?_getD, List.getElem?_append]
  by_cases h : i < l.length
  · rw [if_pos h, if_pos h, List.getD_eq_getElem?_getD]
  · rw [if_neg h, if_neg h]
    by_cases h2 : i = l.length
    · rw [if_pos h2, h2, Nat.sub_self]; rfl
    · rw [if_neg h2, List.getElem?_eq_none (by simp; omega)]; rfl
theorem ht_n (m : Nat) (hm : m ≤ 100000) : Ht (((m : Int) + 1 : Int) : Rat) 1 := ht_int (by omega)
theorem ht_sub' {q r : Rat} {k l : Nat} (hq : Ht q k) (hr : Ht r l) : Ht (q - r) (k + l + 1) := by
  rw [Rat.sub_eq_add_neg]; exact ht_add hq (ht_neg hr)
theorem ht_dv {q r : Rat} {k l : Nat} (hq : Ht q k) (hr : Ht r l) (hk : 1 ≤ k) (hl : 1 ≤ l) : Ht (q / r) (k + l) := by
  rw [Rat.div_def]; exact ht_mul hq (ht_inv hr hl) hk
/-- heights on the way, B a bound of the sums' heights -/
theorem ht_exs {A b : List Rat} {K B m : Nat} (hK : 1 ≤ K) (hB : 1 ≤ B) (hm : m ≤ 100000) (hA : ∀ q, q ∈ A → Ht q K) (hb : ∀ q, q ∈ b → Ht q B) : ∀ j, Ht (exs A b m j) (K + 1 + j * (B + K + 1))
  | 0 => (ht_mul (ht_n m hm) (getD_ht hK hA (m + 1)) (Nat.le_refl 1)).mono (by omega)
  | j + 1 => (ht_add (ht_exs hK hB hm hA hb j) (ht_mul (getD_ht hB hb j) (getD_ht hK hA (m - j)) hB)).mono (by rw [Nat.add_mul j 1]; omega)
theorem ht_exc {c : List Rat} {x : Rat} {X B m : Nat} (hB : 1 ≤ B) (hc : ∀ q, q ∈ c → Ht q B) (hx : Ht x X) : ∀ j, j ≤ 100000 → Ht (exc c m x j) (X + j * (B + 2))
  | 0, _ => hx.mono (by omega)
  | j + 1, hj => by
    have ih := ht_exc (m := m) hB hc hx j (by omega)
    show Ht (if _ then _ else _) _
    split
    · exact (ht_sub' ih (ht_mul (ht_n j (by omega)) (getD_ht hB hc j) (Nat.le_refl 1))).mono (by rw [Nat.add_mul j 1]; omega)
    · exact ih.mono (by rw [Nat.add_mul j 1]; omega)
/-- bounds of the heights by themselves -/
def EB (i : Nat) : Nat := 100 * 4 ^ i
theorem EB_succ (i : Nat) : EB (i + 1) = 4 * EB i := by unfold EB; rw [Nat.pow_succ]; omega
theorem EB_ge (i : Nat) : 100 * (i + 1) ≤ EB i := by
  induction i with
  | zero => exact Nat.le_refl _
  | succ i ih => rw [EB_succ]; omega
theorem EB_mono {i k : Nat} (h : i ≤ k) : EB i ≤ EB k := by
  induction h with
  | refl => exact Nat.le_refl _
  | step h ih => rw [EB_succ]; omega
theorem ht_ex {A : List Rat} (hA : ∀ q, q ∈ A → Ht q 4) : ∀ m, m ≤ 1000 → ∀ i, i < m → Ht ((exb A m).getD i 0) (EB i) ∧ Ht ((exq A m).getD i 0) (EB i)
  | 0, _, i, h => by omega
  | m + 1, hm, i, h => by
    have ih := ht_ex hA m (by omega)
    have lb := exb_len A m
    have lq := exq_len A m
    rw [exb, exq, getD_snoc, getD_snoc, lb, lq]
    by_cases hi : i < m
    · rw [if_pos hi, if_pos hi]; exact ih i hi
    · obtain rfl : i = m := by omega
      rw [if_neg hi, if_neg hi, if_pos rfl, if_pos rfl]
      have h1 : ∀ j, j ≤ i → ∃ S, 3 * S + 100 ≤ EB j + 15 * (j + 1) + 60 ∧ Ht (exs A (exb A i) i j) (S + 5) := by
        intro j
        induction j with
        | zero => intro _; exact ⟨0, by have := EB_ge 0; omega, (ht_mul (ht_n i (by omega)) (getD_ht (by decide) hA (i + 1)) (Nat.le_refl 1)).mono (by omega)⟩
        | succ j ihj =>
          intro hj
          obtain ⟨S, hS, hh⟩ := ihj (by omega)
          have e := (ih j (by omega)).1
          have := EB_ge j
          refine ⟨S + EB j + 5, by rw [EB_succ]; omega, (ht_add hh (ht_mul e (getD_ht (K := 4) (by decide) hA (i - j)) (by omega))).mono (by omega)⟩
      obtain ⟨S, hS, hh⟩ := h1 i (Nat.le_refl i)
      have hge := EB_ge i
      have hx : Ht (-(exs A (exb A i) i i)) (S + 5) := ht_neg hh
      refine ⟨hx.mono (by omega), ?_⟩
      have h2 : ∀ j, j ≤ i → ∃ U, 3 * U + 100 ≤ EB j + 6 * j ∧ Ht (exc (exq A i) i (-(exs A (exb A i) i i)) j) (S + 5 + U) := by
        intro j
        induction j with
        | zero => intro _; exact ⟨0, EB_ge 0, hx⟩
        | succ j ihj =>
          intro hj
          obtain ⟨U, hU, hh⟩ := ihj (by omega)
          have e := (ih j (by omega)).2
          have := EB_ge j
          refine ⟨U + EB j + 2, by rw [EB_succ]; omega, ?_⟩
          show Ht (if _ then _ else _) _
          split
          · exact (ht_sub' hh (ht_mul (ht_n j (by omega)) e (Nat.le_refl 1))).mono (by omega)
          · exact hh.mono (by omega)
      obtain ⟨U, hU, hh2⟩ := h2 i (Nat.le_refl i)
      exact (ht_dv hh2 (ht_n i (by omega)) (by omega) (Nat.le_refl 1)).mono (by omega)
theorem exb_mem {A : List Rat} (hA : ∀ q, q ∈ A → Ht q 4) {m : Nat} (hm : m ≤ 13) : (∀ q, q ∈ exb A m → Ht q 1677721600) ∧ (∀ q, q ∈ exq A m → Ht q 1677721600) := by
  have key := ht_ex hA m (by omega)
  have hE : ∀ i, i < m → EB i ≤ 1677721600 := fun i hi => Nat.le_trans (EB_mono (show i ≤ 12 by omega)) (Nat.le_of_ble_eq_true rfl)
  constructor
  · intro q hq
    obtain ⟨i, hi⟩ := List.getElem?_of_mem hq
    have hil : i < m := by rw [← exb_len A m]; exact (List.getElem?_eq_some_iff.1 hi).1
    have := (key i hil).1
    rw [List.getD_eq_getElem?_getD, hi] at this
    exact this.mono (hE i hil)
  · intro q hq
    obtain ⟨i, hi⟩ := List.getElem?_of_mem hq
    have hil : i < m := by rw [← exq_len A m]; exact (List.getElem?_eq_some_iff.1 hi).1
    have := (key i hil).2
    rw [List.getD_eq_getElem?_getD, hi] at this
    exact this.mono (hE i hil)
end Ab
namespace Ab
open Go Go.RowKit Go.Proofs Hp
set_option maxRecDepth 100000

theorem rem_b (m j : Nat) : (((m : Int) + 1).tmod ((j : Int) + 1) == 0) = decide ((m + 1) % (j + 1) = 0) := by
  have e : ((m : Int) + 1).tmod ((j : Int) + 1) = (((m + 1) % (j + 1) : Nat) : Int) := rfl
  rw [e]
  by_cases h : (m + 1) % (j + 1) = 0
  · rw [h]; rfl
  · rw [decide_eq_false h]; simp only [beq_eq_false_iff_ne, ne_eq]; omega
set_option maxHeartbeats 4000000 in
theorem expo_p {s : Int} {es : List AV} {l : List Rat} {K B : Nat} (h : ValidP s es.length = true → IsL es K l ∧ l.length ≤ 14) (hle : es.length = l.length) (hr : InR s es.length) (hK : 1 ≤ K ∧ K ≤ 100) (hB : 1 ≤ B ∧ B ≤ 10000000000)
    (hbq : ValidP s es.length = true → ∀ m, m + 1 ≤ (l.drop (lead l)).length → (∀ q, q ∈ exb (l.drop (lead l)) m → Ht q B) ∧ (∀ q, q ∈ exq (l.drop (lead l)) m → Ht q B)) : PC Tryz.prog 33 [serA s es] (expoA (expoT s l)) := by
  obtain ⟨i1, i2, i3⟩ := hr
  have hva := valid_p i1 i2 i3
  unfold expoT
  rw [← hle]
  cases h1 : ValidP s es.length with
  | false =>
    rw [h1] at hva
    unfold expoA
    refine pc_body3 true Tryz.func33 rfl rfl rfl (Nat.le_of_ble_eq_true rfl) CellT.tmp CellT.tmp CellT.tmp ?_
    refine goA ?_
    refine evG ggA (ss_call (InB_of rfl) rfl rfl hva) ?_
    refine runA ?_
    refine ev_nil ?_
    refine seqQ_n ?_
    refine T.condT rfl rfl ?_
    refine T.seq ?_
    refine regA ?_
    refine runA ?_
    refine ev_nil ?_
    refine seqQ_n ?_
    refine T.weak (s' := mkS [(2, .v (.p (.int .i64 0))), (3, .v (.sl [])), (4, .v (.p (.int .i64 2)))] [] 104 true) (by exact entA) ?_
    refine goA ?_
    exact rfl
  | true =>
  rw [h1] at hva
  obtain ⟨hL, hl14⟩ := h h1
  have hbq := hbq h1
  obtain ⟨a0, a1, a2⟩ := valid_iff.1 h1
  simp only [if_true]
  have hta := tidy_p hL (by omega) a0 a1 a2
  have hla := lead_le l
  have hhl : ∀ q, q ∈ l.drop (lead l) → Ht q K := fun q hq => isL_ht hL hK.1 q (List.mem_of_mem_drop hq)
  have hld : (l.drop (lead l)).length + lead l = l.length := by rw [List.length_drop]; omega
  generalize l.drop (lead l) = A at *
  generalize hsa : s + (lead l : Int) = sa at *
  by_cases hA : A = []
  · subst hA
    simp only [if_true]
    unfold expoA
    refine pc_body3 true Tryz.func33 rfl rfl rfl (Nat.le_of_ble_eq_true rfl) CellT.tmp CellT.tmp CellT.tmp ?_
    refine goA ?_
    refine evG ggA (ss_call (InB_of rfl) rfl rfl hva) ?_
    refine goA ?_
    refine evG ggA (ss_call (InB_of rfl) rfl rfl hta) ?_
    refine runA ?_
    refine ev_nil ?_
    refine seqQ_n ?_
    refine T.seq ?_
    refine T.seq ?_
    refine regA ?_
    refine runA ?_
    refine ev_nil ?_
    refine seqQ_n ?_
    refine T.condT rfl rfl ?_
    refine T.seq ?_
    refine regA ?_
    refine runA ?_
    refine ev_nil ?_
    refine seqQ_n ?_
    refine T.weak (s' := mkS [(2, .v (.p (.int .i64 0))), (3, .v (.sl [])), (4, .v (.p (.int .i64 18)))] [] 104 true) (by exact entA) ?_
    refine goA ?_
    exact rfl
  rw [if_neg hA]
  have hA0 : 0 < A.length := List.length_pos_iff.2 hA
  have hbne : (((A.map encQ).length : Int) == 0) = false := by simp; exact hA
  obtain ⟨q0, hq0⟩ : ∃ q, A[0]? = some q := ⟨_, List.getElem?_eq_getElem hA0⟩
  have g0 : A.getD 0 0 = q0 := by rw [List.getD_eq_getElem?_getD, hq0]; rfl
  have t0 := hhl q0 (List.mem_of_getElem? hq0)
  have c1 := rof_p 1 (by decide) (by decide)
  have t1 : Ht (1 : Rat) 1 := ht_int (c := 1) (by decide)
  rw [show ((1 : Int) : Rat) = 1 from rfl] at c1
  obtain ⟨sg, -, -, hsg, ccmp⟩ := rcmp_p (isV_encQ t0) (by omega) (isV_encQ t1) (by omega)
  have hof := rof_p 0 (by decide) (by decide)
  rw [show ((0 : Int) : Rat) = 0 from rfl] at hof
  have n0 := enc_at hq0
  rw [g0]
  by_cases hq1 : q0 = 1
  case neg =>
    rw [if_neg hq1]
    have hb1 : (!(sg == 0)) = true := by
      have : ¬ sg = 0 := fun e => hq1 (hsg.1 e)
      simp [this]
    unfold expoA
    refine pc_body3 true Tryz.func33 rfl rfl rfl (Nat.le_of_ble_eq_true rfl) CellT.tmp CellT.tmp CellT.tmp ?_
    refine goA ?_
    refine evG ggA (ss_call (InB_of rfl) rfl rfl hva) ?_
    refine goA ?_
    refine evG ggA (ss_call (InB_of rfl) rfl rfl hta) ?_
    refine goA ?_
    refine evG ggA (ss_index_sl (InB_of rfl) (elem_tab rfl) rfl rfl (by decide) n0 rfl) ?_
    refine goA ?_
    refine evG ggA (ss_call (InB_of rfl) rfl rfl c1) ?_
    refine evG ggA (ss_call (InB_of rfl) rfl rfl ccmp) ?_
    refine runA ?_
    refine ev_nil ?_
    refine seqQ_n ?_
    refine T.condT rfl hb1 ?_
    refine T.seq ?_
    refine regA ?_
    refine runA ?_
    refine ev_nil ?_
    refine seqQ_n ?_
    refine T.weak (s' := mkS [(2, .v (.p (.int .i64 0))), (3, .v (.sl [])), (4, .v (.p (.int .i64 3)))] [] 104 true) (by exact entA) ?_
    refine goA ?_
    exact rfl
  rw [if_pos hq1]
  have hb1 : (!(sg == 0)) = false := by rw [hsg.2 hq1]; rfl
  obtain ⟨N, hN⟩ : ∃ N, N = A.length - 1 := ⟨_, rfl⟩
  rw [← hN]
  unfold expoA
  refine pc_body3 true Tryz.func33 rfl rfl rfl (Nat.le_of_ble_eq_true rfl) CellT.tmp CellT.tmp CellT.tmp ?_
  refine goA ?_
  refine evG ggA (ss_call (InB_of rfl) rfl rfl hva) ?_
  refine goA ?_
  refine evG ggA (ss_call (InB_of rfl) rfl rfl hta) ?_
  refine goA ?_
  refine evG ggA (ss_index_sl (InB_of rfl) (elem_tab rfl) rfl rfl (by decide) n0 rfl) ?_
  refine goA ?_
  refine evG ggA (ss_call (InB_of rfl) rfl rfl c1) ?_
  refine evG ggA (ss_call (InB_of rfl) rfl rfl ccmp) ?_
  refine goA ?_
  refine evG ggA (ss_call (InB_of rfl) rfl rfl hof) ?_
  refine runA ?_
  refine evG ggA (ss_bslice_own 31 (InB_of rfl) rfl (make_tab rfl) rfl rfl rfl rfl (one_ok rfl rfl) (Nat.le_of_ble_eq_true rfl) (by decide) (fun _ a ha => by rw [List.mem_singleton] at ha; subst ha; exact encQ_nu 0)) ?_
  refine runA ?_
  refine ev_nil ?_
  refine seqQ_n ?_
  refine T.seq ?_
  refine regA ?_
  refine runA ?_
  refine ev_nil ?_
  refine seqQ_n ?_
  refine T.seqI (fun s1 => s1 = mkS [(1, .ptr 1 0), (6, .own 100 N)] [(1, svar sa A), (100, .lst 4 47 ((exq A N).map encQ))] 104 true) ?_ ?_
  · refine r1A ?_
    refine T.block ?_
    refine T.loop (fun n s1 => ∃ m : Nat, n = N - m ∧ m ≤ N ∧ s1 = mkS [(1, .ptr 1 0), (5, .own 31 (m + 1)), (6, .own 100 m), (7, .v (.p (.int .i64 ((m : Int) + 1))))] [(1, svar sa A), (31, .lst 4 47 ((0 :: exb A m).map encQ)), (100, .lst 4 47 ((exq A m).map encQ))] 104 true) N
      (s' := mkS [(1, .ptr 1 0), (5, .own 31 1), (6, .own 100 0), (7, .v (.p (.int .i64 1)))] [(1, svar sa A), (31, .lst 4 47 (([0] : List Rat).map encQ)), (100, .lst 4 47 [])] 104 true) (by exact entA) ⟨0, rfl, Nat.zero_le _, rfl⟩ ?_
    rintro n _ ⟨m, rfl, hm, rfl⟩
    by_cases hlt : m < N
    · have hb : decide ((m : Int) + 1 < ((A.map encQ).length : Int)) = true := by simp; omega
      obtain ⟨hbm, hqm⟩ := hbq m (by omega)
      obtain ⟨hbm2, -⟩ := hbq (m + 1) (by omega)
      have hlb : (exb A m).length = m := exb_len A m
      have hlq : (exq A m).length = m := exq_len A m
      have hb2e : exb A (m + 1) = exb A m ++ [-(exs A (exb A m) m m)] := rfl
      have hq2e : exq A (m + 1) = exq A m ++ [exc (exq A m) m (-(exs A (exb A m) m m)) m / (((m : Int) + 1 : Int) : Rat)] := rfl
      rw [hb2e] at hbm2
      obtain ⟨qn, hqn⟩ : ∃ q, A[m + 1]? = some q := ⟨_, List.getElem?_eq_getElem (by omega)⟩
      have gn : A.getD (m + 1) 0 = qn := by rw [List.getD_eq_getElem?_getD, hqn]; rfl
      have tn := hhl qn (List.mem_of_getElem? hqn)
      have cn := rof_p ((m : Int) + 1) (by omega) (by omega)
      have htn := ht_n m (by omega)
      have cm := rmul_p (isV_encQ htn) (by omega) (isV_encQ tn) (by omega)
      have he0 : exs A (exb A m) m 0 = (((m : Int) + 1 : Int) : Rat) * qn := by rw [← gn]; rfl
      rw [← he0] at cm
      have nn : (A.map encQ)[((m : Int) + 1).toNat]? = some (encQ qn) := by rw [show ((m : Int) + 1).toNat = m + 1 by omega]; exact enc_at hqn
      have hes := ht_exs hK.1 hB.1 (m := m) (by omega) hhl hbm
      have hesb : ∀ j, j ≤ m → Ht (exs A (exb A m) m j) 200000000000 := fun j hj => (hes j).mono (by
        have : j * (B + K + 1) ≤ 14 * (B + K + 1) := Nat.mul_le_mul_right _ (by omega)
        omega)
      have hxb : Ht (-(exs A (exb A m) m m)) B := hbm2 _ (by simp)
      have hec := ht_exc (m := m) hB.1 hqm hxb
      have hecb : ∀ j, j ≤ m → Ht (exc (exq A m) m (-(exs A (exb A m) m m)) j) 200000000000 := fun j hj => (hec j (by omega)).mono (by
        have : j * (B + 2) ≤ 14 * (B + 2) := Nat.mul_le_mul_right _ (by omega)
        omega)
      have hse : ∀ j, exs A (exb A m) m (j + 1) = exs A (exb A m) m j + (exb A m).getD j 0 * A.getD (m - j) 0 := fun j => rfl
      have hce : ∀ x j, exc (exq A m) m x (j + 1) = if (m + 1) % (j + 1) = 0 then exc (exq A m) m x j - (((j : Int) + 1 : Int) : Rat) * (exq A m).getD j 0 else exc (exq A m) m x j := fun x j => rfl
      have hc0 : ∀ x, exc (exq A m) m x 0 = x := fun x => rfl
      clear hes hec hbm2
      generalize exs A (exb A m) m = S at *
      generalize hXb : exb A m = X at *
      generalize hXq : exq A m = Y at *
      generalize hxd : -(S m) = x at *
      generalize hEE : exc Y m x = E at *
      have hce := hce x
      have hc0 := hc0 x
      rw [hEE] at hce hc0
      refine T.seqI (fun s1 => s1 = mkS [(1, .ptr 1 0), (5, .own 31 (m + 1)), (6, .own 100 m), (7, .v (.p (.int .i64 ((m : Int) + 1))))] [(1, svar sa A), (31, .lst 4 47 ((0 :: X).map encQ)), (100, .lst 4 47 (Y.map encQ))] 104 true) ?_ ?_
      · refine goA ?_
        exact midQ_intro (by exact entA) rfl
      rintro _ rfl
      refine T.seq ?_
      refine T.block ?_
      refine T.seqI (fun s1 => s1 = mkS [(1, .ptr 1 0), (5, .own 31 (m + 1)), (6, .own 100 m), (7, .v (.p (.int .i64 ((m : Int) + 1)))), (8, .ptr 8 0)] [(1, svar sa A), (8, qvar (S 0)), (31, .lst 4 47 ((0 :: X).map encQ)), (100, .lst 4 47 (Y.map encQ))] 104 true) ?_ ?_
      · refine goA ?_
        refine evG ggA (ss_call (InB_of rfl) rfl rfl cn) ?_
        refine goA ?_
        refine evG ggA (ss_index_sl (InB_of rfl) (elem_tab rfl) rfl rfl (by omega) nn rfl) ?_
        refine goA ?_
        refine evG ggA (ss_call (InB_of rfl) rfl rfl cm) ?_
        refine goA ?_
        exact midQ_intro (by exact entA) rfl
      rintro _ rfl
      refine T.seqI (fun s1 => s1 = mkS [(1, .ptr 1 0), (5, .own 31 (m + 1)), (6, .own 100 m), (7, .v (.p (.int .i64 ((m : Int) + 1)))), (8, .ptr 8 0)] [(1, svar sa A), (8, qvar (S m)), (31, .lst 4 47 ((0 :: X).map encQ)), (100, .lst 4 47 (Y.map encQ))] 104 true) ?_ ?_
      · refine r1A ?_
        refine T.block ?_
        refine T.loop (fun n s1 => ∃ j : Nat, n = m - j ∧ j ≤ m ∧ s1 = mkS [(1, .ptr 1 0), (5, .own 31 (m + 1)), (6, .own 100 m), (7, .v (.p (.int .i64 ((m : Int) + 1)))), (8, .ptr 8 0), (9, .v (.p (.int .i64 ((j : Int) + 1))))] [(1, svar sa A), (8, qvar (S j)), (31, .lst 4 47 ((0 :: X).map encQ)), (100, .lst 4 47 (Y.map encQ))] 104 true) m
          (s' := mkS [(1, .ptr 1 0), (5, .own 31 (m + 1)), (6, .own 100 m), (7, .v (.p (.int .i64 ((m : Int) + 1)))), (8, .ptr 8 0), (9, .v (.p (.int .i64 1)))] [(1, svar sa A), (8, qvar (S 0)), (31, .lst 4 47 ((0 :: X).map encQ)), (100, .lst 4 47 (Y.map encQ))] 104 true) (by exact entA) ⟨0, rfl, Nat.zero_le _, rfl⟩ ?_
        rintro n _ ⟨j, rfl, hj, rfl⟩
        by_cases hjm : j < m
        · have hb2 : decide ((j : Int) + 1 < (m : Int) + 1) = true := by simp; omega
          obtain ⟨q1, hq1⟩ : ∃ q, X[j]? = some q := ⟨_, List.getElem?_eq_getElem (by omega)⟩
          obtain ⟨q2, hq2⟩ : ∃ q, A[m - j]? = some q := ⟨_, List.getElem?_eq_getElem (by omega)⟩
          have g1 : X.getD j 0 = q1 := by rw [List.getD_eq_getElem?_getD, hq1]; rfl
          have g2 : A.getD (m - j) 0 = q2 := by rw [List.getD_eq_getElem?_getD, hq2]; rfl
          have t1 := hbm q1 (List.mem_of_getElem? hq1)
          have t2 := hhl q2 (List.mem_of_getElem? hq2)
          have n1 : ((0 :: X).map encQ)[((j : Int) + 1).toNat]? = some (encQ q1) := by rw [show ((j : Int) + 1).toNat = j + 1 by omega]; exact enc_at (l := 0 :: X) hq1
          have n2 : (A.map encQ)[((m : Int) + 1 - ((j : Int) + 1)).toNat]? = some (encQ q2) := by rw [show ((m : Int) + 1 - ((j : Int) + 1)).toNat = m - j by omega]; exact enc_at hq2
          have hx0 : ((0 :: X).map encQ).length = m + 1 := by rw [List.length_map, List.length_cons, hlb]
          have c3 := rmul_p (isV_encQ t1) (by omega) (isV_encQ t2) (by omega)
          have c4 := radd_p (isV_encQ (hesb j hj)) (by omega) (isV_encQ (ht_mul t1 t2 hB.1)) (by omega)
          rw [← g1, ← g2, ← hse j, g1, g2] at c4
          clear hesb hecb hse hce hbq hbm hqm hhl
          refine goA ?_
          refine evG ggA (ss_index_own (InB_of rfl) (elem_tab rfl) rfl rfl hx0 rfl (by omega) (by omega)) ?_
          refine evG ggA (ss_load_opagg (InB_of rfl) (agg_tab rfl) rfl rfl hx0 n1) ?_
          refine goA ?_
          refine evG ggA (ss_index_sl (InB_of rfl) (elem_tab rfl) rfl rfl (by omega) n2 rfl) ?_
          refine goA ?_
          refine evG ggA (ss_call (InB_of rfl) rfl rfl c3) ?_
          refine evG ggA (ss_call (InB_of rfl) rfl rfl c4) ?_
          refine goA ?_
          exact loopQ_intro (k := m - (j + 1)) (s' := mkS [(1, .ptr 1 0), (5, .own 31 (m + 1)), (6, .own 100 m), (7, .v (.p (.int .i64 ((m : Int) + 1)))), (8, .ptr 8 0), (9, .v (.p (.int .i64 ((j : Int) + 1 + 1))))] [(1, svar sa A), (8, qvar (S (j + 1))), (31, .lst 4 47 ((0 :: X).map encQ)), (100, .lst 4 47 (Y.map encQ))] 104 true) (by omega) (by exact entA) ⟨j + 1, rfl, by omega, rfl⟩
        · obtain rfl : j = m := by omega
          have hb2 : decide ((j : Int) + 1 < (j : Int) + 1) = false := by simp
          clear hesb hecb hse hce hbq hbm hqm hhl
          refine goA ?_
          exact midQ_intro (by exact entA) rfl
      rintro _ rfl
      have c5 := rneg_p (isV_encQ (hesb m (Nat.le_refl m))) (by omega)
      rw [hxd] at c5
      refine T.seqI (fun s1 => s1 = mkS [(1, .ptr 1 0), (5, .own 31 (m + 1)), (6, .own 100 m), (7, .v (.p (.int .i64 ((m : Int) + 1)))), (8, .ptr 8 0)] [(1, svar sa A), (8, qvar (E 0)), (31, .lst 4 47 ((0 :: X).map encQ)), (100, .lst 4 47 (Y.map encQ))] 104 true) ?_ ?_
      · refine goA ?_
        refine evG ggA (ss_call (InB_of rfl) rfl rfl c5) ?_
        refine goA ?_
        exact midQ_intro (s' := mkS [(1, .ptr 1 0), (5, .own 31 (m + 1)), (6, .own 100 m), (7, .v (.p (.int .i64 ((m : Int) + 1)))), (8, .ptr 8 0)] [(1, svar sa A), (8, qvar x), (31, .lst 4 47 ((0 :: X).map encQ)), (100, .lst 4 47 (Y.map encQ))] 104 true) (by exact entA) (by rw [hc0])
      rintro _ rfl
      have hx1 : ((0 :: X).map encQ).length = m + 1 := by rw [List.length_map, List.length_cons, hlb]
      refine T.seqI (fun s1 => s1 = mkS [(1, .ptr 1 0), (5, .own 31 (m + 1 + 1)), (6, .own 100 m), (7, .v (.p (.int .i64 ((m : Int) + 1)))), (8, .ptr 8 0)] [(1, svar sa A), (8, qvar (E 0)), (31, .lst 4 47 ((0 :: (X ++ [x])).map encQ)), (100, .lst 4 47 (Y.map encQ))] 104 true) ?_ ?_
      · rw [hc0]
        refine goA ?_
        (refine evG ggA (ss_bslice (InB_of rfl) (make_tab rfl) rfl rfl rfl rfl (one_ok rfl rfl) (Nat.le_of_ble_eq_true rfl)) ?_; refine evG ggA (ss_snoc (InB_of rfl) (make_tab rfl) rfl rfl (by first | rfl | assumption | (simp; done) | (simp; omega)) rfl (by omega) (Nat.le_of_ble_eq_true rfl) rfl) ?_)
        refine goA ?_
        exact midQ_intro (s' := mkS [(1, .ptr 1 0), (5, .own 31 (m + 1 + 1)), (6, .own 100 m), (7, .v (.p (.int .i64 ((m : Int) + 1)))), (8, .ptr 8 0)] [(1, svar sa A), (8, qvar x), (31, .lst 4 47 ((0 :: X ++ [x]).map encQ)), (100, .lst 4 47 (Y.map encQ))] 104 true) (by exact entA) rfl
      rintro _ rfl
      refine T.seqI (fun s1 => s1 = mkS [(1, .ptr 1 0), (5, .own 31 (m + 1 + 1)), (6, .own 100 m), (7, .v (.p (.int .i64 ((m : Int) + 1)))), (8, .ptr 8 0)] [(1, svar sa A), (8, qvar (E m)), (31, .lst 4 47 ((0 :: (X ++ [x])).map encQ)), (100, .lst 4 47 (Y.map encQ))] 104 true) ?_ ?_
      · refine r1A ?_
        refine T.block ?_
        refine T.loop (fun n s1 => ∃ j : Nat, n = m - j ∧ j ≤ m ∧ s1 = mkS [(1, .ptr 1 0), (5, .own 31 (m + 1 + 1)), (6, .own 100 m), (7, .v (.p (.int .i64 ((m : Int) + 1)))), (8, .ptr 8 0), (10, .v (.p (.int .i64 ((j : Int) + 1))))] [(1, svar sa A), (8, qvar (E j)), (31, .lst 4 47 ((0 :: (X ++ [x])).map encQ)), (100, .lst 4 47 (Y.map encQ))] 104 true) m
          (s' := mkS [(1, .ptr 1 0), (5, .own 31 (m + 1 + 1)), (6, .own 100 m), (7, .v (.p (.int .i64 ((m : Int) + 1)))), (8, .ptr 8 0), (10, .v (.p (.int .i64 1)))] [(1, svar sa A), (8, qvar (E 0)), (31, .lst 4 47 ((0 :: (X ++ [x])).map encQ)), (100, .lst 4 47 (Y.map encQ))] 104 true) (by exact entA) ⟨0, rfl, Nat.zero_le _, rfl⟩ ?_
        rintro n _ ⟨j, rfl, hj, rfl⟩
        by_cases hjm : j < m
        · have hb2 : decide ((j : Int) + 1 < (m : Int) + 1) = true := by simp; omega
          have hrb := rem_b m j
          have hcej := hce j
          by_cases hd : (m + 1) % (j + 1) = 0
          · rw [decide_eq_true hd] at hrb
            rw [if_pos hd] at hcej
            obtain ⟨q1, hq1⟩ : ∃ q, Y[j]? = some q := ⟨_, List.getElem?_eq_getElem (by omega)⟩
            have g1 : Y.getD j 0 = q1 := by rw [List.getD_eq_getElem?_getD, hq1]; rfl
            have t1 := hqm q1 (List.mem_of_getElem? hq1)
            have n1 : (Y.map encQ)[((j : Int) + 1 - 1).toNat]? = some (encQ q1) := by rw [show ((j : Int) + 1 - 1).toNat = j by omega]; exact enc_at hq1
            have hy0 : (Y.map encQ).length = m := by rw [List.length_map, hlq]
            have cj := rof_p ((j : Int) + 1) (by omega) (by omega)
            have htj := ht_n j (by omega)
            have c3 := rmul_p (isV_encQ htj) (by omega) (isV_encQ t1) (by omega)
            have c4 := rsub_p (isV_encQ (hecb j hj)) (by omega) (isV_encQ (ht_mul htj t1 (Nat.le_refl 1))) (by omega)
            rw [← g1, ← hcej, g1] at c4
            clear hesb hecb hse hce hbq hbm hqm hhl
            refine goA ?_
            refine evG ggA (ss_div (InB_of rfl) rfl rfl (by omega) rfl) ?_
            refine goA ?_
            refine evG ggA (ss_call (InB_of rfl) rfl rfl cj) ?_
            refine goA ?_
            refine evG ggA (ss_index_own (InB_of rfl) (elem_tab rfl) rfl rfl hy0 rfl (by omega) (by omega)) ?_
            refine evG ggA (ss_load_opagg (InB_of rfl) (agg_tab rfl) rfl rfl hy0 n1) ?_
            refine goA ?_
            refine evG ggA (ss_call (InB_of rfl) rfl rfl c3) ?_
            refine evG ggA (ss_call (InB_of rfl) rfl rfl c4) ?_
            refine goA ?_
            exact loopQ_intro (k := m - (j + 1)) (s' := mkS [(1, .ptr 1 0), (5, .own 31 (m + 1 + 1)), (6, .own 100 m), (7, .v (.p (.int .i64 ((m : Int) + 1)))), (8, .ptr 8 0), (10, .v (.p (.int .i64 ((j : Int) + 1 + 1))))] [(1, svar sa A), (8, qvar (E (j + 1))), (31, .lst 4 47 ((0 :: (X ++ [x])).map encQ)), (100, .lst 4 47 (Y.map encQ))] 104 true) (by omega) (by exact entA) ⟨j + 1, rfl, by omega, rfl⟩
          · rw [decide_eq_false hd] at hrb
            rw [if_neg hd] at hcej
            clear hesb hecb hse hce hbq hbm hqm hhl
            refine goA ?_
            refine evG ggA (ss_div (InB_of rfl) rfl rfl (by omega) rfl) ?_
            refine goA ?_
            exact loopQ_intro (k := m - (j + 1)) (s' := mkS [(1, .ptr 1 0), (5, .own 31 (m + 1 + 1)), (6, .own 100 m), (7, .v (.p (.int .i64 ((m : Int) + 1)))), (8, .ptr 8 0), (10, .v (.p (.int .i64 ((j : Int) + 1 + 1))))] [(1, svar sa A), (8, qvar (E j)), (31, .lst 4 47 ((0 :: (X ++ [x])).map encQ)), (100, .lst 4 47 (Y.map encQ))] 104 true) (by omega) (by exact entA) ⟨j + 1, rfl, by omega, by rw [hcej]; rfl⟩
        · obtain rfl : j = m := by omega
          have hb2 : decide ((j : Int) + 1 < (j : Int) + 1) = false := by simp
          clear hesb hecb hse hce hbq hbm hqm hhl
          refine goA ?_
          exact midQ_intro (by exact entA) rfl
      rintro _ rfl
      have c6 := rquo_p (isV_encQ (hecb m (Nat.le_refl m))) (by omega) (isV_encQ htn) (by omega) (by
        intro e
        have := Rat.intCast_eq_zero_iff.1 e
        omega)
      have hy0 : (Y.map encQ).length = m := by rw [List.length_map, hlq]
      clear hesb hecb hse hce hbq hbm hqm hhl
      refine goA ?_
      refine evG ggA (ss_call (InB_of rfl) rfl rfl cn) ?_
      refine goA ?_
      refine evG ggA (ss_call (InB_of rfl) rfl rfl c6) ?_
      refine goA ?_
      (refine evG ggA (ss_bslice (InB_of rfl) (make_tab rfl) rfl rfl rfl rfl (one_ok rfl rfl) (Nat.le_of_ble_eq_true rfl)) ?_; refine evG ggA (ss_snoc (InB_of rfl) (make_tab rfl) rfl rfl (by first | rfl | assumption | (simp; done) | (simp; omega)) rfl (by omega) (Nat.le_of_ble_eq_true rfl) rfl) ?_)
      refine goA ?_
      exact loopQ_intro (k := N - (m + 1)) (s' := mkS [(1, .ptr 1 0), (5, .own 31 (m + 1 + 1)), (6, .own 100 (m + 1)), (7, .v (.p (.int .i64 ((m : Int) + 1 + 1))))] [(1, svar sa A), (31, .lst 4 47 ((0 :: (X ++ [x])).map encQ)), (100, .lst 4 47 ((Y ++ [E m / (((m : Int) + 1 : Int) : Rat)]).map encQ))] 104 true) (by omega) (by exact entA) ⟨m + 1, rfl, hlt, by rw [hb2e, hq2e]; rfl⟩
    · obtain rfl : m = N := by omega
      have hb : decide ((m : Int) + 1 < ((A.map encQ).length : Int)) = false := by simp; omega
      refine goA ?_
      exact midQ_intro (s' := mkS [(1, .ptr 1 0), (6, .own 100 m)] [(1, svar sa A), (100, .lst 4 47 ((exq A m).map encQ))] 104 true) (by exact entA) rfl
  rintro _ rfl
  have hx0 : ((exq A N).map encQ).length = N := by rw [List.length_map, exq_len]
  refine T.weak (s' := mkS [(1, .ptr 1 0), (6, .v (.sl ((exq A N).map encQ)))] [(1, svar sa A)] 104 true) (by exact entA) ?_
  refine goA ?_
  exact rfl
end Ab
namespace Ab
open Go Go.RowKit Go.Proofs Hp
set_option maxRecDepth 100000

theorem frac_parts (c : Int) (hc : c = 1 ∨ c = -1) (m : Nat) : ((c : Rat) / (((m : Int) + 1 : Int) : Rat)).num = c ∧ ((((c : Rat) / (((m : Int) + 1 : Int) : Rat)).den : Nat) : Int) = (m : Int) + 1 := by
  have h1 : gsg c ((m : Int) + 1) = 1 := by
    unfold gsg
    rw [if_neg (by omega)]
    rcases hc with rfl | rfl
    · rw [Int.one_gcd]; rfl
    · rw [Int.neg_gcd, Int.one_gcd]; rfl
  obtain ⟨g1, g2⟩ := gsg_parts (n := c) (d := (m : Int) + 1) (by omega)
  rw [h1, Int.ediv_one] at g1 g2
  rw [← Rat.divInt_eq_div]
  exact ⟨g1, g2⟩
set_option maxHeartbeats 1000000 in
theorem frac_p (c : Int) (hc : c = 1 ∨ c = -1) (m : Nat) (hm : m ≤ 100000) : PC Tryz.prog 76 [.p (.int .i64 c), .p (.int .i64 ((m : Int) + 1))] (encQ ((c : Rat) / (((m : Int) + 1 : Int) : Rat))) := by
  have z1 := z_p c (by omega) (by omega)
  have z2 := z_p ((m : Int) + 1) (by omega) (by omega)
  obtain ⟨p1, p2⟩ := frac_parts c hc m
  have hq : encQ ((c : Rat) / (((m : Int) + 1 : Int) : Rat)) = .agg (ci c ++ ci ((m : Int) + 1)) := by unfold encQ; rw [p1, p2]
  rw [hq]
  unfold encI at z1 z2
  have hb : decide ((m : Int) + 1 < 0) = false := by simp; omega
  have hmx : max c (0 - c) = 1 := by rcases hc with rfl | rfl <;> rfl
  have w1 : IntKind.i64.wrap (c.tdiv 1) = c := by rw [Int.tdiv_one]; exact w64 (by omega) (by omega)
  have w2 : IntKind.i64.wrap (((m : Int) + 1).tdiv 1) = (m : Int) + 1 := by rw [Int.tdiv_one]; exact w64 (by omega) (by omega)
  refine pc_body1 true Tryz.func76 rfl rfl rfl (Nat.le_of_ble_eq_true rfl) (CellT.agg agg_rat) ?_
  refine r1A ?_
  refine T.seqI (fun s1 => s1 = mkS [(0, .v (.p (.int .i64 c))), (1, .v (.p (.int .i64 ((m : Int) + 1)))), (4, .ptr 4 0)] [(4, varQ)] 33 true) ?_ ?_
  · refine goA ?_
    exact midQ_intro (by exact entA) rfl
  rintro _ rfl
  refine T.seqI (fun s1 => s1 = mkS [(0, .v (.p (.int .i64 c))), (1, .v (.p (.int .i64 ((m : Int) + 1)))), (4, .ptr 4 0), (5, .v (.p (.int .i64 1))), (6, .v (.p (.int .i64 ((m : Int) + 1))))] [(4, varQ)] 33 true) ?_ ?_
  · refine goA ?_
    exact midQ_intro (s' := mkS [(0, .v (.p (.int .i64 c))), (1, .v (.p (.int .i64 ((m : Int) + 1)))), (4, .ptr 4 0), (5, .v (.p (.int .i64 (max c (0 - c))))), (6, .v (.p (.int .i64 ((m : Int) + 1))))] [(4, varQ)] 33 true) (by exact entA) (by rw [hmx])
  rintro _ rfl
  refine T.seqI (fun s1 => s1 = mkS [(0, .v (.p (.int .i64 c))), (1, .v (.p (.int .i64 ((m : Int) + 1)))), (4, .ptr 4 0), (5, .v (.p (.int .i64 1)))] [(4, varQ)] 33 true) ?_ ?_
  · refine T.block ?_
    refine T.loop (fun n s1 => ∃ a b : Int, ((a = 1 ∧ b = (m : Int) + 1 ∧ n = 2) ∨ (a = (m : Int) + 1 ∧ b = 1 ∧ n = 1) ∨ (a = 1 ∧ b = 0 ∧ n = 0)) ∧ s1 = mkS [(0, .v (.p (.int .i64 c))), (1, .v (.p (.int .i64 ((m : Int) + 1)))), (4, .ptr 4 0), (5, .v (.p (.int .i64 a))), (6, .v (.p (.int .i64 b)))] [(4, varQ)] 33 true) 2
      (s' := mkS [(0, .v (.p (.int .i64 c))), (1, .v (.p (.int .i64 ((m : Int) + 1)))), (4, .ptr 4 0), (5, .v (.p (.int .i64 1))), (6, .v (.p (.int .i64 ((m : Int) + 1))))] [(4, varQ)] 33 true) (by exact entA) ⟨1, (m : Int) + 1, .inl ⟨rfl, rfl, rfl⟩, rfl⟩ ?_
    rintro n _ ⟨a, b, h, rfl⟩
    rcases h with ⟨rfl, rfl, rfl⟩ | ⟨rfl, rfl, rfl⟩ | ⟨rfl, rfl, rfl⟩
    · have hb2 : decide ((m : Int) + 1 > 0) = true := by rw [decide_eq_true_eq]; omega
      by_cases h0 : m = 0
      · subst h0
        refine goA ?_
        refine evG ggA (ss_div (InB_of rfl) rfl rfl (by omega) (show (1 : Int).tmod (((0 : Nat) : Int) + 1) = 0 from rfl)) ?_
        refine goA ?_
        exact loopQ_intro (k := 0) (s' := mkS [(0, .v (.p (.int .i64 c))), (1, .v (.p (.int .i64 (((0 : Nat) : Int) + 1)))), (4, .ptr 4 0), (5, .v (.p (.int .i64 (((0 : Nat) : Int) + 1)))), (6, .v (.p (.int .i64 0)))] [(4, varQ)] 33 true) (by omega) (by exact entA) ⟨1, 0, .inr (.inr ⟨rfl, rfl, rfl⟩), rfl⟩
      · refine goA ?_
        refine evG ggA (ss_div (InB_of rfl) rfl rfl (by omega) (show (1 : Int).tmod ((m : Int) + 1) = 1 from by rw [Int.tmod_eq_of_lt (by omega) (by omega)])) ?_
        refine goA ?_
        exact loopQ_intro (k := 1) (s' := mkS [(0, .v (.p (.int .i64 c))), (1, .v (.p (.int .i64 ((m : Int) + 1)))), (4, .ptr 4 0), (5, .v (.p (.int .i64 ((m : Int) + 1)))), (6, .v (.p (.int .i64 1)))] [(4, varQ)] 33 true) (by omega) (by exact entA) ⟨(m : Int) + 1, 1, .inr (.inl ⟨rfl, rfl, rfl⟩), rfl⟩
    · refine goA ?_
      refine evG ggA (ss_div (InB_of rfl) rfl rfl (by omega) (show ((m : Int) + 1).tmod 1 = 0 from Int.tmod_one _)) ?_
      refine goA ?_
      exact loopQ_intro (k := 0) (s' := mkS [(0, .v (.p (.int .i64 c))), (1, .v (.p (.int .i64 ((m : Int) + 1)))), (4, .ptr 4 0), (5, .v (.p (.int .i64 1))), (6, .v (.p (.int .i64 0)))] [(4, varQ)] 33 true) (by omega) (by exact entA) ⟨1, 0, .inr (.inr ⟨rfl, rfl, rfl⟩), rfl⟩
    · refine goA ?_
      exact midQ_intro (by exact entA) rfl
  rintro _ rfl
  refine goA ?_
  refine evG ggA (ss_div (InB_of rfl) rfl rfl (by omega) w1) ?_
  refine goA ?_
  refine evG ggA (ss_call (InB_of rfl) rfl rfl z1) ?_
  refine goA ?_
  refine evG ggA (ss_div (InB_of rfl) rfl rfl (by omega) w2) ?_
  refine goA ?_
  refine evG ggA (ss_call (InB_of rfl) rfl rfl z2) ?_
  refine goA ?_
  exact rfl
set_option maxHeartbeats 4000000 in
theorem rexpo_p {s : Int} {es : List AV} {l : List Rat} {K B : Nat} (h : ValidP s es.length = true → IsL es K l ∧ l.length ≤ 14) (hle : es.length = l.length) (hr : InR s es.length) (hK : 1 ≤ K ∧ K ≤ 100) (hB : 1 ≤ B ∧ B ≤ 10000000000)
    (hbq : ValidP s es.length = true → ∀ m, m + 1 ≤ (l.drop (lead l)).length → (∀ q, q ∈ exb (l.drop (lead l)) m → Ht q B) ∧ (∀ q, q ∈ exq (l.drop (lead l)) m → Ht q B)) : PC Tryz.prog 34 [serA s es] (expoA (expoT s l)) := by
  have cch := check_p (es := es) hr.1 hr.2 hr.3
  unfold expoT
  rw [← hle]
  cases h1 : ValidP s es.length with
  | false =>
    rw [h1] at cch
    unfold expoA
    refine pc_body3 true Tryz.func34 rfl rfl rfl (Nat.le_of_ble_eq_true rfl) CellT.tmp CellT.tmp CellT.tmp ?_
    refine goA ?_
    refine evG ggA (ss_call (InB_of rfl) rfl rfl cch) ?_
    refine runA ?_
    refine ev_nil ?_
    refine seqQ_n ?_
    refine T.seq ?_
    refine regA ?_
    refine runA ?_
    refine ev_nil ?_
    refine seqQ_n ?_
    refine T.condT rfl rfl ?_
    refine T.seq ?_
    refine regA ?_
    refine runA ?_
    refine ev_nil ?_
    refine seqQ_n ?_
    refine T.weak (s' := mkS [(2, .v (.p (.int .i64 0))), (3, .v (.sl [])), (4, .v (.p (.int .i64 2)))] [] 101 true) (by exact entA) ?_
    refine goA ?_
    exact rfl
  | true =>
  rw [h1] at cch
  obtain ⟨hL, hl14⟩ := h h1
  have hbq := hbq h1
  obtain ⟨a0, a1, a2⟩ := valid_iff.1 h1
  simp only [if_true]
  have co := rord_p hL (by omega) a0 a1 a2
  have cp := rprec_p a0 a1 a2
  have hla := lead_le l
  have hhl : ∀ q, q ∈ l.drop (lead l) → Ht q K := fun q hq => isL_ht hL hK.1 q (List.mem_of_mem_drop hq)
  have hld : (l.drop (lead l)).length + lead l = l.length := by rw [List.length_drop]; omega
  have hcf := cf_at s l
  have hcoef : ∀ n : Int, -100000 ≤ n → n ≤ 100000 → PC Tryz.prog 56 [serA s es, .p (.int .i64 n)] (encQ (cf s l n)) := fun n n0 n1 => coef_p hL (by omega) a0 a1 a2 n0 n1
  have hel : (es.length : Int) = l.length := by rw [hle]
  generalize l.drop (lead l) = A at *
  generalize hsa : s + (lead l : Int) = sa at *
  have hSA : -100 ≤ sa ∧ sa ≤ 1000 := by omega
  by_cases hA : A = []
  · subst hA
    simp only [if_true]
    have hb : (sa == s + (es.length : Int)) = true := by simp at hld; simp; omega
    unfold expoA
    refine pc_body3 true Tryz.func34 rfl rfl rfl (Nat.le_of_ble_eq_true rfl) CellT.tmp CellT.tmp CellT.tmp ?_
    refine goA ?_
    refine evG ggA (ss_call (InB_of rfl) rfl rfl cch) ?_
    refine goA ?_
    refine evG ggA (ss_call (InB_of rfl) rfl rfl co) ?_
    refine goA ?_
    refine evG ggA (ss_call (InB_of rfl) rfl rfl cp) ?_
    refine runA ?_
    refine ev_nil ?_
    refine seqQ_n ?_
    refine T.condT rfl hb ?_
    refine T.seq ?_
    refine regA ?_
    refine runA ?_
    refine ev_nil ?_
    refine seqQ_n ?_
    refine T.weak (s' := mkS [(2, .v (.p (.int .i64 0))), (3, .v (.sl [])), (4, .v (.p (.int .i64 18)))] [] 101 true) (by exact entA) ?_
    refine goA ?_
    exact rfl
  rw [if_neg hA]
  have hA0 : 0 < A.length := List.length_pos_iff.2 hA
  have hb : (sa == s + (es.length : Int)) = false := by simp; omega
  have t1 : Ht (1 : Rat) 1 := ht_int (c := 1) (by decide)
  have c1 := q_p 1 (by decide) (by decide)
  rw [show ((1 : Int) : Rat) = 1 from rfl] at c1
  have cz := q_p 0 (by decide) (by decide)
  rw [show ((0 : Int) : Rat) = 0 from rfl] at cz
  have ch := hcoef sa (by omega) (by omega)
  have g0 : cf s l sa = A.getD 0 0 := by have := hcf 0; rw [show sa + ((0 : Nat) : Int) = sa by omega] at this; exact this
  rw [g0] at ch
  have t0 : Ht (A.getD 0 0) K := getD_ht hK.1 hhl 0
  have csm : PC Tryz.prog 67 _ _ := (refsame2_p (q := 1) t0 (by omega)).up
  by_cases hq1 : A.getD 0 0 = 1
  case neg =>
    rw [if_neg hq1]
    rw [decide_eq_false hq1] at csm
    unfold expoA
    refine pc_body3 true Tryz.func34 rfl rfl rfl (Nat.le_of_ble_eq_true rfl) CellT.tmp CellT.tmp CellT.tmp ?_
    refine goA ?_
    refine evG ggA (ss_call (InB_of rfl) rfl rfl cch) ?_
    refine goA ?_
    refine evG ggA (ss_call (InB_of rfl) rfl rfl co) ?_
    refine goA ?_
    refine evG ggA (ss_call (InB_of rfl) rfl rfl cp) ?_
    refine goA ?_
    refine evG ggA (ss_call (InB_of rfl) rfl rfl ch) ?_
    refine evG ggA (ss_call (InB_of rfl) rfl rfl c1) ?_
    refine evG ggA (ss_call (InB_of rfl) rfl rfl csm) ?_
    refine runA ?_
    refine ev_nil ?_
    refine seqQ_n ?_
    refine T.condT rfl rfl ?_
    refine T.seq ?_
    refine regA ?_
    refine runA ?_
    refine ev_nil ?_
    refine seqQ_n ?_
    refine T.weak (s' := mkS [(2, .v (.p (.int .i64 0))), (3, .v (.sl [])), (4, .v (.p (.int .i64 3)))] [] 101 true) (by exact entA) ?_
    refine goA ?_
    exact rfl
  rw [if_pos hq1]
  rw [decide_eq_true hq1] at csm
  obtain ⟨N, hN⟩ : ∃ N, N = A.length - 1 := ⟨_, rfl⟩
  rw [← hN]
  unfold expoA
  refine pc_body3 true Tryz.func34 rfl rfl rfl (Nat.le_of_ble_eq_true rfl) CellT.tmp CellT.tmp CellT.tmp ?_
  refine goA ?_
  refine evG ggA (ss_call (InB_of rfl) rfl rfl cch) ?_
  refine goA ?_
  refine evG ggA (ss_call (InB_of rfl) rfl rfl co) ?_
  refine goA ?_
  refine evG ggA (ss_call (InB_of rfl) rfl rfl cp) ?_
  refine goA ?_
  refine evG ggA (ss_call (InB_of rfl) rfl rfl ch) ?_
  refine evG ggA (ss_call (InB_of rfl) rfl rfl c1) ?_
  refine evG ggA (ss_call (InB_of rfl) rfl rfl csm) ?_
  refine runA ?_
  refine ev_nil ?_
  refine seqQ_n ?_
  refine T.condF rfl rfl ?_
  refine T.skip ?_
  refine seqQ_n ?_
  refine T.seq ?_
  refine regA ?_
  refine runA ?_
  refine ev_nil ?_
  refine seqQ_n ?_
  refine T.seqI (fun s1 => s1 = mkS [(6, .v (.p (.int .i64 sa))), (7, .own 100 N)] [(100, .lst 4 47 ((exq A N).map encQ))] 101 true) ?_ ?_
  · refine r1A ?_
    refine T.block ?_
    refine T.loop (fun n s1 => ∃ m : Nat, n = N - m ∧ m ≤ N ∧ s1 = mkS [(1, .ptr 1 0), (6, .v (.p (.int .i64 sa))), (7, .own 100 m), (8, .own 101 m), (9, .v (.p (.int .i64 ((m : Int) + 1))))] [(1, .var [.v (.p (.int .i64 s)), .v (.sl es)]), (100, .lst 4 47 ((exq A m).map encQ)), (101, .lst 4 47 ((exb A m).map encQ))] 101 true) N
      (s' := mkS [(1, .ptr 1 0), (6, .v (.p (.int .i64 sa))), (7, .own 100 0), (8, .own 101 0), (9, .v (.p (.int .i64 1)))] [(1, .var [.v (.p (.int .i64 s)), .v (.sl es)]), (100, .lst 4 47 []), (101, .lst 4 47 [])] 101 true) (by exact entA) ⟨0, rfl, Nat.zero_le _, rfl⟩ ?_
    rintro n _ ⟨m, rfl, hm, rfl⟩
    by_cases hlt : m < N
    · have hb : decide ((m : Int) + 1 < s + (es.length : Int) - sa) = true := by simp; omega
      obtain ⟨hbm, hqm⟩ := hbq m (by omega)
      obtain ⟨hbm2, -⟩ := hbq (m + 1) (by omega)
      have hlb : (exb A m).length = m := exb_len A m
      have hlq : (exq A m).length = m := exq_len A m
      have hb2e : exb A (m + 1) = exb A m ++ [-(exs A (exb A m) m m)] := rfl
      have hq2e : exq A (m + 1) = exq A m ++ [exc (exq A m) m (-(exs A (exb A m) m m)) m / (((m : Int) + 1 : Int) : Rat)] := rfl
      rw [hb2e] at hbm2
      have tn : Ht (A.getD (m + 1) 0) K := getD_ht hK.1 hhl (m + 1)
      have cn := q_p ((m : Int) + 1) (by omega) (by omega)
      have htn := ht_n m (by omega)
      have gn : cf s l (sa + ((m : Int) + 1)) = A.getD (m + 1) 0 := hcf (m + 1)
      have chn := hcoef (sa + ((m : Int) + 1)) (by omega) (by omega)
      rw [gn] at chn
      have cm : PC Tryz.prog 55 _ _ := (refmul2_p (isV_encQ htn) (isV_encQ tn) (by omega)).up
      have he0 : exs A (exb A m) m 0 = (((m : Int) + 1 : Int) : Rat) * A.getD (m + 1) 0 := rfl
      rw [← he0] at cm
      have hes := ht_exs hK.1 hB.1 (m := m) (by omega) hhl hbm
      have hesb : ∀ j, j ≤ m → Ht (exs A (exb A m) m j) 200000000000 := fun j hj => (hes j).mono (by
        have : j * (B + K + 1) ≤ 14 * (B + K + 1) := Nat.mul_le_mul_right _ (by omega)
        omega)
      have hxb : Ht (-(exs A (exb A m) m m)) B := hbm2 _ (by simp)
      have hec := ht_exc (m := m) hB.1 hqm hxb
      have hecb : ∀ j, j ≤ m → Ht (exc (exq A m) m (-(exs A (exb A m) m m)) j) 200000000000 := fun j hj => (hec j (by omega)).mono (by
        have : j * (B + 2) ≤ 14 * (B + 2) := Nat.mul_le_mul_right _ (by omega)
        omega)
      have hse : ∀ j, exs A (exb A m) m (j + 1) = exs A (exb A m) m j + (exb A m).getD j 0 * A.getD (m - j) 0 := fun j => rfl
      have hce : ∀ x j, exc (exq A m) m x (j + 1) = if (m + 1) % (j + 1) = 0 then exc (exq A m) m x j - (((j : Int) + 1 : Int) : Rat) * (exq A m).getD j 0 else exc (exq A m) m x j := fun x j => rfl
      have hc0 : ∀ x, exc (exq A m) m x 0 = x := fun x => rfl
      clear hes hec hbm2
      generalize exs A (exb A m) m = S at *
      generalize hXb : exb A m = X at *
      generalize hXq : exq A m = Y at *
      generalize hxd : -(S m) = x at *
      generalize hEE : exc Y m x = E at *
      have hce := hce x
      have hc0 := hc0 x
      rw [hEE] at hce hc0
      refine T.seqI (fun s1 => s1 = mkS [(1, .ptr 1 0), (6, .v (.p (.int .i64 sa))), (7, .own 100 m), (8, .own 101 m), (9, .v (.p (.int .i64 ((m : Int) + 1))))] [(1, .var [.v (.p (.int .i64 s)), .v (.sl es)]), (100, .lst 4 47 (Y.map encQ)), (101, .lst 4 47 (X.map encQ))] 101 true) ?_ ?_
      · refine goA ?_
        refine evG ggA (ss_call (InB_of rfl) rfl rfl cp) ?_
        refine goA ?_
        exact midQ_intro (by exact entA) rfl
      rintro _ rfl
      refine T.seq ?_
      refine T.block ?_
      refine T.seqI (fun s1 => s1 = mkS [(1, .ptr 1 0), (6, .v (.p (.int .i64 sa))), (7, .own 100 m), (8, .own 101 m), (9, .v (.p (.int .i64 ((m : Int) + 1)))), (10, .ptr 10 0)] [(1, .var [.v (.p (.int .i64 s)), .v (.sl es)]), (10, qvar (S 0)), (100, .lst 4 47 (Y.map encQ)), (101, .lst 4 47 (X.map encQ))] 101 true) ?_ ?_
      · refine goA ?_
        refine evG ggA (ss_call (InB_of rfl) rfl rfl cn) ?_
        refine goA ?_
        refine evG ggA (ss_call (InB_of rfl) rfl rfl chn) ?_
        refine evG ggA (ss_call (InB_of rfl) rfl rfl cm) ?_
        refine goA ?_
        exact midQ_intro (by exact entA) rfl
      rintro _ rfl
      refine T.seqI (fun s1 => s1 = mkS [(1, .ptr 1 0), (6, .v (.p (.int .i64 sa))), (7, .own 100 m), (8, .own 101 m), (9, .v (.p (.int .i64 ((m : Int) + 1)))), (10, .ptr 10 0)] [(1, .var [.v (.p (.int .i64 s)), .v (.sl es)]), (10, qvar (S m)), (100, .lst 4 47 (Y.map encQ)), (101, .lst 4 47 (X.map encQ))] 101 true) ?_ ?_
      · refine r1A ?_
        refine T.block ?_
        refine T.loop (fun n s1 => ∃ j : Nat, n = m - j ∧ j ≤ m ∧ s1 = mkS [(1, .ptr 1 0), (6, .v (.p (.int .i64 sa))), (7, .own 100 m), (8, .own 101 m), (9, .v (.p (.int .i64 ((m : Int) + 1)))), (10, .ptr 10 0), (11, .v (.p (.int .i64 ((j : Int) + 1))))] [(1, .var [.v (.p (.int .i64 s)), .v (.sl es)]), (10, qvar (S j)), (100, .lst 4 47 (Y.map encQ)), (101, .lst 4 47 (X.map encQ))] 101 true) m
          (s' := mkS [(1, .ptr 1 0), (6, .v (.p (.int .i64 sa))), (7, .own 100 m), (8, .own 101 m), (9, .v (.p (.int .i64 ((m : Int) + 1)))), (10, .ptr 10 0), (11, .v (.p (.int .i64 1)))] [(1, .var [.v (.p (.int .i64 s)), .v (.sl es)]), (10, qvar (S 0)), (100, .lst 4 47 (Y.map encQ)), (101, .lst 4 47 (X.map encQ))] 101 true) (by exact entA) ⟨0, rfl, Nat.zero_le _, rfl⟩ ?_
        rintro n _ ⟨j, rfl, hj, rfl⟩
        by_cases hjm : j < m
        · have hb2 : decide ((j : Int) + 1 < (m : Int) + 1) = true := by simp; omega
          obtain ⟨q1, hq1⟩ : ∃ q, X[j]? = some q := ⟨_, List.getElem?_eq_getElem (by omega)⟩
          have g1 : X.getD j 0 = q1 := by rw [List.getD_eq_getElem?_getD, hq1]; rfl
          have t1 := hbm q1 (List.mem_of_getElem? hq1)
          have t2 : Ht (A.getD (m - j) 0) K := getD_ht hK.1 hhl (m - j)
          have n1 : (X.map encQ)[((j : Int) + 1 - 1).toNat]? = some (encQ q1) := by rw [show ((j : Int) + 1 - 1).toNat = j by omega]; exact enc_at hq1
          have hx0 : (X.map encQ).length = m := by rw [List.length_map, hlb]
          have g2 : cf s l (sa + ((m : Int) + 1) - ((j : Int) + 1)) = A.getD (m - j) 0 := by rw [← hcf (m - j)]; congr 1; omega
          have c2 := hcoef (sa + ((m : Int) + 1) - ((j : Int) + 1)) (by omega) (by omega)
          rw [g2] at c2
          have c3 : PC Tryz.prog 55 _ _ := (refmul2_p (isV_encQ t1) (isV_encQ t2) (by omega)).up
          have c4 : PC Tryz.prog 54 _ _ := (refadd2_p (isV_encQ (hesb j hj)) (isV_encQ (ht_mul t1 t2 hB.1)) (by omega) (by omega) (by omega)).up
          rw [← g1, ← hse j, g1] at c4
          clear hesb hecb hse hce hbq hbm hqm hhl hcf hcoef
          refine goA ?_
          refine evG ggA (ss_index_own (InB_of rfl) (elem_tab rfl) rfl rfl hx0 rfl (by omega) (by omega)) ?_
          refine evG ggA (ss_load_opagg (InB_of rfl) (agg_tab rfl) rfl rfl hx0 n1) ?_
          refine goA ?_
          refine evG ggA (ss_call (InB_of rfl) rfl rfl c2) ?_
          refine evG ggA (ss_call (InB_of rfl) rfl rfl c3) ?_
          refine evG ggA (ss_call (InB_of rfl) rfl rfl c4) ?_
          refine goA ?_
          exact loopQ_intro (k := m - (j + 1)) (s' := mkS [(1, .ptr 1 0), (6, .v (.p (.int .i64 sa))), (7, .own 100 m), (8, .own 101 m), (9, .v (.p (.int .i64 ((m : Int) + 1)))), (10, .ptr 10 0), (11, .v (.p (.int .i64 ((j : Int) + 1 + 1))))] [(1, .var [.v (.p (.int .i64 s)), .v (.sl es)]), (10, qvar (S (j + 1))), (100, .lst 4 47 (Y.map encQ)), (101, .lst 4 47 (X.map encQ))] 101 true) (by omega) (by exact entA) ⟨j + 1, rfl, by omega, rfl⟩
        · obtain rfl : j = m := by omega
          have hb2 : decide ((j : Int) + 1 < (j : Int) + 1) = false := by simp
          clear hesb hecb hse hce hbq hbm hqm hhl hcf hcoef
          refine goA ?_
          exact midQ_intro (by exact entA) rfl
      rintro _ rfl
      have hz1 : Ht (0 : Rat) 1 := ht0 (Nat.le_refl 1)
      have c5 : PC Tryz.prog 75 _ _ := (refsub2_p (isV_encQ hz1) (isV_encQ (hesb m (Nat.le_refl m))) (Nat.le_refl 1) (by omega) (by omega)).up
      rw [Rat.sub_eq_add_neg, Rat.zero_add, hxd] at c5
      refine T.seqI (fun s1 => s1 = mkS [(1, .ptr 1 0), (6, .v (.p (.int .i64 sa))), (7, .own 100 m), (8, .own 101 m), (9, .v (.p (.int .i64 ((m : Int) + 1)))), (10, .ptr 10 0)] [(1, .var [.v (.p (.int .i64 s)), .v (.sl es)]), (10, qvar x), (100, .lst 4 47 (Y.map encQ)), (101, .lst 4 47 (X.map encQ))] 101 true) ?_ ?_
      · refine goA ?_
        refine evG ggA (ss_call (InB_of rfl) rfl rfl cz) ?_
        refine goA ?_
        refine evG ggA (ss_call (InB_of rfl) rfl rfl c5) ?_
        refine goA ?_
        exact midQ_intro (by exact entA) rfl
      rintro _ rfl
      have hx1 : (X.map encQ).length = m := by rw [List.length_map, hlb]
      refine T.seqI (fun s1 => s1 = mkS [(1, .ptr 1 0), (6, .v (.p (.int .i64 sa))), (7, .own 100 m), (8, .own 101 (m + 1)), (9, .v (.p (.int .i64 ((m : Int) + 1)))), (10, .ptr 10 0)] [(1, .var [.v (.p (.int .i64 s)), .v (.sl es)]), (10, qvar x), (100, .lst 4 47 (Y.map encQ)), (101, .lst 4 47 ((X ++ [x]).map encQ))] 101 true) ?_ ?_
      · refine goA ?_
        (refine evG ggA (ss_bslice (InB_of rfl) (make_tab rfl) rfl rfl rfl rfl (one_ok rfl rfl) (Nat.le_of_ble_eq_true rfl)) ?_; refine evG ggA (ss_snoc (InB_of rfl) (make_tab rfl) rfl rfl (by first | rfl | assumption | (simp; done) | (simp; omega)) rfl (by omega) (Nat.le_of_ble_eq_true rfl) rfl) ?_)
        refine goA ?_
        exact midQ_intro (by exact entA) rfl
      rintro _ rfl
      rw [← hc0]
      refine T.seqI (fun s1 => s1 = mkS [(1, .ptr 1 0), (6, .v (.p (.int .i64 sa))), (7, .own 100 m), (8, .own 101 (m + 1)), (9, .v (.p (.int .i64 ((m : Int) + 1)))), (10, .ptr 10 0)] [(1, .var [.v (.p (.int .i64 s)), .v (.sl es)]), (10, qvar (E m)), (100, .lst 4 47 (Y.map encQ)), (101, .lst 4 47 ((X ++ [E 0]).map encQ))] 101 true) ?_ ?_
      · refine r1A ?_
        refine T.block ?_
        refine T.loop (fun n s1 => ∃ j : Nat, n = m - j ∧ j ≤ m ∧ s1 = mkS [(1, .ptr 1 0), (6, .v (.p (.int .i64 sa))), (7, .own 100 m), (8, .own 101 (m + 1)), (9, .v (.p (.int .i64 ((m : Int) + 1)))), (10, .ptr 10 0), (12, .v (.p (.int .i64 ((j : Int) + 1))))] [(1, .var [.v (.p (.int .i64 s)), .v (.sl es)]), (10, qvar (E j)), (100, .lst 4 47 (Y.map encQ)), (101, .lst 4 47 ((X ++ [E 0]).map encQ))] 101 true) m
          (s' := mkS [(1, .ptr 1 0), (6, .v (.p (.int .i64 sa))), (7, .own 100 m), (8, .own 101 (m + 1)), (9, .v (.p (.int .i64 ((m : Int) + 1)))), (10, .ptr 10 0), (12, .v (.p (.int .i64 1)))] [(1, .var [.v (.p (.int .i64 s)), .v (.sl es)]), (10, qvar (E 0)), (100, .lst 4 47 (Y.map encQ)), (101, .lst 4 47 ((X ++ [E 0]).map encQ))] 101 true) (by exact entA) ⟨0, rfl, Nat.zero_le _, rfl⟩ ?_
        rintro n _ ⟨j, rfl, hj, rfl⟩
        by_cases hjm : j < m
        · have hb2 : decide ((j : Int) + 1 < (m : Int) + 1) = true := by simp; omega
          have hrb := rem_b m j
          have hcej := hce j
          by_cases hd : (m + 1) % (j + 1) = 0
          · rw [decide_eq_true hd] at hrb
            rw [if_pos hd] at hcej
            obtain ⟨q1, hq1⟩ : ∃ q, Y[j]? = some q := ⟨_, List.getElem?_eq_getElem (by omega)⟩
            have g1 : Y.getD j 0 = q1 := by rw [List.getD_eq_getElem?_getD, hq1]; rfl
            have t1 := hqm q1 (List.mem_of_getElem? hq1)
            have n1 : (Y.map encQ)[((j : Int) + 1 - 1).toNat]? = some (encQ q1) := by rw [show ((j : Int) + 1 - 1).toNat = j by omega]; exact enc_at hq1
            have hy0 : (Y.map encQ).length = m := by rw [List.length_map, hlq]
            have cj := q_p ((j : Int) + 1) (by omega) (by omega)
            have htj := ht_n j (by omega)
            have c3 : PC Tryz.prog 55 _ _ := (refmul2_p (isV_encQ htj) (isV_encQ t1) (by omega)).up
            have c4 : PC Tryz.prog 75 _ _ := (refsub2_p (isV_encQ (hecb j hj)) (isV_encQ (ht_mul htj t1 (Nat.le_refl 1))) (by omega) (by omega) (by omega)).up
            rw [← g1, ← hcej, g1] at c4
            clear hesb hecb hse hce hbq hbm hqm hhl hcf hcoef hc0
            refine goA ?_
            refine evG ggA (ss_div (InB_of rfl) rfl rfl (by omega) rfl) ?_
            refine goA ?_
            refine evG ggA (ss_call (InB_of rfl) rfl rfl cj) ?_
            refine goA ?_
            refine evG ggA (ss_index_own (InB_of rfl) (elem_tab rfl) rfl rfl hy0 rfl (by omega) (by omega)) ?_
            refine evG ggA (ss_load_opagg (InB_of rfl) (agg_tab rfl) rfl rfl hy0 n1) ?_
            refine goA ?_
            refine evG ggA (ss_call (InB_of rfl) rfl rfl c3) ?_
            refine evG ggA (ss_call (InB_of rfl) rfl rfl c4) ?_
            refine goA ?_
            exact loopQ_intro (k := m - (j + 1)) (s' := mkS [(1, .ptr 1 0), (6, .v (.p (.int .i64 sa))), (7, .own 100 m), (8, .own 101 (m + 1)), (9, .v (.p (.int .i64 ((m : Int) + 1)))), (10, .ptr 10 0), (12, .v (.p (.int .i64 ((j : Int) + 1 + 1))))] [(1, .var [.v (.p (.int .i64 s)), .v (.sl es)]), (10, qvar (E (j + 1))), (100, .lst 4 47 (Y.map encQ)), (101, .lst 4 47 ((X ++ [E 0]).map encQ))] 101 true) (by omega) (by exact entA) ⟨j + 1, rfl, by omega, rfl⟩
          · rw [decide_eq_false hd] at hrb
            rw [if_neg hd] at hcej
            clear hesb hecb hse hce hbq hbm hqm hhl hcf hcoef hc0
            refine goA ?_
            refine evG ggA (ss_div (InB_of rfl) rfl rfl (by omega) rfl) ?_
            refine goA ?_
            exact loopQ_intro (k := m - (j + 1)) (s' := mkS [(1, .ptr 1 0), (6, .v (.p (.int .i64 sa))), (7, .own 100 m), (8, .own 101 (m + 1)), (9, .v (.p (.int .i64 ((m : Int) + 1)))), (10, .ptr 10 0), (12, .v (.p (.int .i64 ((j : Int) + 1 + 1))))] [(1, .var [.v (.p (.int .i64 s)), .v (.sl es)]), (10, qvar (E j)), (100, .lst 4 47 (Y.map encQ)), (101, .lst 4 47 ((X ++ [E 0]).map encQ))] 101 true) (by omega) (by exact entA) ⟨j + 1, rfl, by omega, by rw [hcej]; rfl⟩
        · obtain rfl : j = m := by omega
          have hb2 : decide ((j : Int) + 1 < (j : Int) + 1) = false := by simp
          clear hesb hecb hse hce hbq hbm hqm hhl hcf hcoef hc0
          refine goA ?_
          exact midQ_intro (by exact entA) rfl
      rintro _ rfl
      have cfr := frac_p 1 (.inl rfl) m (by omega)
      have tfr : Ht (((1 : Int) : Rat) / (((m : Int) + 1 : Int) : Rat)) 2 := ht_dv (k := 1) (l := 1) (ht_int (c := 1) (by decide)) htn (Nat.le_refl 1) (Nat.le_refl 1)
      have c6 : PC Tryz.prog 55 _ _ := (refmul2_p (isV_encQ tfr) (isV_encQ (hecb m (Nat.le_refl m))) (by omega)).up
      have hdv : ((1 : Int) : Rat) / (((m : Int) + 1 : Int) : Rat) * E m = E m / (((m : Int) + 1 : Int) : Rat) := by
        rw [show ((1 : Int) : Rat) = 1 from rfl, Rat.div_def, Rat.one_mul, Rat.mul_comm, Rat.div_def]
      rw [hdv] at c6
      have hy0 : (Y.map encQ).length = m := by rw [List.length_map, hlq]
      clear hesb hecb hse hce hbq hbm hqm hhl hcf hcoef
      refine goA ?_
      refine evG ggA (ss_call (InB_of rfl) rfl rfl cfr) ?_
      refine goA ?_
      refine evG ggA (ss_call (InB_of rfl) rfl rfl c6) ?_
      (refine evG ggA (ss_bslice (InB_of rfl) (make_tab rfl) rfl rfl rfl rfl (one_ok rfl rfl) (Nat.le_of_ble_eq_true rfl)) ?_; refine evG ggA (ss_snoc (InB_of rfl) (make_tab rfl) rfl rfl (by first | rfl | assumption | (simp; done) | (simp; omega)) rfl (by omega) (Nat.le_of_ble_eq_true rfl) rfl) ?_)
      refine goA ?_
      exact loopQ_intro (k := N - (m + 1)) (s' := mkS [(1, .ptr 1 0), (6, .v (.p (.int .i64 sa))), (7, .own 100 (m + 1)), (8, .own 101 (m + 1)), (9, .v (.p (.int .i64 ((m : Int) + 1 + 1))))] [(1, .var [.v (.p (.int .i64 s)), .v (.sl es)]), (100, .lst 4 47 ((Y ++ [E m / (((m : Int) + 1 : Int) : Rat)]).map encQ)), (101, .lst 4 47 ((X ++ [E 0]).map encQ))] 101 true) (by omega) (by exact entA) ⟨m + 1, rfl, hlt, by rw [hb2e, hq2e, hc0]; rfl⟩
    · obtain rfl : m = N := by omega
      have hb : decide ((m : Int) + 1 < s + (es.length : Int) - sa) = false := by simp; omega
      refine goA ?_
      refine evG ggA (ss_call (InB_of rfl) rfl rfl cp) ?_
      refine goA ?_
      exact midQ_intro (s' := mkS [(6, .v (.p (.int .i64 sa))), (7, .own 100 m)] [(100, .lst 4 47 ((exq A m).map encQ))] 101 true) (by exact entA) rfl
  rintro _ rfl
  have hx0 : ((exq A N).map encQ).length = N := by rw [List.length_map, exq_len]
  refine T.weak (s' := mkS [(6, .v (.p (.int .i64 sa))), (7, .v (.sl ((exq A N).map encQ)))] [] 101 true) (by exact entA) ?_
  refine goA ?_
  exact rfl
end Ab
namespace Ab
open Go Go.RowKit Go.Proofs Hp
set_option maxRecDepth 100000

/-- the sum of e c(e) for the divisors e of n = i + 1, e up to d -/
def sg (c : List Rat) (i : Nat) : Nat → Rat
  | 0 => 0
  | d + 1 => if (i + 1) % (d + 1) = 0 then sg c i d + (((d : Int) + 1 : Int) : Rat) * c.getD d 0 else sg c i d
def sgs (c : List Rat) (k : Nat) : List Rat := tk (fun i => sg c i (i + 1)) k
/-- the first m + 1 coefficients of the product, L the sums -/
def prc (L : List Rat) : Nat → List Rat
  | 0 => [1]
  | m + 1 => prc L m ++ [-(iss (0 :: L) (prc L m) (m + 1) (m + 1)) / (((m : Int) + 1 : Int) : Rat)]
def PV (h : Int) (n : Nat) : Bool := decide (-100 ≤ h) && decide (h ≤ 1000) && decide ((n : Int) ≤ 1000 - h - 1)
def prodR (h : Int) (c : List Rat) : Option (Int × List Rat) := if PV h c.length then nrm h (prc (sgs c c.length) c.length) else none
theorem prc_len (L : List Rat) : ∀ m, (prc L m).length = m + 1
  | 0 => rfl
  | m + 1 => by rw [prc, List.length_append, prc_len L m]; rfl
theorem sgs_len (c : List Rat) (k : Nat) : (sgs c k).length = k := by unfold sgs tk; simp
theorem sg_skip (c : List Rat) {i d : Nat} (h : ¬ (i + 1) % (d + 1) = 0) : sg c i (d + 1) = sg c i d := by rw [sg, if_neg h]
theorem sg_far (c : List Rat) (i : Nat) : ∀ d, i + 1 ≤ d → sg c i d = sg c i (i + 1) := fun d h => by
  induction h with
  | refl => rfl
  | step h ih =>
    rename_i k
    rw [sg_skip c (d := k) (by rw [Nat.mod_eq_of_lt (by have : i + 1 ≤ k := h; omega)]; omega)]
    exact ih
theorem ht_sg {c : List Rat} {K i : Nat} (hK : 1 ≤ K) (hc : ∀ q, q ∈ c → Ht q K) : ∀ d, d ≤ 100000 → Ht (sg c i d) (1 + d * (K + 2))
  | 0, _ => (ht0 (Nat.le_refl 1)).mono (by omega)
  | d + 1, h => by
    have ih := ht_sg (i := i) hK hc d (by omega)
    rw [sg]
    split
    · exact (ht_add ih (ht_mul (ht_n d (by omega)) (getD_ht hK hc d) (Nat.le_refl 1))).mono (by rw [Nat.add_mul d 1]; omega)
    · exact ih.mono (by rw [Nat.add_mul d 1]; omega)
theorem ht_iss2 {l x : List Rat} {P Q : Nat} (hP : 1 ≤ P) (hQ : 1 ≤ Q) (hl : ∀ q, q ∈ l → Ht q P) (hx : ∀ q, q ∈ x → Ht q Q) (k : Nat) : ∀ j, Ht (iss l x k j) (1 + j * (P + Q + 1))
  | 0 => (ht0 (Nat.le_refl _)).mono (by omega)
  | j + 1 => (ht_add (ht_iss2 hP hQ hl hx k j) (ht_mul (getD_ht hP hl (j + 1)) (getD_ht hQ hx (k - (j + 1))) hP)).mono (by rw [Nat.add_mul j 1]; omega)
theorem rep_range' {α : Type} (n : Nat) (x : α) {g : Nat → α} (h : ∀ k, k < n → g k = x) : List.replicate n x = (List.range n).map g := by
  apply List.ext_getElem
  · simp
  · intro i h1 h2
    have : i < n := by simpa using h1
    simp [h i this]
theorem range_set' {α : Type} (n i : Nat) (x : α) {g g' : Nat → α} (h0 : g' i = x) (h : ∀ k, k < n → k ≠ i → g' k = g k) : ((List.range n).map g).set i x = (List.range n).map g' := by
  apply List.ext_getElem
  · simp
  · intro k h1 h2
    have hk : k < n := by simpa using h1
    rw [List.getElem_set]
    split
    · rename_i e; subst e; simp [h0]
    · rename_i e; simp [h k hk (fun e2 => e e2.symm)]
theorem range_congr' {α : Type} (n : Nat) {g g' : Nat → α} (h : ∀ k, k < n → g k = g' k) : (List.range n).map g = (List.range n).map g' := by
  apply List.ext_getElem
  · simp
  · intro k h1 h2
    have hk : k < n := by simpa using h1
    simp [h k hk]
/-- the sums under way: d rounds done, and in this round what lies below cur -/
def proG (c : List Rat) (d cur k : Nat) : AV := if k = 0 then rz else if k < cur then encQ (sg c (k - 1) (d + 1)) else if d = 0 then rz else encQ (sg c (k - 1) d)
theorem proG_V {c : List Rat} {d cur k K : Nat} (hk : 1 ≤ k) (hc : cur ≤ k) (h : Ht (sg c (k - 1) d) K) : IsV (proG c d cur k) K (sg c (k - 1) d) := by
  unfold proG
  rw [if_neg (by omega), if_neg (by omega)]
  by_cases hd : d = 0
  · subst hd; rw [if_pos rfl]; exact isV_rz K
  · rw [if_neg hd]; exact isV_encQ h
theorem pro_start (c : List Rat) (d k : Nat) : proG c (d + 1) (d + 2) k = proG c (d + 1) 0 k := by
  unfold proG
  by_cases h0 : k = 0
  · rw [if_pos h0, if_pos h0]
  · rw [if_neg h0, if_neg h0, if_neg (Nat.not_lt_zero k), if_neg (show ¬ d + 1 = 0 by omega)]
    by_cases h1 : k < d + 2
    · rw [if_pos h1, sg_skip c (by rw [show k - 1 + 1 = k by omega, Nat.mod_eq_of_lt (by omega)]; omega)]
    · rw [if_neg h1]
theorem pro_next (c : List Rat) (d N k : Nat) (hk : k < N + 1) (cur : Nat) (hc : N < cur) : proG c d cur k = proG c (d + 1) 0 k := by
  unfold proG
  by_cases h0 : k = 0
  · rw [if_pos h0, if_pos h0]
  · rw [if_neg h0, if_neg h0, if_neg (Nat.not_lt_zero k), if_neg (show ¬ d + 1 = 0 by omega), if_pos (show k < cur by omega)]
theorem pro_step (c : List Rat) {d cur k : Nat} (hd : cur % (d + 1) = 0) (hk : k ≠ cur) : proG c d (cur + (d + 1)) k = proG c d cur k := by
  unfold proG
  by_cases h0 : k = 0
  · rw [if_pos h0, if_pos h0]
  · rw [if_neg h0, if_neg h0]
    by_cases h1 : k < cur
    · rw [if_pos h1, if_pos (by omega)]
    · rw [if_neg h1]
      by_cases h2 : k < cur + (d + 1)
      · rw [if_pos h2]
        obtain ⟨e, he⟩ : ∃ e, k = cur + (e + 1) := ⟨k - cur - 1, by omega⟩
        have hne : ¬ (k - 1 + 1) % (d + 1) = 0 := by
          rw [show k - 1 + 1 = cur + (e + 1) by omega, Nat.add_mod, hd, Nat.zero_add, Nat.mod_mod, Nat.mod_eq_of_lt (by omega)]
          omega
        rw [sg_skip c hne, if_neg (by omega)]
      · rw [if_neg h2]
set_option maxHeartbeats 8000000 in
theorem prod_p {h : Int} {es : List AV} {c : List Rat} {K P Q : Nat} (hL0 : PV h es.length = true → IsL es K c ∧ c.length ≤ 14) (hle : es.length = c.length) (h0 : -9223372036854775808 ≤ h) (h1 : h ≤ 9223372036854775807) (hn : es.length ≤ 9223372036854775807) (hK : 1 ≤ K ∧ K ≤ 10000000000) (hP : 1 ≤ P ∧ P ≤ 10000000000) (hQ : 1 ≤ Q ∧ Q ≤ 10000000000)
    (hS : PV h es.length = true → ∀ q, q ∈ sgs c c.length → Ht q P) (hX : PV h es.length = true → ∀ m, m ≤ c.length → ∀ q, q ∈ prc (sgs c c.length) m → Ht q Q) : PC Tryz.prog 35 [.p (.int .i64 h), .sl es] (serE (prodR h c)) := by
  rw [serE_eq]
  unfold prodR
  rw [← hle]
  by_cases a0 : -100 ≤ h
  case neg =>
    have e : PV h es.length = false := by unfold PV; simp [a0]
    rw [e]
    have hb : decide (h < -100) = true := by simp; omega
    refine pc_body2 true Tryz.func35 rfl rfl rfl (Nat.le_of_ble_eq_true rfl) (CellT.agg agg_ser) CellT.tmp ?_
    refine goA ?_
    exact rfl
  have hb0 : decide (h < -100) = false := by simp; omega
  by_cases a1 : h ≤ 1000
  case neg =>
    have e : PV h es.length = false := by unfold PV; simp [a1]
    rw [e]
    have hb : decide (h > 1000) = true := by simp; omega
    refine pc_body2 true Tryz.func35 rfl rfl rfl (Nat.le_of_ble_eq_true rfl) (CellT.agg agg_ser) CellT.tmp ?_
    refine goA ?_
    exact rfl
  have hb1 : decide (h > 1000) = false := by simp; omega
  by_cases a2 : (es.length : Int) ≤ 1000 - h - 1
  case neg =>
    have e : PV h es.length = false := by unfold PV; simp [a2]
    rw [e]
    have hb : decide ((es.length : Int) > 1000 - h - 1) = true := by simp; omega
    refine pc_body2 true Tryz.func35 rfl rfl rfl (Nat.le_of_ble_eq_true rfl) (CellT.agg agg_ser) CellT.tmp ?_
    refine goA ?_
    exact rfl
  have hb2 : decide ((es.length : Int) > 1000 - h - 1) = false := by simp; omega
  have e : PV h es.length = true := by unfold PV; simp [a0, a1, a2]
  obtain ⟨hL, hl14⟩ := hL0 e
  have hS := hS e
  have hX := hX e
  rw [e]
  simp only [if_true]
  clear hL0 e
  rw [hle]
  have hcl := isL_ht hL hK.1
  generalize hN : c.length = N at *
  have hgd : ∀ i, i < N → (sgs c N).getD i 0 = sg c i N := fun i hi => by
    unfold sgs tk
    rw [sg_far c i N (by omega)]
    simp [List.getD_eq_getElem?_getD, hi]
  have hsl := sgs_len c N
  have hone : Ht (1 : Rat) 1 := ht_int (c := 1) (by decide)
  have c1 := rof_p 1 (by decide) (by decide)
  rw [show ((1 : Int) : Rat) = 1 from rfl] at c1
  have cz := rof_p 0 (by decide) (by decide)
  rw [show ((0 : Int) : Rat) = 0 from rfl] at cz
  have hsgh : ∀ i d, d ≤ N → Ht (sg c i d) 200000000000 := fun i d hd => (ht_sg hK.1 hcl d (by omega)).mono (by
    have : d * (K + 2) ≤ 14 * (K + 2) := Nat.mul_le_mul_right _ (by omega)
    omega)
  have hproV : ∀ d cur k, d ≤ N → 1 ≤ k → cur ≤ k → IsV (proG c d cur k) 200000000000 (sg c (k - 1) d) := fun d cur k hd hk hc => proG_V hk hc (hsgh _ _ hd)
  have hp0 : ∀ k, k < N + 1 → proG c 0 0 k = rz := fun k _ => by unfold proG; split; rfl; rw [if_neg (Nat.not_lt_zero k), if_pos rfl]
  have hp1 : ∀ d, d < N → (List.range (N + 1)).map (proG c d (d + 1)) = (List.range (N + 1)).map (proG c d 0) := fun d hd => range_congr' _ fun k _ => by
    rcases d with _ | d
    · unfold proG
      by_cases h0 : k = 0
      · rw [if_pos h0, if_pos h0]
      · rw [if_neg h0, if_neg h0, if_neg (show ¬ k < 0 + 1 by omega), if_neg (Nat.not_lt_zero k)]
    · exact pro_start c d k
  have hp2 : ∀ d cur, N < cur → (List.range (N + 1)).map (proG c d cur) = (List.range (N + 1)).map (proG c (d + 1) 0) := fun d cur hc => range_congr' _ fun k hk => pro_next c d N k hk cur hc
  have hp3 : ∀ d cur, cur % (d + 1) = 0 → 1 ≤ cur → cur ≤ N → ((List.range (N + 1)).map (proG c d cur)).set cur (encQ (sg c (cur - 1) (d + 1))) = (List.range (N + 1)).map (proG c d (cur + (d + 1))) := fun d cur hm hc hcN => range_set' _ _ _ (by
      unfold proG
      rw [if_neg (by omega), if_pos (by omega)]) fun k _ hk => pro_step c hm hk
  have hpN : ∀ i, i < N → ((List.range (N + 1)).map (proG c N 0))[i + 1]? = some (encQ (sg c i N)) := fun i hi => by
    rw [List.getElem?_map, List.getElem?_range (by omega)]
    show some (proG c N 0 (i + 1)) = _
    unfold proG
    rw [if_neg (by omega), if_neg (by omega), if_neg (by omega), Nat.add_sub_cancel]
  have hget : ∀ d cur k, k ≤ N → ((List.range (N + 1)).map (proG c d cur))[k]? = some (proG c d cur k) := fun d cur k hk => by
    rw [List.getElem?_map, List.getElem?_range (by omega)]; rfl
  have hGl : ∀ d cur, ((List.range (N + 1)).map (proG c d cur)).length = N + 1 := fun d cur => by simp
  have hsgs : ∀ d i, (i + 1) % (d + 1) = 0 → sg c i (d + 1) = sg c i d + (((d : Int) + 1 : Int) : Rat) * c.getD d 0 := fun d i hm => by rw [sg, if_pos hm]
  generalize proG c = G at *
  generalize sg c = SG at *
  generalize hLL : sgs c N = L at *
  refine pc_body2 true Tryz.func35 rfl rfl rfl (Nat.le_of_ble_eq_true rfl) (CellT.agg agg_ser) CellT.tmp ?_
  refine r1A ?_
  refine T.seqI (fun s1 => s1 = mkS [(0, .v (.p (.int .i64 h))), (1, .v (.sl es)), (4, .ptr 4 0)] [(4, var0)] 109 true) ?_ ?_
  · refine goA ?_
    exact midQ_intro (by exact entA) rfl
  rintro _ rfl
  have hw : (es.length : Int) + 1 = ((N + 1 : Nat) : Int) := by omega
  refine T.seqI (fun s1 => s1 = mkS [(0, .v (.p (.int .i64 h))), (1, .v (.sl es)), (4, .ptr 4 0), (6, .own 30 (N + 1))] [(4, var0), (30, .lst 4 47 ((List.range (N + 1)).map (G 0 0)))] 109 true) ?_ ?_
  · refine goA ?_
    refine evG ggA (ss_make 30 (e0 := rz) (InB_of rfl) (make_tab rfl) rfl rfl rfl (by omega) (by omega) (by omega) (by omega) rfl rfl rfl) ?_
    refine goA ?_
    have e2 : ((es.length : Int) + 1).toNat = N + 1 := by omega
    have hrep : List.replicate ((es.length : Int) + 1).toNat rz = (List.range (N + 1)).map (G 0 0) := by rw [e2]; exact rep_range' (N + 1) rz hp0
    exact midQ_intro (s' := mkS [(0, .v (.p (.int .i64 h))), (1, .v (.sl es)), (4, .ptr 4 0), (6, .own 30 ((es.length : Int) + 1).toNat)] [(4, var0), (30, .lst 4 47 (List.replicate ((es.length : Int) + 1).toNat rz))] 109 true) (by exact entA) (by rw [hrep, e2])
  rintro _ rfl
  refine T.seqI (fun s1 => s1 = mkS [(0, .v (.p (.int .i64 h))), (1, .v (.sl es)), (4, .ptr 4 0), (6, .own 30 (N + 1))] [(4, var0), (30, .lst 4 47 ((List.range (N + 1)).map (G N 0)))] 109 true) ?_ ?_
  · refine r1A ?_
    refine T.block ?_
    refine T.loop (fun n s1 => ∃ d : Nat, n = N - d ∧ d ≤ N ∧ s1 = mkS [(0, .v (.p (.int .i64 h))), (1, .v (.sl es)), (4, .ptr 4 0), (6, .own 30 (N + 1)), (7, .v (.p (.int .i64 ((d : Int) + 1))))] [(4, var0), (30, .lst 4 47 ((List.range (N + 1)).map (G d 0)))] 109 true) N
      (s' := mkS [(0, .v (.p (.int .i64 h))), (1, .v (.sl es)), (4, .ptr 4 0), (6, .own 30 (N + 1)), (7, .v (.p (.int .i64 1)))] [(4, var0), (30, .lst 4 47 ((List.range (N + 1)).map (G 0 0)))] 109 true) (by exact entA) ⟨0, rfl, Nat.zero_le _, rfl⟩ ?_
    rintro n _ ⟨d, rfl, hd, rfl⟩
    by_cases hlt : d < N
    · have hb : decide ((d : Int) + 1 ≤ (es.length : Int)) = true := by simp; omega
      obtain ⟨y, ys, y', ys', q1, n0, hq1, v1⟩ := hL.at (i := d) (by omega)
      have g1 : c.getD d 0 = q1 := by rw [List.getD_eq_getElem?_getD, hq1]; rfl
      have n1 : es[((d : Int) + 1 - 1).toNat]? = some (.agg [.p (.bool y), .sl ys, .p (.bool y'), .sl ys']) := by rw [show ((d : Int) + 1 - 1).toNat = d by omega]; exact n0
      have cd := rof_p ((d : Int) + 1) (by omega) (by omega)
      have htd := ht_n d (by omega)
      have t1 := hcl q1 (List.mem_of_getElem? hq1)
      have cm := rmul_p (isV_encQ htd) (by omega) v1 (by omega)
      have htp := ht_mul htd t1 (Nat.le_refl 1)
      have hsgd := hsgs d
      rw [g1] at hsgd
      generalize (((d : Int) + 1 : Int) : Rat) * q1 = pt at *
      refine T.seqI (fun s1 => s1 = mkS [(0, .v (.p (.int .i64 h))), (1, .v (.sl es)), (4, .ptr 4 0), (6, .own 30 (N + 1)), (7, .v (.p (.int .i64 ((d : Int) + 1))))] [(4, var0), (30, .lst 4 47 ((List.range (N + 1)).map (G d 0)))] 109 true) ?_ ?_
      · refine goA ?_
        exact midQ_intro (by exact entA) rfl
      rintro _ rfl
      refine T.seq ?_
      refine T.block ?_
      refine T.seqI (fun s1 => s1 = mkS [(0, .v (.p (.int .i64 h))), (1, .v (.sl es)), (4, .ptr 4 0), (6, .own 30 (N + 1)), (7, .v (.p (.int .i64 ((d : Int) + 1)))), (8, .ptr 8 0)] [(4, var0), (8, qvar pt), (30, .lst 4 47 ((List.range (N + 1)).map (G d (d + 1))))] 109 true) ?_ ?_
      · refine goA ?_
        refine evG ggA (ss_call (InB_of rfl) rfl rfl cd) ?_
        refine goA ?_
        refine evG ggA (ss_index_sl (InB_of rfl) (elem_tab rfl) rfl rfl (by omega) n1 rfl) ?_
        refine goA ?_
        refine evG ggA (ss_call (InB_of rfl) rfl rfl cm) ?_
        refine goA ?_
        exact midQ_intro (s' := mkS [(0, .v (.p (.int .i64 h))), (1, .v (.sl es)), (4, .ptr 4 0), (6, .own 30 (N + 1)), (7, .v (.p (.int .i64 ((d : Int) + 1)))), (8, .ptr 8 0)] [(4, var0), (8, qvar pt), (30, .lst 4 47 ((List.range (N + 1)).map (G d 0)))] 109 true) (by exact entA) (by rw [hp1 d hlt])
      rintro _ rfl
      refine r1A ?_
      refine T.block ?_
      refine T.loop (fun n s1 => ∃ cur : Nat, n = N + 1 - cur ∧ 1 ≤ cur ∧ cur ≤ N + N ∧ cur % (d + 1) = 0 ∧ s1 = mkS [(0, .v (.p (.int .i64 h))), (1, .v (.sl es)), (4, .ptr 4 0), (6, .own 30 (N + 1)), (7, .v (.p (.int .i64 ((d : Int) + 1)))), (8, .ptr 8 0), (9, .v (.p (.int .i64 (cur : Int))))] [(4, var0), (8, qvar pt), (30, .lst 4 47 ((List.range (N + 1)).map (G d cur)))] 109 true) (N + 1 - (d + 1))
        (s' := mkS [(0, .v (.p (.int .i64 h))), (1, .v (.sl es)), (4, .ptr 4 0), (6, .own 30 (N + 1)), (7, .v (.p (.int .i64 ((d : Int) + 1)))), (8, .ptr 8 0), (9, .v (.p (.int .i64 ((d : Int) + 1))))] [(4, var0), (8, qvar pt), (30, .lst 4 47 ((List.range (N + 1)).map (G d (d + 1))))] 109 true) (by exact entA) ⟨d + 1, rfl, by omega, by omega, Nat.mod_self _, rfl⟩ ?_
      rintro n _ ⟨cur, rfl, hc0, hc1, hcm, rfl⟩
      by_cases hcu : cur ≤ N
      · have hb3 : decide ((cur : Int) ≤ (es.length : Int)) = true := by simp; omega
        have hV := hproV d cur cur hd hc0 (Nat.le_refl _)
        have ca := radd_p hV (by omega) (isV_encQ htp) (by omega)
        rw [← hsgd (cur - 1) (by rw [show cur - 1 + 1 = cur by omega]; exact hcm)] at ca
        have hse := hget d cur cur hcu
        obtain ⟨g, xs, g', xs', hx⟩ := isV_cells hV
        rw [hx] at ca hse
        have hse' : ((List.range (N + 1)).map (G d cur))[((cur : Nat) : Int).toNat]? = some (.agg [.p (.bool g), .sl xs, .p (.bool g'), .sl xs']) := by rw [Int.toNat_natCast]; exact hse
        have hset := hp3 d cur hcm hc0 hcu
        have hgl := hGl d cur
        clear hS hX hgd hsgh hproV hp0 hp1 hp2 hp3 hpN hget hGl hsgs hsgd hcl
        refine goA ?_
        refine evG ggA (ss_index_own (InB_of rfl) (elem_tab rfl) rfl rfl hgl rfl (by omega) (by omega)) ?_
        refine evG ggA (ss_load_opagg (InB_of rfl) (agg_tab rfl) rfl rfl hgl hse') ?_
        refine goA ?_
        refine evG ggA (ss_call (InB_of rfl) rfl rfl ca) ?_
        refine goA ?_
        refine evG ggA (ss_index_own (InB_of rfl) (elem_tab rfl) rfl rfl hgl rfl (by omega) (by omega)) ?_
        refine evG ggA (ss_store_own rfl (size_tab rfl) rfl rfl hgl (by omega) rfl rfl (fun l e => by cases e) (List.all_eq_true.2 (encQ_nu _))) ?_
        refine goA ?_
        exact loopQ_intro (k := N + 1 - (cur + (d + 1))) (s' := mkS [(0, .v (.p (.int .i64 h))), (1, .v (.sl es)), (4, .ptr 4 0), (6, .own 30 (N + 1)), (7, .v (.p (.int .i64 ((d : Int) + 1)))), (8, .ptr 8 0), (9, .v (.p (.int .i64 ((cur : Int) + ((d : Int) + 1)))))] [(4, var0), (8, qvar pt), (30, .lst 4 47 (((List.range (N + 1)).map (G d cur)).set ((cur : Nat) : Int).toNat (encQ (SG (cur - 1) (d + 1)))))] 109 true) (by omega) (by exact entA) ⟨cur + (d + 1), rfl, by omega, by omega, by rw [Nat.add_mod_right]; exact hcm, by rw [Int.toNat_natCast, hset]; rfl⟩
      · have hb3 : decide ((cur : Int) ≤ (es.length : Int)) = false := by simp; omega
        have hnx := hp2 d cur (by omega)
        clear hS hX hgd hsgh hproV hp0 hp1 hp2 hp3 hpN hget hGl hsgs hsgd hcl
        refine goA ?_
        exact loopQ_intro (k := N - (d + 1)) (s' := mkS [(0, .v (.p (.int .i64 h))), (1, .v (.sl es)), (4, .ptr 4 0), (6, .own 30 (N + 1)), (7, .v (.p (.int .i64 ((d : Int) + 1 + 1))))] [(4, var0), (30, .lst 4 47 ((List.range (N + 1)).map (G d cur)))] 109 true) (by omega) (by exact entA) ⟨d + 1, rfl, hlt, by rw [hnx]; rfl⟩
    · obtain rfl : d = N := by omega
      have hb : decide ((d : Int) + 1 ≤ (es.length : Int)) = false := by simp; omega
      refine goA ?_
      exact midQ_intro (by exact entA) rfl
  rintro _ rfl
  have hGN := hGl N 0
  have hpN' : ∀ i, i < N → ((List.range (N + 1)).map (G N 0))[i + 1]? = some (encQ (L.getD i 0)) := fun i hi => by rw [hpN i hi, hgd i hi]
  clear hpN hgd hsgh hproV hp0 hp1 hp2 hp3 hget hGl hsgs hcl
  generalize (List.range (N + 1)).map (G N 0) = ES at *
  refine T.weak (s' := mkS [(0, .v (.p (.int .i64 h))), (1, .v (.sl es)), (4, .ptr 4 0), (6, .v (.sl ES))] [(4, var0)] 109 true) (by exact entA) ?_
  refine T.seq ?_
  refine regA ?_
  refine runA ?_
  refine evG ggA (ss_call (InB_of rfl) rfl rfl c1) ?_
  refine runA ?_
  refine evG ggA (ss_bslice_own 31 (InB_of rfl) rfl (make_tab rfl) rfl rfl rfl rfl (one_ok rfl rfl) (Nat.le_of_ble_eq_true rfl) (by decide) (fun _ a ha => by rw [List.mem_singleton] at ha; subst ha; exact encQ_nu 1)) ?_
  refine runA ?_
  refine ev_nil ?_
  refine seqQ_n ?_
  have hL0 : ∀ q, q ∈ (0 :: L) → Ht q P := fun q hq => by
    rcases List.mem_cons.1 hq with rfl | hq
    · exact ht0 hP.1
    · exact hS q hq
  refine T.seqI (fun s1 => s1 = mkS [(0, .v (.p (.int .i64 h))), (4, .ptr 4 0), (10, .own 31 (N + 1))] [(4, var0), (31, .lst 4 47 ((prc L N).map encQ))] 109 true) ?_ ?_
  · refine r1A ?_
    refine T.block ?_
    refine T.loop (fun n s1 => ∃ m : Nat, n = N - m ∧ m ≤ N ∧ s1 = mkS [(0, .v (.p (.int .i64 h))), (1, .v (.sl es)), (4, .ptr 4 0), (6, .v (.sl ES)), (10, .own 31 (m + 1)), (11, .v (.p (.int .i64 ((m : Int) + 1))))] [(4, var0), (31, .lst 4 47 ((prc L m).map encQ))] 109 true) N
      (s' := mkS [(0, .v (.p (.int .i64 h))), (1, .v (.sl es)), (4, .ptr 4 0), (6, .v (.sl ES)), (10, .own 31 1), (11, .v (.p (.int .i64 1)))] [(4, var0), (31, .lst 4 47 (([1] : List Rat).map encQ))] 109 true) (by exact entA) ⟨0, rfl, Nat.zero_le _, rfl⟩ ?_
    rintro n _ ⟨m, rfl, hm, rfl⟩
    by_cases hlt : m < N
    · have hb : decide ((m : Int) + 1 ≤ (es.length : Int)) = true := by simp; omega
      have hXm := hX m hm
      have hpl := prc_len L m
      have hpn : prc L (m + 1) = prc L m ++ [-(iss (0 :: L) (prc L m) (m + 1) (m + 1)) / (((m : Int) + 1 : Int) : Rat)] := rfl
      generalize hXX : prc L m = X at *
      have hih := ht_iss2 hP.1 hQ.1 hL0 hXm (m + 1)
      have hihb : ∀ j, j ≤ m + 1 → Ht (-(iss (0 :: L) X (m + 1) j)) 300000000000 := fun j hj => ht_neg ((hih j).mono (by
        have : j * (P + Q + 1) ≤ 14 * (P + Q + 1) := Nat.mul_le_mul_right _ (by omega)
        omega))
      have hse : ∀ j, -(iss (0 :: L) X (m + 1) (j + 1)) = -(iss (0 :: L) X (m + 1) j) - L.getD j 0 * X.getD (m - j) 0 := fun j => by
        show -(iss (0 :: L) X (m + 1) j + L.getD j 0 * X.getD (m + 1 - (j + 1)) 0) = _
        rw [Rat.neg_add, Rat.sub_eq_add_neg, show m + 1 - (j + 1) = m - j by omega]
      have hs0 : -(iss (0 :: L) X (m + 1) 0) = 0 := Rat.neg_zero
      clear hih
      obtain ⟨S, hSd⟩ : ∃ S : Nat → Rat, S = fun j => -(iss (0 :: L) X (m + 1) j) := ⟨_, rfl⟩
      have hSj : ∀ j, -(iss (0 :: L) X (m + 1) j) = S j := fun j => by rw [hSd]
      simp only [hSj] at hpn hihb hse hs0
      clear hSd hSj
      refine T.seqI (fun s1 => s1 = mkS [(0, .v (.p (.int .i64 h))), (1, .v (.sl es)), (4, .ptr 4 0), (6, .v (.sl ES)), (10, .own 31 (m + 1)), (11, .v (.p (.int .i64 ((m : Int) + 1))))] [(4, var0), (31, .lst 4 47 (X.map encQ))] 109 true) ?_ ?_
      · refine goA ?_
        exact midQ_intro (by exact entA) rfl
      rintro _ rfl
      refine T.seq ?_
      refine T.block ?_
      refine T.seqI (fun s1 => s1 = mkS [(0, .v (.p (.int .i64 h))), (1, .v (.sl es)), (4, .ptr 4 0), (6, .v (.sl ES)), (10, .own 31 (m + 1)), (11, .v (.p (.int .i64 ((m : Int) + 1)))), (12, .ptr 12 0)] [(4, var0), (12, qvar (S 0)), (31, .lst 4 47 (X.map encQ))] 109 true) ?_ ?_
      · refine goA ?_
        refine evG ggA (ss_call (InB_of rfl) rfl rfl cz) ?_
        refine goA ?_
        exact midQ_intro (s' := mkS [(0, .v (.p (.int .i64 h))), (1, .v (.sl es)), (4, .ptr 4 0), (6, .v (.sl ES)), (10, .own 31 (m + 1)), (11, .v (.p (.int .i64 ((m : Int) + 1)))), (12, .ptr 12 0)] [(4, var0), (12, qvar 0), (31, .lst 4 47 (X.map encQ))] 109 true) (by exact entA) (by rw [hs0])
      rintro _ rfl
      refine T.seqI (fun s1 => s1 = mkS [(0, .v (.p (.int .i64 h))), (1, .v (.sl es)), (4, .ptr 4 0), (6, .v (.sl ES)), (10, .own 31 (m + 1)), (11, .v (.p (.int .i64 ((m : Int) + 1)))), (12, .ptr 12 0)] [(4, var0), (12, qvar (S (m + 1))), (31, .lst 4 47 (X.map encQ))] 109 true) ?_ ?_
      · refine r1A ?_
        refine T.block ?_
        refine T.loop (fun n s1 => ∃ j : Nat, n = m + 1 - j ∧ j ≤ m + 1 ∧ s1 = mkS [(0, .v (.p (.int .i64 h))), (1, .v (.sl es)), (4, .ptr 4 0), (6, .v (.sl ES)), (10, .own 31 (m + 1)), (11, .v (.p (.int .i64 ((m : Int) + 1)))), (12, .ptr 12 0), (13, .v (.p (.int .i64 ((j : Int) + 1))))] [(4, var0), (12, qvar (S j)), (31, .lst 4 47 (X.map encQ))] 109 true) (m + 1)
          (s' := mkS [(0, .v (.p (.int .i64 h))), (1, .v (.sl es)), (4, .ptr 4 0), (6, .v (.sl ES)), (10, .own 31 (m + 1)), (11, .v (.p (.int .i64 ((m : Int) + 1)))), (12, .ptr 12 0), (13, .v (.p (.int .i64 1)))] [(4, var0), (12, qvar (S 0)), (31, .lst 4 47 (X.map encQ))] 109 true) (by exact entA) ⟨0, rfl, Nat.zero_le _, rfl⟩ ?_
        rintro n _ ⟨j, rfl, hj, rfl⟩
        by_cases hjm : j < m + 1
        · have hb3 : decide ((j : Int) + 1 ≤ (m : Int) + 1) = true := by simp; omega
          have n1 : ES[((j : Int) + 1).toNat]? = some (encQ (L.getD j 0)) := by rw [show ((j : Int) + 1).toNat = j + 1 by omega]; exact hpN' j (by omega)
          obtain ⟨q2, hq2⟩ : ∃ q, X[m - j]? = some q := ⟨_, List.getElem?_eq_getElem (by omega)⟩
          have g2 : X.getD (m - j) 0 = q2 := by rw [List.getD_eq_getElem?_getD, hq2]; rfl
          have n2 : (X.map encQ)[((m : Int) + 1 - ((j : Int) + 1)).toNat]? = some (encQ q2) := by rw [show ((m : Int) + 1 - ((j : Int) + 1)).toNat = m - j by omega]; exact enc_at hq2
          have t1 : Ht (L.getD j 0) P := getD_ht hP.1 hS j
          have t2 := hXm q2 (List.mem_of_getElem? hq2)
          have hx0 : (X.map encQ).length = m + 1 := by rw [List.length_map, hpl]
          have c3 := rmul_p (isV_encQ t1) (by omega) (isV_encQ t2) (by omega)
          have c4 := rsub_p (isV_encQ (hihb j hj)) (by omega) (isV_encQ (ht_mul t1 t2 hP.1)) (by omega)
          rw [← g2, ← hse j, g2] at c4
          generalize L.getD j 0 = q1 at *
          clear hS hX hXm hihb hse hL0 hpN'
          refine goA ?_
          refine evG ggA (ss_index_sl (InB_of rfl) (elem_tab rfl) rfl rfl (by omega) n1 rfl) ?_
          refine goA ?_
          refine evG ggA (ss_index_own (InB_of rfl) (elem_tab rfl) rfl rfl hx0 rfl (by omega) (by omega)) ?_
          refine evG ggA (ss_load_opagg (InB_of rfl) (agg_tab rfl) rfl rfl hx0 n2) ?_
          refine evG ggA (ss_call (InB_of rfl) rfl rfl c3) ?_
          refine evG ggA (ss_call (InB_of rfl) rfl rfl c4) ?_
          refine goA ?_
          exact loopQ_intro (k := m + 1 - (j + 1)) (s' := mkS [(0, .v (.p (.int .i64 h))), (1, .v (.sl es)), (4, .ptr 4 0), (6, .v (.sl ES)), (10, .own 31 (m + 1)), (11, .v (.p (.int .i64 ((m : Int) + 1)))), (12, .ptr 12 0), (13, .v (.p (.int .i64 ((j : Int) + 1 + 1))))] [(4, var0), (12, qvar (S (j + 1))), (31, .lst 4 47 (X.map encQ))] 109 true) (by omega) (by exact entA) ⟨j + 1, rfl, by omega, rfl⟩
        · obtain rfl : j = m + 1 := by omega
          have hb3 : decide (((m + 1 : Nat) : Int) + 1 ≤ (m : Int) + 1) = false := by simp; omega
          clear hS hX hXm hihb hse hL0 hpN'
          refine goA ?_
          exact midQ_intro (by exact entA) rfl
      rintro _ rfl
      have htn := ht_n m (by omega)
      have cn := rof_p ((m : Int) + 1) (by omega) (by omega)
      have c6 := rquo_p (isV_encQ (hihb (m + 1) (Nat.le_refl _))) (by omega) (isV_encQ htn) (by omega) (by
        intro e
        have := Rat.intCast_eq_zero_iff.1 e
        omega)
      have hx0 : (X.map encQ).length = m + 1 := by rw [List.length_map, hpl]
      clear hS hX hXm hihb hse hL0 hpN'
      refine goA ?_
      refine evG ggA (ss_call (InB_of rfl) rfl rfl cn) ?_
      refine goA ?_
      refine evG ggA (ss_call (InB_of rfl) rfl rfl c6) ?_
      refine goA ?_
      (refine evG ggA (ss_bslice (InB_of rfl) (make_tab rfl) rfl rfl rfl rfl (one_ok rfl rfl) (Nat.le_of_ble_eq_true rfl)) ?_; refine evG ggA (ss_snoc (InB_of rfl) (make_tab rfl) rfl rfl (by first | rfl | assumption | (simp; done) | (simp; omega)) rfl (by omega) (Nat.le_of_ble_eq_true rfl) rfl) ?_)
      refine goA ?_
      exact loopQ_intro (k := N - (m + 1)) (s' := mkS [(0, .v (.p (.int .i64 h))), (1, .v (.sl es)), (4, .ptr 4 0), (6, .v (.sl ES)), (10, .own 31 (m + 1 + 1)), (11, .v (.p (.int .i64 ((m : Int) + 1 + 1))))] [(4, var0), (31, .lst 4 47 ((X ++ [S (m + 1) / (((m : Int) + 1 : Int) : Rat)]).map encQ))] 109 true) (by omega) (by exact entA) ⟨m + 1, rfl, hlt, by rw [hpn]; rfl⟩
    · obtain rfl : m = N := by omega
      have hb : decide ((m : Int) + 1 ≤ (es.length : Int)) = false := by simp; omega
      refine goA ?_
      exact midQ_intro (by exact entA) rfl
  rintro _ rfl
  have hl2 := prc_len L N
  have hXN := hX N (Nat.le_refl N)
  generalize prc L N = X at *
  have hbuild := build_p (s := h) (isL_enc hXN) (by omega) (by omega) (by omega) (by omega)
  rw [serE_eq] at hbuild
  have hx0 : (X.map encQ).length = N + 1 := by rw [List.length_map, hl2]
  refine T.weak (s' := mkS [(0, .v (.p (.int .i64 h))), (4, .ptr 4 0), (10, .v (.sl (X.map encQ)))] [(4, var0)] 109 true) (by exact entA) ?_
  refine goA ?_
  refine evG ggA (ss_call (InB_of rfl) rfl rfl hbuild) ?_
  refine goA ?_
  exact rfl
end Ab
namespace Ab
open Go Go.RowKit Go.Proofs Hp
set_option maxRecDepth 100000

set_option maxHeartbeats 4000000 in
theorem sums33_p {es : List AV} {c : List Rat} {K : Nat} (hL : IsL es K c) (hl : c.length ≤ 14) (hK : 1 ≤ K ∧ K ≤ 10000000000) : PC Tryz.prog 77 [.sl es] (.sl ((sgs c c.length).map encQ)) := by
  have hle := hL.get.1
  have hcl := isL_ht hL hK.1
  generalize hN : c.length = N at *
  have cz := q_p 0 (by decide) (by decide)
  rw [show ((0 : Int) : Rat) = 0 from rfl] at cz
  have hsgh : ∀ i d, d ≤ N → Ht (sg c i d) 200000000000 := fun i d hd => (ht_sg hK.1 hcl d (by omega)).mono (by
    have : d * (K + 2) ≤ 14 * (K + 2) := Nat.mul_le_mul_right _ (by omega)
    omega)
  have hsgs : ∀ i d, sg c i (d + 1) = if (i + 1) % (d + 1) = 0 then sg c i d + (((d : Int) + 1 : Int) : Rat) * c.getD d 0 else sg c i d := fun i d => rfl
  have hsg0 : ∀ i, sg c i 0 = 0 := fun i => rfl
  have hss : ∀ m, sgs c (m + 1) = sgs c m ++ [sg c m (m + 1)] := fun m => tk_succ _ m
  have hsl : ∀ m, (sgs c m).length = m := sgs_len c
  have hs0 : sgs c 0 = [] := rfl
  generalize sg c = SG at *
  generalize sgs c = SS at *
  refine pc_body1 true Tryz.func77 rfl rfl rfl (Nat.le_of_ble_eq_true rfl) CellT.tmp ?_
  refine r1A ?_
  refine T.seq ?_
  refine regA ?_
  refine runA ?_
  refine ev_nil ?_
  refine seqQ_n ?_
  refine T.seqI (fun s1 => s1 = mkS [(3, .own 100 N)] [(100, .lst 4 47 ((SS N).map encQ))] 38 true) ?_ ?_
  · refine r1A ?_
    refine T.block ?_
    refine T.loop (fun n s1 => ∃ m : Nat, n = N - m ∧ m ≤ N ∧ s1 = mkS [(0, .v (.sl es)), (3, .own 100 m), (4, .v (.p (.int .i64 ((m : Int) + 1))))] [(100, .lst 4 47 ((SS m).map encQ))] 38 true) N
      (s' := mkS [(0, .v (.sl es)), (3, .own 100 0), (4, .v (.p (.int .i64 1)))] [(100, .lst 4 47 [])] 38 true) (by exact entA) ⟨0, rfl, Nat.zero_le _, by rw [hs0]; rfl⟩ ?_
    rintro n _ ⟨m, rfl, hm, rfl⟩
    by_cases hlt : m < N
    · have hb : decide ((m : Int) + 1 ≤ (es.length : Int)) = true := by simp; omega
      refine T.seqI (fun s1 => s1 = mkS [(0, .v (.sl es)), (3, .own 100 m), (4, .v (.p (.int .i64 ((m : Int) + 1))))] [(100, .lst 4 47 ((SS m).map encQ))] 38 true) ?_ ?_
      · refine goA ?_
        exact midQ_intro (by exact entA) rfl
      rintro _ rfl
      refine T.seq ?_
      refine T.block ?_
      refine T.seqI (fun s1 => s1 = mkS [(0, .v (.sl es)), (3, .own 100 m), (4, .v (.p (.int .i64 ((m : Int) + 1)))), (5, .ptr 5 0)] [(5, qvar (SG m 0)), (100, .lst 4 47 ((SS m).map encQ))] 38 true) ?_ ?_
      · refine goA ?_
        refine evG ggA (ss_call (InB_of rfl) rfl rfl cz) ?_
        refine goA ?_
        exact midQ_intro (s' := mkS [(0, .v (.sl es)), (3, .own 100 m), (4, .v (.p (.int .i64 ((m : Int) + 1)))), (5, .ptr 5 0)] [(5, qvar 0), (100, .lst 4 47 ((SS m).map encQ))] 38 true) (by exact entA) (by rw [hsg0])
      rintro _ rfl
      refine T.seqI (fun s1 => s1 = mkS [(0, .v (.sl es)), (3, .own 100 m), (4, .v (.p (.int .i64 ((m : Int) + 1)))), (5, .ptr 5 0)] [(5, qvar (SG m (m + 1))), (100, .lst 4 47 ((SS m).map encQ))] 38 true) ?_ ?_
      · refine r1A ?_
        refine T.block ?_
        refine T.loop (fun n s1 => ∃ j : Nat, n = m + 1 - j ∧ j ≤ m + 1 ∧ s1 = mkS [(0, .v (.sl es)), (3, .own 100 m), (4, .v (.p (.int .i64 ((m : Int) + 1)))), (5, .ptr 5 0), (6, .v (.p (.int .i64 ((j : Int) + 1))))] [(5, qvar (SG m j)), (100, .lst 4 47 ((SS m).map encQ))] 38 true) (m + 1)
          (s' := mkS [(0, .v (.sl es)), (3, .own 100 m), (4, .v (.p (.int .i64 ((m : Int) + 1)))), (5, .ptr 5 0), (6, .v (.p (.int .i64 1)))] [(5, qvar (SG m 0)), (100, .lst 4 47 ((SS m).map encQ))] 38 true) (by exact entA) ⟨0, rfl, Nat.zero_le _, rfl⟩ ?_
        rintro n _ ⟨j, rfl, hj, rfl⟩
        by_cases hjm : j < m + 1
        · have hb2 : decide ((j : Int) + 1 ≤ (m : Int) + 1) = true := by simp; omega
          have hrb := rem_b m j
          have hcej := hsgs m j
          by_cases hd : (m + 1) % (j + 1) = 0
          · rw [decide_eq_true hd] at hrb
            rw [if_pos hd] at hcej
            obtain ⟨y, ys, y', ys', q1, n0, hq1, v1⟩ := hL.at (i := j) (by omega)
            have g1 : c.getD j 0 = q1 := by rw [List.getD_eq_getElem?_getD, hq1]; rfl
            have n1 : es[((j : Int) + 1 - 1).toNat]? = some (.agg [.p (.bool y), .sl ys, .p (.bool y'), .sl ys']) := by rw [show ((j : Int) + 1 - 1).toNat = j by omega]; exact n0
            have t1 := hcl q1 (List.mem_of_getElem? hq1)
            have cj := q_p ((j : Int) + 1) (by omega) (by omega)
            have htj := ht_n j (by omega)
            have c3 : PC Tryz.prog 55 _ _ := (refmul2_p (isV_encQ htj) v1 (by omega)).up
            have c4 : PC Tryz.prog 54 _ _ := (refadd2_p (isV_encQ (hsgh m j (by omega))) (isV_encQ (ht_mul htj t1 (Nat.le_refl 1))) (by omega) (by omega) (by omega)).up
            rw [← g1, ← hcej, g1] at c4
            clear hsgh hsgs hsg0 hss hsl hs0 hcl
            refine goA ?_
            refine evG ggA (ss_div (InB_of rfl) rfl rfl (by omega) rfl) ?_
            refine goA ?_
            refine evG ggA (ss_call (InB_of rfl) rfl rfl cj) ?_
            refine goA ?_
            refine evG ggA (ss_index_sl (InB_of rfl) (elem_tab rfl) rfl rfl (by omega) n1 rfl) ?_
            refine goA ?_
            refine evG ggA (ss_call (InB_of rfl) rfl rfl c3) ?_
            refine evG ggA (ss_call (InB_of rfl) rfl rfl c4) ?_
            refine goA ?_
            exact loopQ_intro (k := m + 1 - (j + 1)) (s' := mkS [(0, .v (.sl es)), (3, .own 100 m), (4, .v (.p (.int .i64 ((m : Int) + 1)))), (5, .ptr 5 0), (6, .v (.p (.int .i64 ((j : Int) + 1 + 1))))] [(5, qvar (SG m (j + 1))), (100, .lst 4 47 ((SS m).map encQ))] 38 true) (by omega) (by exact entA) ⟨j + 1, rfl, by omega, rfl⟩
          · rw [decide_eq_false hd] at hrb
            rw [if_neg hd] at hcej
            clear hsgh hsgs hsg0 hss hsl hs0 hcl
            refine goA ?_
            refine evG ggA (ss_div (InB_of rfl) rfl rfl (by omega) rfl) ?_
            refine goA ?_
            exact loopQ_intro (k := m + 1 - (j + 1)) (s' := mkS [(0, .v (.sl es)), (3, .own 100 m), (4, .v (.p (.int .i64 ((m : Int) + 1)))), (5, .ptr 5 0), (6, .v (.p (.int .i64 ((j : Int) + 1 + 1))))] [(5, qvar (SG m j)), (100, .lst 4 47 ((SS m).map encQ))] 38 true) (by omega) (by exact entA) ⟨j + 1, rfl, by omega, by rw [hcej]; rfl⟩
        · obtain rfl : j = m + 1 := by omega
          have hb2 : decide (((m + 1 : Nat) : Int) + 1 ≤ (m : Int) + 1) = false := by simp; omega
          clear hsgh hsgs hsg0 hss hsl hs0 hcl
          refine goA ?_
          exact midQ_intro (by exact entA) rfl
      rintro _ rfl
      have hx1 := hsl m
      have hsm := hss m
      clear hsgh hsgs hsg0 hss hsl hs0 hcl
      refine goA ?_
      (refine evG ggA (ss_bslice (InB_of rfl) (make_tab rfl) rfl rfl rfl rfl (one_ok rfl rfl) (Nat.le_of_ble_eq_true rfl)) ?_; refine evG ggA (ss_snoc (InB_of rfl) (make_tab rfl) rfl rfl (by first | rfl | assumption | (simp; done) | (simp; omega)) rfl (by omega) (Nat.le_of_ble_eq_true rfl) rfl) ?_)
      refine goA ?_
      exact loopQ_intro (k := N - (m + 1)) (s' := mkS [(0, .v (.sl es)), (3, .own 100 (m + 1)), (4, .v (.p (.int .i64 ((m : Int) + 1 + 1))))] [(100, .lst 4 47 ((SS m ++ [SG m (m + 1)]).map encQ))] 38 true) (by omega) (by exact entA) ⟨m + 1, rfl, hlt, by rw [hsm]; rfl⟩
    · obtain rfl : m = N := by omega
      have hb : decide ((m : Int) + 1 ≤ (es.length : Int)) = false := by simp; omega
      refine goA ?_
      exact midQ_intro (by exact entA) rfl
  rintro _ rfl
  have hx0 : ((SS N).map encQ).length = N := by rw [List.length_map, hsl]
  refine T.weak (s' := mkS [(3, .v (.sl ((SS N).map encQ)))] [] 38 true) (by exact entA) ?_
  refine goA ?_
  exact rfl
set_option maxHeartbeats 8000000 in
theorem rprod_p {h : Int} {es : List AV} {c : List Rat} {K P Q : Nat} (hL0 : PV h es.length = true → IsL es K c ∧ c.length ≤ 14) (hle : es.length = c.length) (h0 : -9223372036854775808 ≤ h) (h1 : h ≤ 9223372036854775807) (hn : es.length ≤ 9223372036854775807) (hK : 1 ≤ K ∧ K ≤ 10000000000) (hP : 1 ≤ P ∧ P ≤ 8000000000) (hQ : 1 ≤ Q ∧ Q ≤ 8000000000)
    (hS : PV h es.length = true → ∀ q, q ∈ sgs c c.length → Ht q P) (hX : PV h es.length = true → ∀ m, m ≤ c.length → ∀ q, q ∈ prc (sgs c c.length) m → Ht q Q) : PC Tryz.prog 36 [.p (.int .i64 h), .sl es] (serE (prodR h c)) := by
  rw [serE_eq]
  unfold prodR
  rw [← hle]
  by_cases a0 : -100 ≤ h
  case neg =>
    have e : PV h es.length = false := by unfold PV; simp [a0]
    rw [e]
    have hb : decide (h < -100) = true := by simp; omega
    refine pc_body2 true Tryz.func36 rfl rfl rfl (Nat.le_of_ble_eq_true rfl) (CellT.agg agg_ser) CellT.tmp ?_
    refine goA ?_
    exact rfl
  have hb0 : decide (h < -100) = false := by simp; omega
  by_cases a1 : h ≤ 1000
  case neg =>
    have e : PV h es.length = false := by unfold PV; simp [a1]
    rw [e]
    have hb : decide (h > 1000) = true := by simp; omega
    refine pc_body2 true Tryz.func36 rfl rfl rfl (Nat.le_of_ble_eq_true rfl) (CellT.agg agg_ser) CellT.tmp ?_
    refine goA ?_
    exact rfl
  have hb1 : decide (h > 1000) = false := by simp; omega
  by_cases a2 : (es.length : Int) ≤ 1000 - h - 1
  case neg =>
    have e : PV h es.length = false := by unfold PV; simp [a2]
    rw [e]
    have hb : decide ((es.length : Int) > 1000 - h - 1) = true := by simp; omega
    refine pc_body2 true Tryz.func36 rfl rfl rfl (Nat.le_of_ble_eq_true rfl) (CellT.agg agg_ser) CellT.tmp ?_
    refine goA ?_
    exact rfl
  have hb2 : decide ((es.length : Int) > 1000 - h - 1) = false := by simp; omega
  have e : PV h es.length = true := by unfold PV; simp [a0, a1, a2]
  obtain ⟨hL, hl14⟩ := hL0 e
  have hS := hS e
  have hX := hX e
  rw [e]
  simp only [if_true]
  clear hL0 e
  rw [hle]
  have csu := sums33_p hL hl14 hK
  generalize hN : c.length = N at *
  have hsl := sgs_len c N
  have c1 := q_p 1 (by decide) (by decide)
  rw [show ((1 : Int) : Rat) = 1 from rfl] at c1
  have cz := q_p 0 (by decide) (by decide)
  rw [show ((0 : Int) : Rat) = 0 from rfl] at cz
  generalize hLL : sgs c N = L at *
  refine pc_body2 true Tryz.func36 rfl rfl rfl (Nat.le_of_ble_eq_true rfl) (CellT.agg agg_ser) CellT.tmp ?_
  refine r1A ?_
  refine T.seqI (fun s1 => s1 = mkS [(0, .v (.p (.int .i64 h))), (1, .v (.sl es)), (4, .ptr 4 0)] [(4, var0)] 68 true) ?_ ?_
  · refine goA ?_
    exact midQ_intro (by exact entA) rfl
  rintro _ rfl
  refine T.seqI (fun s1 => s1 = mkS [(0, .v (.p (.int .i64 h))), (1, .v (.sl es)), (4, .ptr 4 0), (6, .v (.sl (L.map encQ)))] [(4, var0)] 68 true) ?_ ?_
  · refine goA ?_
    refine evG ggA (ss_call (InB_of rfl) rfl rfl csu) ?_
    refine goA ?_
    exact midQ_intro (by exact entA) rfl
  rintro _ rfl
  refine T.seq ?_
  refine regA ?_
  refine runA ?_
  refine evG ggA (ss_call (InB_of rfl) rfl rfl c1) ?_
  refine runA ?_
  refine evG ggA (ss_bslice_own 31 (InB_of rfl) rfl (make_tab rfl) rfl rfl rfl rfl (one_ok rfl rfl) (Nat.le_of_ble_eq_true rfl) (by decide) (fun _ a ha => by rw [List.mem_singleton] at ha; subst ha; exact encQ_nu 1)) ?_
  refine runA ?_
  refine ev_nil ?_
  refine seqQ_n ?_
  have hL0 : ∀ q, q ∈ (0 :: L) → Ht q P := fun q hq => by
    rcases List.mem_cons.1 hq with rfl | hq
    · exact ht0 hP.1
    · exact hS q hq
  refine T.seqI (fun s1 => s1 = mkS [(0, .v (.p (.int .i64 h))), (4, .ptr 4 0), (7, .own 31 (N + 1))] [(4, var0), (31, .lst 4 47 ((prc L N).map encQ))] 68 true) ?_ ?_
  · refine r1A ?_
    refine T.block ?_
    refine T.loop (fun n s1 => ∃ m : Nat, n = N - m ∧ m ≤ N ∧ s1 = mkS [(0, .v (.p (.int .i64 h))), (1, .v (.sl es)), (4, .ptr 4 0), (6, .v (.sl (L.map encQ))), (7, .own 31 (m + 1)), (8, .v (.p (.int .i64 ((m : Int) + 1))))] [(4, var0), (31, .lst 4 47 ((prc L m).map encQ))] 68 true) N
      (s' := mkS [(0, .v (.p (.int .i64 h))), (1, .v (.sl es)), (4, .ptr 4 0), (6, .v (.sl (L.map encQ))), (7, .own 31 1), (8, .v (.p (.int .i64 1)))] [(4, var0), (31, .lst 4 47 (([1] : List Rat).map encQ))] 68 true) (by exact entA) ⟨0, rfl, Nat.zero_le _, rfl⟩ ?_
    rintro n _ ⟨m, rfl, hm, rfl⟩
    by_cases hlt : m < N
    · have hb : decide ((m : Int) + 1 ≤ (es.length : Int)) = true := by simp; omega
      have hXm := hX m hm
      have hpl := prc_len L m
      have hpn : prc L (m + 1) = prc L m ++ [-(iss (0 :: L) (prc L m) (m + 1) (m + 1)) / (((m : Int) + 1 : Int) : Rat)] := rfl
      generalize hXX : prc L m = X at *
      have hih := ht_iss2 hP.1 hQ.1 hL0 hXm (m + 1)
      have hihb : ∀ j, j ≤ m + 1 → Ht (iss (0 :: L) X (m + 1) j) 240000000000 := fun j hj => (hih j).mono (by
        have : j * (P + Q + 1) ≤ 14 * (P + Q + 1) := Nat.mul_le_mul_right _ (by omega)
        omega)
      have hse : ∀ j, iss (0 :: L) X (m + 1) (j + 1) = iss (0 :: L) X (m + 1) j + L.getD j 0 * X.getD (m - j) 0 := fun j => by
        show iss (0 :: L) X (m + 1) j + L.getD j 0 * X.getD (m + 1 - (j + 1)) 0 = _
        rw [show m + 1 - (j + 1) = m - j by omega]
      have hs0 : iss (0 :: L) X (m + 1) 0 = 0 := rfl
      clear hih
      generalize iss (0 :: L) X (m + 1) = S at *
      refine T.seqI (fun s1 => s1 = mkS [(0, .v (.p (.int .i64 h))), (1, .v (.sl es)), (4, .ptr 4 0), (6, .v (.sl (L.map encQ))), (7, .own 31 (m + 1)), (8, .v (.p (.int .i64 ((m : Int) + 1))))] [(4, var0), (31, .lst 4 47 (X.map encQ))] 68 true) ?_ ?_
      · refine goA ?_
        exact midQ_intro (by exact entA) rfl
      rintro _ rfl
      refine T.seq ?_
      refine T.block ?_
      refine T.seqI (fun s1 => s1 = mkS [(0, .v (.p (.int .i64 h))), (1, .v (.sl es)), (4, .ptr 4 0), (6, .v (.sl (L.map encQ))), (7, .own 31 (m + 1)), (8, .v (.p (.int .i64 ((m : Int) + 1)))), (9, .ptr 9 0)] [(4, var0), (9, qvar (S 0)), (31, .lst 4 47 (X.map encQ))] 68 true) ?_ ?_
      · refine goA ?_
        refine evG ggA (ss_call (InB_of rfl) rfl rfl cz) ?_
        refine goA ?_
        exact midQ_intro (s' := mkS [(0, .v (.p (.int .i64 h))), (1, .v (.sl es)), (4, .ptr 4 0), (6, .v (.sl (L.map encQ))), (7, .own 31 (m + 1)), (8, .v (.p (.int .i64 ((m : Int) + 1)))), (9, .ptr 9 0)] [(4, var0), (9, qvar 0), (31, .lst 4 47 (X.map encQ))] 68 true) (by exact entA) (by rw [hs0])
      rintro _ rfl
      refine T.seqI (fun s1 => s1 = mkS [(0, .v (.p (.int .i64 h))), (1, .v (.sl es)), (4, .ptr 4 0), (6, .v (.sl (L.map encQ))), (7, .own 31 (m + 1)), (8, .v (.p (.int .i64 ((m : Int) + 1)))), (9, .ptr 9 0)] [(4, var0), (9, qvar (S (m + 1))), (31, .lst 4 47 (X.map encQ))] 68 true) ?_ ?_
      · refine r1A ?_
        refine T.block ?_
        refine T.loop (fun n s1 => ∃ j : Nat, n = m + 1 - j ∧ j ≤ m + 1 ∧ s1 = mkS [(0, .v (.p (.int .i64 h))), (1, .v (.sl es)), (4, .ptr 4 0), (6, .v (.sl (L.map encQ))), (7, .own 31 (m + 1)), (8, .v (.p (.int .i64 ((m : Int) + 1)))), (9, .ptr 9 0), (10, .v (.p (.int .i64 ((j : Int) + 1))))] [(4, var0), (9, qvar (S j)), (31, .lst 4 47 (X.map encQ))] 68 true) (m + 1)
          (s' := mkS [(0, .v (.p (.int .i64 h))), (1, .v (.sl es)), (4, .ptr 4 0), (6, .v (.sl (L.map encQ))), (7, .own 31 (m + 1)), (8, .v (.p (.int .i64 ((m : Int) + 1)))), (9, .ptr 9 0), (10, .v (.p (.int .i64 1)))] [(4, var0), (9, qvar (S 0)), (31, .lst 4 47 (X.map encQ))] 68 true) (by exact entA) ⟨0, rfl, Nat.zero_le _, rfl⟩ ?_
        rintro n _ ⟨j, rfl, hj, rfl⟩
        by_cases hjm : j < m + 1
        · have hb3 : decide ((j : Int) + 1 ≤ (m : Int) + 1) = true := by simp; omega
          obtain ⟨q1, hq1⟩ : ∃ q, L[j]? = some q := ⟨_, List.getElem?_eq_getElem (by omega)⟩
          have g1 : L.getD j 0 = q1 := by rw [List.getD_eq_getElem?_getD, hq1]; rfl
          have n1 : (L.map encQ)[((j : Int) + 1 - 1).toNat]? = some (encQ q1) := by rw [show ((j : Int) + 1 - 1).toNat = j by omega]; exact enc_at hq1
          obtain ⟨q2, hq2⟩ : ∃ q, X[m - j]? = some q := ⟨_, List.getElem?_eq_getElem (by omega)⟩
          have g2 : X.getD (m - j) 0 = q2 := by rw [List.getD_eq_getElem?_getD, hq2]; rfl
          have n2 : (X.map encQ)[((m : Int) + 1 - ((j : Int) + 1)).toNat]? = some (encQ q2) := by rw [show ((m : Int) + 1 - ((j : Int) + 1)).toNat = m - j by omega]; exact enc_at hq2
          have t1 := hS q1 (List.mem_of_getElem? hq1)
          have t2 := hXm q2 (List.mem_of_getElem? hq2)
          have hx0 : (X.map encQ).length = m + 1 := by rw [List.length_map, hpl]
          have c3 : PC Tryz.prog 55 _ _ := (refmul2_p (isV_encQ t1) (isV_encQ t2) (by omega)).up
          have c4 : PC Tryz.prog 54 _ _ := (refadd2_p (isV_encQ (hihb j hj)) (isV_encQ (ht_mul t1 t2 hP.1)) (by omega) (by omega) (by omega)).up
          rw [← g1, ← g2, ← hse j, g1, g2] at c4
          clear hS hX hXm hihb hse hL0
          refine goA ?_
          refine evG ggA (ss_index_sl (InB_of rfl) (elem_tab rfl) rfl rfl (by omega) n1 rfl) ?_
          refine goA ?_
          refine evG ggA (ss_index_own (InB_of rfl) (elem_tab rfl) rfl rfl hx0 rfl (by omega) (by omega)) ?_
          refine evG ggA (ss_load_opagg (InB_of rfl) (agg_tab rfl) rfl rfl hx0 n2) ?_
          refine evG ggA (ss_call (InB_of rfl) rfl rfl c3) ?_
          refine evG ggA (ss_call (InB_of rfl) rfl rfl c4) ?_
          refine goA ?_
          exact loopQ_intro (k := m + 1 - (j + 1)) (s' := mkS [(0, .v (.p (.int .i64 h))), (1, .v (.sl es)), (4, .ptr 4 0), (6, .v (.sl (L.map encQ))), (7, .own 31 (m + 1)), (8, .v (.p (.int .i64 ((m : Int) + 1)))), (9, .ptr 9 0), (10, .v (.p (.int .i64 ((j : Int) + 1 + 1))))] [(4, var0), (9, qvar (S (j + 1))), (31, .lst 4 47 (X.map encQ))] 68 true) (by omega) (by exact entA) ⟨j + 1, rfl, by omega, rfl⟩
        · obtain rfl : j = m + 1 := by omega
          have hb3 : decide (((m + 1 : Nat) : Int) + 1 ≤ (m : Int) + 1) = false := by simp; omega
          clear hS hX hXm hihb hse hL0
          refine goA ?_
          exact midQ_intro (by exact entA) rfl
      rintro _ rfl
      have htn := ht_n m (by omega)
      have cfr := frac_p (-1) (.inr rfl) m (by omega)
      have tfr : Ht (((-1 : Int) : Rat) / (((m : Int) + 1 : Int) : Rat)) 2 := ht_dv (k := 1) (l := 1) (ht_int (c := -1) (by decide)) htn (Nat.le_refl 1) (Nat.le_refl 1)
      have c6 : PC Tryz.prog 55 _ _ := (refmul2_p (isV_encQ tfr) (isV_encQ (hihb (m + 1) (Nat.le_refl _))) (by omega)).up
      have hdv : ((-1 : Int) : Rat) / (((m : Int) + 1 : Int) : Rat) * S (m + 1) = -(S (m + 1)) / (((m : Int) + 1 : Int) : Rat) := by
        rw [show ((-1 : Int) : Rat) = -1 from rfl, Rat.div_def, Rat.div_def, Rat.neg_mul, Rat.one_mul, Rat.neg_mul, Rat.neg_mul, Rat.mul_comm]
      rw [hdv] at c6
      have hx0 : (X.map encQ).length = m + 1 := by rw [List.length_map, hpl]
      clear hS hX hXm hihb hse hL0
      refine goA ?_
      refine evG ggA (ss_call (InB_of rfl) rfl rfl cfr) ?_
      refine goA ?_
      refine evG ggA (ss_call (InB_of rfl) rfl rfl c6) ?_
      (refine evG ggA (ss_bslice (InB_of rfl) (make_tab rfl) rfl rfl rfl rfl (one_ok rfl rfl) (Nat.le_of_ble_eq_true rfl)) ?_; refine evG ggA (ss_snoc (InB_of rfl) (make_tab rfl) rfl rfl (by first | rfl | assumption | (simp; done) | (simp; omega)) rfl (by omega) (Nat.le_of_ble_eq_true rfl) rfl) ?_)
      refine goA ?_
      exact loopQ_intro (k := N - (m + 1)) (s' := mkS [(0, .v (.p (.int .i64 h))), (1, .v (.sl es)), (4, .ptr 4 0), (6, .v (.sl (L.map encQ))), (7, .own 31 (m + 1 + 1)), (8, .v (.p (.int .i64 ((m : Int) + 1 + 1))))] [(4, var0), (31, .lst 4 47 ((X ++ [-(S (m + 1)) / (((m : Int) + 1 : Int) : Rat)]).map encQ))] 68 true) (by omega) (by exact entA) ⟨m + 1, rfl, hlt, by rw [hpn]; rfl⟩
    · obtain rfl : m = N := by omega
      have hb : decide ((m : Int) + 1 ≤ (es.length : Int)) = false := by simp; omega
      refine goA ?_
      exact midQ_intro (by exact entA) rfl
  rintro _ rfl
  have hl2 := prc_len L N
  have hXN := hX N (Nat.le_refl N)
  generalize prc L N = X at *
  have hbuild := result_p (s := h) (isL_enc hXN) (by omega) (by omega) (by omega) (by omega)
  rw [serE_eq] at hbuild
  have hx0 : (X.map encQ).length = N + 1 := by rw [List.length_map, hl2]
  refine T.weak (s' := mkS [(0, .v (.p (.int .i64 h))), (4, .ptr 4 0), (7, .v (.sl (X.map encQ)))] [(4, var0)] 68 true) (by exact entA) ?_
  refine goA ?_
  refine evG ggA (ss_call (InB_of rfl) rfl rfl hbuild) ?_
  refine goA ?_
  exact rfl
end Ab
namespace Ab
open Go Go.RowKit Go.Proofs Hp
set_option maxRecDepth 100000

/-- operations passed over since their guard was itself passed over -/
def SkipL (ops : Array Oper) : List Oper → AS → AS → Prop
  | [], s, s' => s' = s
  | o :: r, s, s' => (∃ j want d, o.guard = some (j, want) ∧ (ops[j]?).bind (·.dst) = some d ∧ s.t d = some (.v (.tup [])) ∧ InB s o.dst) ∧ SkipL ops r (s.act o.dst (.v (.tup [])) .none) s'
theorem skip_wpList {dm : Bool} {P : Program} {ops : Array Oper} {w0 : World} {M0 : Nat → Prop} (hM : OKM dm M0 w0) {K : AS → Prop} {Q : Exit → Act → World → Prop} (hK : ∀ s a w, K s → Rel w0 M0 s a w → Q .normal a w) (l3 : List Oper) :
    ∀ (l : List Oper) (s s' : AS) (a : Act) (w : World), SkipL ops l s s' → EvL dm P ops l3 s' K → Rel w0 M0 s a w → wpList P ops Q (l ++ l3) a w
  | [], s, s', a, w, h, h3, hr => by
    have h : s' = s := h
    subst h
    exact evL_wpList hM hK l3 s' a w h3 hr
  | o :: r, s, s', a, w, h, h3, hr => by
    obtain ⟨⟨j, want, d, hg, hd, ht, hin⟩, h2⟩ := h
    refine wpList_step fun K' hK' => ?_
    obtain ⟨ρ, hr'⟩ := hr
    obtain ⟨v, h4, h5⟩ := hr'.tmps d _ ht
    obtain ⟨vs, rfl, -, -⟩ := tup_inv h5
    have hy : yielded ops a.tmps j = none := by simp [yielded, hd, h4]
    have hw : ¬ Region.wanted o (yielded ops a.tmps) = true := by simp [Region.wanted, hg, hy]
    rw [if_neg hw]
    exact hK' _ _ (skip_wpList hM hK l3 r _ s' _ w h2 h3 ⟨ρ, hr'.put hin (rep_undef _ _)⟩)
theorem evL_skip {dm : Bool} {P : Program} {ops : Array Oper} {w0 : World} {M0 : Nat → Prop} (hM : OKM dm M0 w0) {K : AS → Prop} {Q : Exit → Act → World → Prop} (hK : ∀ s a w, K s → Rel w0 M0 s a w → Q .normal a w) (l2 l3 : List Oper) :
    ∀ (l : List Oper) (s : AS) (a : Act) (w : World), EvL dm P ops l s (fun s1 => ∃ s2, SkipL ops l2 s1 s2 ∧ EvL dm P ops l3 s2 K) → Rel w0 M0 s a w → wpList P ops Q (l ++ (l2 ++ l3)) a w
  | [], s, a, w, h, hr => by
    obtain ⟨s2, he, h⟩ := h
    exact skip_wpList hM hK l3 l2 s s2 a w he h hr
  | o :: r, s, a, w, h, hr => by
    obtain ⟨x, e, h1, h2⟩ := h
    refine wpList_step fun K' hK' => ?_
    exact stepG_wp h1 (Agree.refl _ _ _) (fun id b he => ((stepG_effs h1).1 id b he).2) hM hr K' Q (fun a' w' hr' => hK' a' w' (evL_skip hM hK l2 l3 r _ a' w' h2 hr'))
/-- a region in the order of the text; the k operations from op n on are passed over -/
theorem T.regionS {dm : Bool} {P : Program} {id : Nat} {l : List Oper} {s : AS} {Q : Exit → AS → Prop} (n k : Nat) (h : EvL dm P l.toArray (l.take n) s (fun s1 => ∃ s2, SkipL l.toArray ((l.drop n).take k) s1 s2 ∧ EvL dm P l.toArray ((l.drop n).drop k) s2 (Q .normal))) : T dm P (.region id l.toArray false) s Q := fun w0 M0 hM a w hr => by
  have h1 := evL_skip hM (Q := fun x a' w' => ∃ s', Q x s' ∧ Rel w0 M0 s' a' w') (fun s' a' w' h1 h2 => ⟨s', h1, h2⟩) ((l.drop n).take k) ((l.drop n).drop k) (l.take n) s a w h hr
  rw [List.take_append_drop, List.take_append_drop] at h1
  exact wp_region_lit h1
theorem skip1 {ops : Array Oper} {o : Oper} {r : List Oper} {s s' : AS} {j d : Nat} {want : Bool} (hg : o.guard = some (j, want)) (hd : (ops[j]?).bind (·.dst) = some d) (ht : s.t d = some (.v (.tup []))) (hin : inbB s o.dst = true) (h : SkipL ops r (s.act o.dst (.v (.tup [])) .none) s') : SkipL ops (o :: r) s s' := ⟨⟨j, want, d, hg, hd, ht, InB_of hin⟩, h⟩
theorem ht_prc {L : List Rat} {P : Nat} (hP : 1 ≤ P) (hL : ∀ q, q ∈ L → Ht q P) : ∀ m, m ≤ 23 → ∀ i, i < m + 1 → Ht ((prc L m).getD i 0) (HB P i)
  | 0, _, i, h => by
    obtain rfl : i = 0 := by omega
    exact (ht_int (c := 1) (by decide)).mono (by have : HB P 0 = 26 * (P + 2) * 1 := rfl; omega)
  | m + 1, hm, i, h => by
    have ih := ht_prc hP hL m (by omega)
    have hl := prc_len L m
    rw [prc, getD_snoc, hl]
    by_cases hi : i < m + 1
    · rw [if_pos hi]; exact ih i hi
    · obtain rfl : i = m + 1 := by omega
      rw [if_neg hi, if_pos rfl]
      have hL0 : ∀ q, q ∈ (0 :: L) → Ht q P := fun q hq => by
        rcases List.mem_cons.1 hq with rfl | hq
        · exact ht0 hP
        · exact hL q hq
      have key := ht_iss hP hL0 (x := prc L m) (k := m + 1) ih (m + 1) (Nat.le_refl _)
      refine (ht_dv (ht_neg key) (ht_n m (by omega)) (by omega) (Nat.le_refl 1)).mono ?_
      rw [Nat.sub_self]
      have e0 : HB P 0 = 26 * (P + 2) * 1 := rfl
      have hmo := HB_mono P (Nat.zero_le (m + 1))
      have hmul : (m + 1) * (P + 1) ≤ 23 * (P + 1) := Nat.mul_le_mul_right _ (by omega)
      omega
theorem mem_ht {l : List Rat} {n B : Nat} (hl : l.length = n) (h : ∀ i, i < n → Ht (l.getD i 0) B) : ∀ q, q ∈ l → Ht q B := fun q hq => by
  obtain ⟨i, hi⟩ := List.getElem?_of_mem hq
  have hil : i < n := by rw [← hl]; exact (List.getElem?_eq_some_iff.1 hi).1
  have := h i hil
  rw [List.getD_eq_getElem?_getD, hi] at this
  exact this
theorem prc_mem {L : List Rat} {P : Nat} (hP : 1 ≤ P ∧ P ≤ 100) (hL : ∀ q, q ∈ L → Ht q P) {m : Nat} (hm : m ≤ 14) : ∀ q, q ∈ prc L m → Ht q 44493176 := by
  refine mem_ht (prc_len L m) fun i hi => (ht_prc hP.1 hL m (by omega) i hi).mono ?_
  refine Nat.le_trans (HB_mono P (show i ≤ 14 by omega)) ?_
  have : HB P 14 = 26 * (P + 2) * 16384 := rfl
  omega
theorem sgs_mem {c : List Rat} {K : Nat} (hK : 1 ≤ K) (hc : ∀ q, q ∈ c → Ht q K) {N : Nat} (hN : N ≤ 14) : ∀ q, q ∈ sgs c N → Ht q (1 + 14 * (K + 2)) := fun q hq => by
  obtain ⟨i, hi, rfl⟩ := tk_mem hq
  refine (ht_sg hK hc (i + 1) (by omega)).mono ?_
  have : (i + 1) * (K + 2) ≤ 14 * (K + 2) := Nat.mul_le_mul_right _ (by omega)
  omega
theorem sameQs_p {l : List Rat} {k : Nat} (h : ∀ q, q ∈ l → Ht q k) (hk : k ≤ 4611686018427387904) (hl : l.length ≤ 4611686018427387904) : PC Tryz.prog 37 [.sl (l.map encQ), .sl (l.map encQ)] (.p (.bool true)) := by
  have c := sameRats_p (l.map rq) (l.map rq) (fun r hr => ⟨Nat.le_trans (small_enc h r hr).1 hk, Nat.le_trans (small_enc h r hr).2 hk⟩) (by simpa using hl)
  rw [decide_eq_true rfl, ← encs_raw] at c
  exact c
theorem expoT_ht {s : Int} {l : List Rat} {B : Nat} (h : ValidP s l.length = true → ∀ m, m + 1 ≤ (l.drop (lead l)).length → ∀ q, q ∈ exq (l.drop (lead l)) m → Ht q B) (hl : ValidP s l.length = true → l.length ≤ 1000000) : (∀ q, q ∈ (expoT s l).2.1 → Ht q B) ∧ (expoT s l).2.1.length ≤ 1000000 := by
  unfold expoT
  cases hv : ValidP s l.length with
  | false => exact ⟨fun q hq => by simp at hq, Nat.zero_le _⟩
  | true =>
    simp only [if_true]
    have hll := hl hv
    have h := h hv
    have hd : (l.drop (lead l)).length ≤ l.length := by rw [List.length_drop]; omega
    split
    · exact ⟨fun q hq => by simp at hq, Nat.zero_le _⟩
    · rename_i hne
      have := List.length_pos_iff.2 hne
      split
      · refine ⟨h _ (by omega), ?_⟩
        show (exq _ _).length ≤ _
        rw [exq_len]; omega
      · exact ⟨fun q hq => by simp at hq, Nat.zero_le _⟩
theorem prodR_ht {h : Int} {c : List Rat} {B : Nat} (hB : PV h c.length = true → ∀ q, q ∈ prc (sgs c c.length) c.length → Ht q B) : (∀ q, q ∈ sL (prodR h c) → Ht q B) ∧ (sL (prodR h c)).length ≤ 1000000 := by
  unfold prodR
  cases hv : PV h c.length with
  | false => exact none_ht
  | true =>
    simp only [if_true]
    refine nrm_ht (hB hv) ?_
    rw [prc_len]
    unfold PV at hv
    simp at hv
    omega
set_option maxHeartbeats 4000000 in
theorem exponents_p (a : Ser) (h : Int) (C : List RQ) (ha : SerOK a) (h0 : -9223372036854775808 ≤ h) (h1 : h ≤ 9223372036854775807) (hd : ∀ r, r ∈ C → DigR r) (hn : C.length ≤ maxN) : PC Tryz.prog 7 [serO a, .p (.int .i64 h), .sl (C.map rawA)] (.p (.bool true)) := by
  have g1 := great_p 14 (pr_ok ha).1 (by decide) (pr_ok ha).2
  have hmx : C.length ≤ 9223372036854775807 := hn
  have g2 := long_p 14 (C.map rawA) (fun e he => by obtain ⟨r, -, rfl⟩ := List.mem_map.1 he; exact c4_raw r) (by decide) (by rw [List.length_map]; exact hmx)
  have aw := awake_p
  unfold pr at g1
  have k1 := goodN (n := 14) ha
  have k2 : longB 14 (C.map rawA) = false → IsL (C.map rawA) 4 (C.map ratO) ∧ C.length ≤ 14 := isL_long hd
  have r1 := inR_ser ha
  have le1 : (a.coef.map rawA).length = (a.coef.map ratO).length := by simp
  have le2 : (C.map rawA).length = (C.map ratO).length := by simp
  have le3 : C.length = (C.map rawA).length := by simp
  rw [le3] at k2 hmx
  unfold serO
  simp only at g1 g2
  generalize a.coef.map ratO = l at *
  generalize C.map ratO = c at *
  generalize a.coef.map rawA = es at *
  generalize a.from' = s at *
  generalize C.map rawA = fs at *
  cases hg1 : ValidP s es.length && longB 14 es with
  | true =>
    rw [hg1] at g1
    clear k1 k2
    refine pc_body1 true Tryz.func7 rfl rfl rfl (Nat.le_of_ble_eq_true rfl) CellT.tmp ?_
    refine r1A ?_
    refine T.seq ?_
    refine T.seq ?_
    refine T.regionS 6 3 ?_
    show EvL _ _ _ (_ :: _) _ _
    refine runA ?_
    refine evG ggA (ss_call (InB_of rfl) rfl rfl g1) ?_
    refine runA ?_
    refine ev_nil ?_
    refine ⟨_, skip1 rfl rfl rfl rfl (skip1 rfl rfl rfl rfl (skip1 rfl rfl rfl rfl rfl)), ?_⟩
    show EvL _ _ _ (_ :: _) _ _
    refine goA ?_
    refine evG ggA (ss_call (InB_of rfl) rfl rfl aw) ?_
    refine goA ?_
    exact rfl
  | false =>
  rw [hg1] at g1
  have key : longB 14 fs = true ∧ fs.length ≤ 1100 ∨ (longB 14 fs = true ∧ 1100 < fs.length ∨ longB 14 fs = false) ∧ (PV h fs.length = true → IsL fs 4 c ∧ c.length ≤ 14) := by
    cases hg2 : longB 14 fs with
    | true =>
      by_cases h3 : fs.length ≤ 1100
      · exact .inl ⟨rfl, h3⟩
      · refine .inr ⟨.inl ⟨rfl, by omega⟩, fun hv => ?_⟩
        unfold PV at hv
        simp at hv
        omega
    | false => exact .inr ⟨.inr rfl, fun _ => by rw [← le2]; exact k2 hg2⟩
  rcases key with ⟨hg2, h3⟩ | ⟨hg2, hPV⟩
  · have hb : decide ((fs.length : Int) ≤ 1100) = true := by simp; omega
    rw [hg2] at g2
    clear k1 k2
    refine pc_body1 true Tryz.func7 rfl rfl rfl (Nat.le_of_ble_eq_true rfl) CellT.tmp ?_
    refine goA ?_
    refine evG ggA (ss_call (InB_of rfl) rfl rfl g1) ?_
    refine goA ?_
    refine evG ggA (ss_call (InB_of rfl) rfl rfl g2) ?_
    refine goA ?_
    refine evG ggA (ss_call (InB_of rfl) rfl rfl aw) ?_
    refine goA ?_
    exact rfl
  have k1 := k1 hg1
  have hAh : ValidP s es.length = true → ∀ m, m + 1 ≤ (l.drop (lead l)).length → (∀ q, q ∈ exb (l.drop (lead l)) m → Ht q 1677721600) ∧ (∀ q, q ∈ exq (l.drop (lead l)) m → Ht q 1677721600) := fun hv m hm => by
    obtain ⟨hL, hl14⟩ := k1 hv
    have hld : (l.drop (lead l)).length ≤ l.length := by rw [List.length_drop]; omega
    exact exb_mem (fun q hq => isL_ht hL (by decide) q (List.mem_of_mem_drop hq)) (by omega)
  have p1 := expo_p k1 le1 r1 (by decide) (by decide) hAh
  have p2 := rexpo_p k1 le1 r1 (by decide) (by decide) hAh
  have hS : PV h fs.length = true → ∀ q, q ∈ sgs c c.length → Ht q 85 := fun hv => sgs_mem (K := 4) (by decide) (isL_ht (hPV hv).1 (by decide)) (hPV hv).2
  have hX : PV h fs.length = true → ∀ m, m ≤ c.length → ∀ q, q ∈ prc (sgs c c.length) m → Ht q 44493176 := fun hv m hm => prc_mem (by decide) (hS hv) (by have := (hPV hv).2; omega)
  have p3 := prod_p (P := 85) (Q := 44493176) hPV le2 h0 h1 hmx (by decide) (by decide) (by decide) hS hX
  have p4 := rprod_p (P := 85) (Q := 44493176) hPV le2 h0 h1 hmx (by decide) (by decide) (by decide) hS hX
  have e1 := expoT_ht (s := s) (l := l) (fun hv m hm => (hAh (by rw [le1]; exact hv) m hm).2) (fun hv => by have := (k1 (by rw [le1]; exact hv)).2; omega)
  have e2 := prodR_ht (h := h) (c := c) (fun hv => hX (by rw [le2]; exact hv) _ (Nat.le_refl _))
  have q1 := sameQs_p e1.1 (by decide) (by have := e1.2; omega)
  have q2 := same_p e2.1 (by decide) e2.2
  rw [serE_eq] at p3 p4
  unfold expoA at p1 p2
  generalize prodR h c = R at *
  have b1 : ((expoT s l).1 == (expoT s l).1) = true := by simp
  have b3 : ((expoT s l).2.2 == (expoT s l).2.2) = true := by simp
  generalize (expoT s l).1 = d1 at *
  generalize (expoT s l).2.1 = d2 at *
  generalize (expoT s l).2.2 = d3 at *
  clear k1 hPV hAh hS hX e1 e2 k2
  rcases hg2 with ⟨hg2, h3⟩ | hg2
  · have hb : decide ((fs.length : Int) ≤ 1100) = false := by simp; omega
    rw [hg2] at g2
    refine pc_body1 true Tryz.func7 rfl rfl rfl (Nat.le_of_ble_eq_true rfl) CellT.tmp ?_
    refine goA ?_
    refine evG ggA (ss_call (InB_of rfl) rfl rfl g1) ?_
    refine goA ?_
    refine evG ggA (ss_call (InB_of rfl) rfl rfl g2) ?_
    refine goA ?_
    refine evG ggA (ss_call (InB_of rfl) rfl rfl p1) ?_
    refine goA ?_
    refine evG ggA (ss_call (InB_of rfl) rfl rfl p2) ?_
    refine goA ?_
    refine evG ggA (ss_call (InB_of rfl) rfl rfl p3) ?_
    refine goA ?_
    refine evG ggA (ss_call (InB_of rfl) rfl rfl p4) ?_
    refine goA ?_
    refine evG ggA (ss_call (InB_of rfl) rfl rfl q1) ?_
    refine goA ?_
    refine evG ggA (ss_call (InB_of rfl) rfl rfl q2) ?_
    refine goA ?_
    refine evG ggA (ss_call (InB_of rfl) rfl rfl aw) ?_
    refine goA ?_
    exact rfl
  · rw [hg2] at g2
    refine pc_body1 true Tryz.func7 rfl rfl rfl (Nat.le_of_ble_eq_true rfl) CellT.tmp ?_
    refine goA ?_
    refine evG ggA (ss_call (InB_of rfl) rfl rfl g1) ?_
    refine goA ?_
    refine evG ggA (ss_call (InB_of rfl) rfl rfl g2) ?_
    refine goA ?_
    refine evG ggA (ss_call (InB_of rfl) rfl rfl p1) ?_
    refine goA ?_
    refine evG ggA (ss_call (InB_of rfl) rfl rfl p2) ?_
    refine goA ?_
    refine evG ggA (ss_call (InB_of rfl) rfl rfl p3) ?_
    refine goA ?_
    refine evG ggA (ss_call (InB_of rfl) rfl rfl p4) ?_
    refine goA ?_
    refine evG ggA (ss_call (InB_of rfl) rfl rfl q1) ?_
    refine goA ?_
    refine evG ggA (ss_call (InB_of rfl) rfl rfl q2) ?_
    refine goA ?_
    refine evG ggA (ss_call (InB_of rfl) rfl rfl aw) ?_
    refine goA ?_
    exact rfl
end Ab
