/- Expand of package series, in abstract values. -/
import Derived.Test.YtmcfohngblbpbaaSplC
namespace Ab
open Go Go.RowKit Go.Proofs Hp
set_option maxRecDepth 100000

def expG (l : List Rat) (D : Nat) (i k : Nat) : AV := if k % D = 0 ∧ k / D < i then encQ (l.getD (k / D) 0) else rz
theorem w_mul {i N D : Nat} (hi : i ≤ N) (hN : N ≤ 200000) (hD : D ≤ 1000) : i * D ≤ 200000000 := Nat.le_trans (Nat.mul_le_mul (Nat.le_trans hi hN) hD) (by decide)
set_option maxHeartbeats 4000000 in
theorem expand_p {s d : Int} {es : List AV} {l : List Rat} {K : Nat} (h : ValidP s es.length = true → IsL es K l) (hle : es.length = l.length) (hr : InR s es.length) (hK : 1 ≤ K ∧ K ≤ 268435456) (d0 : -9223372036854775808 ≤ d) (d1 : d ≤ 9223372036854775807) : PC Try.prog 36 [serA s es, .p (.int .i64 d)] (serE (expR s l d)) := by
  obtain ⟨i1, i2, i3⟩ := hr
  have hva := valid_p i1 i2 i3
  have hst := step_p d d0 d1
  rw [serE_eq]
  unfold expR
  rw [← hle]
  cases h1 : ValidP s es.length with
  | false =>
    rw [h1] at hva
    refine pc_body2 true Try.func36 rfl rfl rfl (Nat.le_of_ble_eq_true rfl) (CellT.agg agg_ser) CellT.tmp ?_
    refine goA ?_
    refine evG ggA (ss_call (InB_of rfl) rfl rfl hva) ?_
    refine goA ?_
    exact rfl
  | true =>
  rw [h1] at hva
  cases h2 : (decide (1 ≤ d) && decide (d ≤ 1000)) with
  | false =>
    rw [h2] at hst
    refine pc_body2 true Try.func36 rfl rfl rfl (Nat.le_of_ble_eq_true rfl) (CellT.agg agg_ser) CellT.tmp ?_
    refine goA ?_
    refine evG ggA (ss_call (InB_of rfl) rfl rfl hva) ?_
    refine goA ?_
    refine evG ggA (ss_call (InB_of rfl) rfl rfl hst) ?_
    refine goA ?_
    exact rfl
  | true =>
  rw [h2] at hst
  have hL := h h1
  obtain ⟨a0, a1, a2⟩ := valid_iff.1 h1
  simp only [Bool.and_eq_true, decide_eq_true_eq] at h2
  obtain ⟨hd0, hd1⟩ := h2
  have cti := tidy_p hL (by omega) a0 a1 a2
  have ll := lead_le l
  have hht : ∀ q, q ∈ l.drop (lead l) → Ht q K := fun q hq => isL_ht hL hK.1 q (List.mem_of_mem_drop hq)
  obtain ⟨D, rfl⟩ : ∃ D : Nat, d = D := ⟨d.toNat, by omega⟩
  have hS0 : -100 ≤ s + lead l := by omega
  have hS1 : s + lead l ≤ 1000 := by omega
  have hS2 : s + lead l + ((l.drop (lead l)).length : Int) ≤ 1000 := by simp; omega
  have hEF : ∀ k, expF l (D : Int) k = if k % D = 0 then (l.drop (lead l)).getD (k / D) 0 else 0 := fun k => by unfold expF; rw [Int.toNat_natCast]
  have hEN : expN s l (D : Int) = (min ((D : Int) * ((l.drop (lead l)).length : Int)) (1000 - (D : Int) * (s + lead l))).toNat := rfl
  generalize l.drop (lead l) = L at *
  generalize s + lead l = S at *
  generalize expF l (D : Int) = EF at *
  generalize expN s l (D : Int) = EN at *
  clear hL h hle ll
  have hLn : L.length ≤ 1100 := by omega
  have m1 : -100000 ≤ (D : Int) * S := by
    have : (D : Int) * (-100) ≤ D * S := Int.mul_le_mul_of_nonneg_left hS0 (by omega)
    omega
  have m2 : (D : Int) * S ≤ 1000000 := by
    have : (D : Int) * S ≤ D * 1000 := Int.mul_le_mul_of_nonneg_left hS1 (by omega)
    omega
  have m3 : (D : Int) * (L.length : Int) ≤ 1100000 := by
    have : (D : Int) * (L.length : Int) ≤ D * 1100 := Int.mul_le_mul_of_nonneg_left (by omega) (by omega)
    omega
  have m4 : 0 ≤ (D : Int) * (L.length : Int) := Int.mul_nonneg (by omega) (by omega)
  have hlm : ((L.map encQ).length : Int) = L.length := by simp
  have m5 : (D : Int) * (((L.map encQ).length : Nat) : Int) ≤ 1100000 := by rw [hlm]; exact m3
  have m6 : 0 ≤ (D : Int) * (((L.map encQ).length : Nat) : Int) := by rw [hlm]; exact m4
  have m7 : (D : Int) * (((L.map encQ).length : Nat) : Int) = D * L.length := by rw [hlm]
  obtain ⟨N, hN⟩ : ∃ N : Nat, N = (max 0 (min ((D : Int) * (((L.map encQ).length : Nat) : Int)) (1000 - (D : Int) * S))).toNat := ⟨_, rfl⟩
  have hNE : EN = N := by rw [hEN, hN, hlm]; omega
  have hNb : N ≤ 110000 := by omega
  have hND : (N : Int) ≤ D * L.length := by omega
  obtain ⟨G, hG⟩ : ∃ G : Nat → Nat → AV, G = expG L D := ⟨_, rfl⟩
  refine pc_body2 true Try.func36 rfl rfl rfl (Nat.le_of_ble_eq_true rfl) (CellT.agg agg_ser) CellT.tmp ?_
  refine goA ?_
  refine evG ggA (ss_call (InB_of rfl) rfl rfl hva) ?_
  refine goA ?_
  refine evG ggA (ss_call (InB_of rfl) rfl rfl hst) ?_
  refine goA ?_
  refine evG ggA (ss_call (InB_of rfl) rfl rfl cti) ?_
  refine goA ?_
  refine evG ggA (ss_make 30 (bytes := 64) (e0 := rz) (InB_of rfl) (make_tab rfl) rfl rfl rfl (by omega) (by omega) (by omega) (by omega) rfl rfl rfl) ?_
  refine runA ?_
  refine ev_nil ?_
  refine seqQ_n ?_
  have hrep : List.replicate ((max 0 (min ((D : Int) * (((L.map encQ).length : Nat) : Int)) (1000 - (D : Int) * S)))).toNat rz = (List.range N).map (G 0) := by rw [← hN]; exact rep_range N rz fun k _ => by rw [hG]; unfold expG; rw [if_neg (fun h => Nat.not_lt_zero _ h.2)]
  refine T.seqI (fun s1 => ∃ i : Nat, N ≤ i * D ∧ s1 = mkS [(6, .v (.p (.int .i64 ((D : Int) * S)))), (7, .own 30 N), (4, .ptr 4 0)] [(4, var0), (30, .lst 4 37 ((List.range N).map (G i)))] 57 true) ?_ ?_
  · refine r1A ?_
    refine T.block ?_
    refine T.loop (fun n s1 => ∃ i : Nat, n = N - i ∧ i ≤ N ∧ s1 = mkS [(1, .v (.p (.int .i64 D))), (2, .ptr 2 0), (4, .ptr 4 0), (6, .v (.p (.int .i64 ((D : Int) * S)))), (7, .own 30 N), (8, .v (.p (.int .i64 (i : Nat))))] [(2, .var [.v (.p (.int .i64 S)), .v (.sl (L.map encQ))]), (4, var0), (30, .lst 4 37 ((List.range N).map (G i)))] 57 true) N
      (s' := mkS [(1, .v (.p (.int .i64 D))), (2, .ptr 2 0), (4, .ptr 4 0), (6, .v (.p (.int .i64 ((D : Int) * S)))), (7, .own 30 (max 0 (min ((D : Int) * (((L.map encQ).length : Nat) : Int)) (1000 - (D : Int) * S))).toNat), (8, .v (.p (.int .i64 (0 : Nat))))] [(2, .var [.v (.p (.int .i64 S)), .v (.sl (L.map encQ))]), (4, var0), (30, .lst 4 37 (List.replicate ((max 0 (min ((D : Int) * (((L.map encQ).length : Nat) : Int)) (1000 - (D : Int) * S)))).toNat rz))] 57 true) (by exact entA) ⟨0, rfl, Nat.zero_le _, by rw [hrep, ← hN]⟩ ?_
    clear hrep
    rintro n _ ⟨i, rfl, hi, rfl⟩
    have hiD : i * D ≤ 200000000 := w_mul hi (by omega) (by omega)
    have hiD' : (i : Int) * (D : Int) = ((i * D : Nat) : Int) := (Int.natCast_mul i D).symm
    have hel : ((List.range N).map (G i)).length = N := by simp
    by_cases hlt : i * D < N
    · have hb : decide ((i : Int) * (D : Int) < (N : Int)) = true := by rw [hiD']; simp; omega
      have hiN : i < N := by
        have : i * 1 ≤ i * D := Nat.mul_le_mul_left i (by omega)
        omega
      have hiL : i < L.length := by
        have h5 : i * D < D * L.length := by
          have : ((i * D : Nat) : Int) < ((D * L.length : Nat) : Int) := by rw [Int.natCast_mul D]; omega
          omega
        rw [Nat.mul_comm] at h5
        exact Nat.lt_of_mul_lt_mul_left h5
      have e1' : (L.map encQ)[((i : Nat) : Int).toNat]? = some (encQ L[i]) := by rw [Int.toNat_natCast]; simp [hiL]
      have e2 : ((i : Int) * (D : Int)).toNat = i * D := by rw [hiD', Int.toNat_natCast]
      have hset : ((List.range N).map (G i)).set (i * D) (encQ L[i]) = (List.range N).map (G (i + 1)) := range_set N (i * D) _ (by
          rw [hG]; unfold expG
          rw [Nat.mul_div_cancel _ (by omega), if_pos ⟨Nat.mul_mod_left i D, Nat.lt_succ_self i⟩]
          simp [hiL]) fun k _ hk => by
        rw [hG]; unfold expG
        by_cases h5 : k % D = 0 ∧ k / D < i
        · rw [if_pos h5, if_pos ⟨h5.1, by omega⟩]
        · rw [if_neg h5, if_neg]
          rintro ⟨h6, h7⟩
          have h8 : k / D = i := by
            by_cases h9 : k / D < i
            · exact absurd ⟨h6, h9⟩ h5
            · omega
          have := Nat.div_add_mod k D
          rw [h6, h8, Nat.mul_comm] at this
          omega
      refine goA ?_
      refine evG ggA (ss_index_sl (InB_of rfl) (elem_tab rfl) rfl rfl (by omega) e1' rfl) ?_
      refine goA ?_
      refine evG ggA (ss_index_own (InB_of rfl) (elem_tab rfl) rfl rfl hel rfl (by omega) (by omega)) ?_
      refine evG ggA (ss_store_own rfl (size_tab rfl) rfl rfl hel (by rw [e2]; exact hlt) rfl rfl (fun l e => by cases e) rfl) ?_
      refine goA ?_
      refine loopQ_intro (k := N - (i + 1)) (s' := mkS [(1, .v (.p (.int .i64 D))), (2, .ptr 2 0), (4, .ptr 4 0), (6, .v (.p (.int .i64 ((D : Int) * S)))), (7, .own 30 N), (8, .v (.p (.int .i64 ((i : Int) + 1))))] [(2, .var [.v (.p (.int .i64 S)), .v (.sl (L.map encQ))]), (4, var0), (30, .lst 4 37 (((List.range N).map (G i)).set ((i : Int) * (D : Int)).toNat (encQ L[i])))] 57 true) (by omega) (by exact entA) ⟨i + 1, rfl, hiN, by rw [e2, hset]; rfl⟩
    · have hb : decide ((i : Int) * (D : Int) < (N : Int)) = false := by rw [hiD']; simp; omega
      refine goA ?_
      exact midQ_intro (s' := mkS [(6, .v (.p (.int .i64 ((D : Int) * S)))), (7, .own 30 N), (4, .ptr 4 0)] [(4, var0), (30, .lst 4 37 ((List.range N).map (G i)))] 57 true) (by exact entA) ⟨i, by omega, rfl⟩
  rintro _ ⟨i, hi, rfl⟩
  have hIL : IsL ((List.range N).map (G i)) K (tk EF N) := IsL.mk (by rw [tk_len]; simp) fun k e q h3 h4 => by
    have hk : k < N := by have := (List.getElem?_eq_some_iff.1 h3).1; simpa using this
    have e5 : e = G i k := by simp [hk] at h3; exact h3.symm
    have e6 : q = EF k := by simp [tk, hk] at h4; exact h4.symm
    rw [e5, e6, hG, hEF]
    unfold expG
    by_cases h5 : k % D = 0
    · have h6 : k / D < i := by
        rw [Nat.div_lt_iff_lt_mul (by omega)]
        omega
      rw [if_pos ⟨h5, h6⟩, if_pos h5]
      exact isV_encQ (ht_getD hK.1 hht _)
    · rw [if_neg (fun h => h5 h.1), if_neg h5]
      exact isV_rz K
  have hbuild := build_p (s := (D : Int) * S) hIL (by omega) (by omega) (by omega) (by rw [tk_len]; omega)
  rw [serE_eq] at hbuild
  rw [hNE]
  have hel : ((List.range N).map (G i)).length = N := by simp
  refine T.weak (s' := mkS [(6, .v (.p (.int .i64 ((D : Int) * S)))), (7, .v (.sl ((List.range N).map (G i)))), (4, .ptr 4 0)] [(4, var0)] 57 true) (by exact entA) ?_
  refine goA ?_
  refine evG ggA (ss_call (InB_of rfl) rfl rfl hbuild) ?_
  refine goA ?_
  exact rfl
end Ab
