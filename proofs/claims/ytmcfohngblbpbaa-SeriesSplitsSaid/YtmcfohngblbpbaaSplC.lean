/- Sieve of package series, in abstract values. -/
import Derived.Test.YtmcfohngblbpbaaSplB
namespace Ab
open Go Go.RowKit Go.Proofs Hp
set_option maxRecDepth 100000

theorem rep_range {α : Type} (n : Nat) (x : α) {g : Nat → α} (h : ∀ k, k < n → g k = x) : List.replicate n x = (List.range n).map g := by
  apply List.ext_getElem
  · simp
  · intro i h1 h2
    have : i < n := by simpa using h1
    simp [h i this]
theorem range_set {α : Type} (n i : Nat) (x : α) {g g' : Nat → α} (h0 : g' i = x) (h : ∀ k, k < n → k ≠ i → g' k = g k) : ((List.range n).map g).set i x = (List.range n).map g' := by
  apply List.ext_getElem
  · simp
  · intro k h1 h2
    have hk : k < n := by simpa using h1
    rw [List.getElem_set]
    split
    · rename_i e; subst e; simp [h0]
    · rename_i e; simp [h k hk (fun e2 => e e2.symm)]
theorem range_congr {α : Type} (n : Nat) {g g' : Nat → α} (h : ∀ k, k < n → g k = g' k) : (List.range n).map g = (List.range n).map g' := by
  apply List.ext_getElem
  · simp
  · intro k h1 h2
    have hk : k < n := by simpa using h1
    simp [h k hk]
theorem tmod_b {r m : Int} (h0 : 1 ≤ m) (h1 : m ≤ 1000) : -1000 ≤ r.tmod m ∧ r.tmod m ≤ 1000 := by
  have h := Int.natAbs_tmod r m
  have := Nat.mod_lt r.natAbs (show m.natAbs > 0 by omega)
  omega
def sieG (s : Int) (es : List AV) (m r : Int) (i k : Nat) : AV := if k < i then (if (s + k - r.tmod m).tmod m = 0 then es.getD k rz else rz) else rz
set_option maxHeartbeats 4000000 in
theorem sieve_p {s m r : Int} {es : List AV} {l : List Rat} {K : Nat} (h : ValidP s es.length = true → IsL es K l) (hle : es.length = l.length) (hr : InR s es.length) (hK : 1 ≤ K ∧ K ≤ 268435456) (d0 : -9223372036854775808 ≤ m) (d1 : m ≤ 9223372036854775807) (r0 : -9223372036854775808 ≤ r) (r1 : r ≤ 9223372036854775807) : PC Try.prog 39 [serA s es, .p (.int .i64 m), .p (.int .i64 r)] (serE (sieR s l m r)) := by
  obtain ⟨i1, i2, i3⟩ := hr
  have hva := valid_p i1 i2 i3
  have hst := step_p m d0 d1
  rw [serE_eq]
  unfold sieR
  rw [← hle]
  cases h1 : ValidP s es.length with
  | false =>
    rw [h1] at hva
    refine pc_body2 true Try.func39 rfl rfl rfl (Nat.le_of_ble_eq_true rfl) (CellT.agg agg_ser) CellT.tmp ?_
    refine goA ?_
    refine evG ggA (ss_call (InB_of rfl) rfl rfl hva) ?_
    refine goA ?_
    exact rfl
  | true =>
  rw [h1] at hva
  cases h2 : (decide (1 ≤ m) && decide (m ≤ 1000)) with
  | false =>
    rw [h2] at hst
    refine pc_body2 true Try.func39 rfl rfl rfl (Nat.le_of_ble_eq_true rfl) (CellT.agg agg_ser) CellT.tmp ?_
    refine goA ?_
    refine evG ggA (ss_call (InB_of rfl) rfl rfl hva) ?_
    refine goA ?_
    refine evG ggA (ss_call (InB_of rfl) rfl rfl hst) ?_
    refine goA ?_
    exact rfl
  | true =>
  rw [h2] at hst
  have hL := h h1
  obtain ⟨a0, a1, a2⟩ := valid_iff.1 h1
  simp only [Bool.and_eq_true, decide_eq_true_eq] at h2
  obtain ⟨hd0, hd1⟩ := h2
  obtain ⟨N, hN⟩ : ∃ N, N = es.length := ⟨_, rfl⟩
  have hNb : N ≤ 1100 := by omega
  obtain ⟨G, hG⟩ : ∃ G : Nat → Nat → AV, G = sieG s es m r := ⟨_, rfl⟩
  obtain ⟨t0, t1⟩ := tmod_b (r := r) hd0 hd1
  refine pc_body2 true Try.func39 rfl rfl rfl (Nat.le_of_ble_eq_true rfl) (CellT.agg agg_ser) CellT.tmp ?_
  refine goA ?_
  refine evG ggA (ss_call (InB_of rfl) rfl rfl hva) ?_
  refine goA ?_
  refine evG ggA (ss_call (InB_of rfl) rfl rfl hst) ?_
  refine goA ?_
  refine evG ggA (ss_make 30 (e0 := rz) (InB_of rfl) (make_tab rfl) rfl rfl rfl (by omega) (by omega) (by omega) (by omega) rfl rfl rfl) ?_
  refine runA ?_
  refine ev_nil ?_
  refine seqQ_n ?_
  have hrep : List.replicate ((es.length : Int)).toNat rz = (List.range N).map (G 0) := by rw [Int.toNat_natCast, ← hN]; exact rep_range N rz fun k _ => by rw [hG]; rfl
  refine T.seqI (fun s1 => s1 = mkS [(3, .ptr 3 0), (8, .own 30 N), (6, .ptr 6 0)] [(3, .var [.v (.p (.int .i64 s)), .v (.sl es)]), (6, var0), (30, .lst 4 37 ((List.range N).map (G N)))] 54 true) ?_ ?_
  · refine r1A ?_
    refine T.block ?_
    refine T.loop (fun n s1 => ∃ i : Nat, n = N - i ∧ i ≤ N ∧ s1 = mkS [(1, .v (.p (.int .i64 m))), (2, .v (.p (.int .i64 r))), (3, .ptr 3 0), (6, .ptr 6 0), (8, .own 30 N), (25, .v (.sl es)), (26, .v (.p (.int .i64 N))), (27, .v (.p (.int .i64 (i : Nat))))] [(3, .var [.v (.p (.int .i64 s)), .v (.sl es)]), (6, var0), (30, .lst 4 37 ((List.range N).map (G i)))] 54 true) N
      (s' := mkS [(1, .v (.p (.int .i64 m))), (2, .v (.p (.int .i64 r))), (3, .ptr 3 0), (6, .ptr 6 0), (8, .own 30 ((es.length : Int)).toNat), (25, .v (.sl es)), (26, .v (.p (.int .i64 es.length))), (27, .v (.p (.int .i64 (0 : Nat))))] [(3, .var [.v (.p (.int .i64 s)), .v (.sl es)]), (6, var0), (30, .lst 4 37 (List.replicate ((es.length : Int)).toNat rz))] 54 true) (by exact entA) ⟨0, rfl, Nat.zero_le _, by rw [hrep, Int.toNat_natCast, hN]⟩ ?_
    rintro n _ ⟨i, rfl, hi, rfl⟩
    by_cases hlt : i < N
    · have hb : decide ((i : Int) < (N : Int)) = true := by simp; omega
      obtain ⟨g, xs, g', xs', q, e1, e2, e3⟩ := hL.at (show i < es.length by omega)
      have e1' : es[((i : Nat) : Int).toNat]? = some (.agg [.p (.bool g), .sl xs, .p (.bool g'), .sl xs']) := by rw [Int.toNat_natCast]; exact e1
      have hgd : es.getD i rz = .agg [.p (.bool g), .sl xs, .p (.bool g'), .sl xs'] := by rw [List.getD_eq_getElem?_getD, e1]; rfl
      have hel : ((List.range N).map (G i)).length = N := by simp
      by_cases hz : (s + (i : Int) - r.tmod m).tmod m = 0
      · have hb2 : ((s + (i : Int) - r.tmod m).tmod m == 0) = true := by simp [hz]
        have hset : ((List.range N).map (G i)).set i (.agg [.p (.bool g), .sl xs, .p (.bool g'), .sl xs']) = (List.range N).map (G (i + 1)) := range_set N i _ (by rw [hG, ← hgd]; unfold sieG; rw [if_pos (Nat.lt_succ_self i), if_pos hz]) fun k _ hk => by
          rw [hG]; unfold sieG
          by_cases h5 : k < i
          · rw [if_pos h5, if_pos (by omega)]
          · rw [if_neg h5, if_neg (by omega)]
        clear hrep hL
        refine goA ?_
        refine evG ggA (ss_index_sl (InB_of rfl) (elem_tab rfl) rfl rfl (by omega) e1' rfl) ?_
        refine goA ?_
        refine evG ggA (ss_div (InB_of rfl) rfl rfl (by omega) rfl) ?_
        refine goA ?_
        refine evG ggA (ss_div (InB_of rfl) rfl rfl (by omega) rfl) ?_
        refine goA ?_
        refine evG ggA (ss_index_own (InB_of rfl) (elem_tab rfl) rfl rfl hel rfl (by omega) (by omega)) ?_
        refine evG ggA (ss_store_own rfl (size_tab rfl) rfl rfl hel (by omega) rfl rfl (fun l e => by cases e) rfl) ?_
        refine goA ?_
        refine loopQ_intro (k := N - (i + 1)) (s' := mkS [(1, .v (.p (.int .i64 m))), (2, .v (.p (.int .i64 r))), (3, .ptr 3 0), (6, .ptr 6 0), (8, .own 30 N), (25, .v (.sl es)), (26, .v (.p (.int .i64 N))), (27, .v (.p (.int .i64 ((i : Int) + 1))))] [(3, .var [.v (.p (.int .i64 s)), .v (.sl es)]), (6, var0), (30, .lst 4 37 (((List.range N).map (G i)).set ((i : Nat) : Int).toNat (.agg [.p (.bool g), .sl xs, .p (.bool g'), .sl xs'])))] 54 true) (by omega) (by exact entA) ⟨i + 1, rfl, hlt, by rw [Int.toNat_natCast, hset]; rfl⟩
      · have hb2 : ((s + (i : Int) - r.tmod m).tmod m == 0) = false := by simp [hz]
        have hset : (List.range N).map (G i) = (List.range N).map (G (i + 1)) := range_congr N fun k _ => by
          rw [hG]; unfold sieG
          by_cases h5 : k < i
          · rw [if_pos h5, if_pos (show k < i + 1 by omega)]
          · rw [if_neg h5]
            by_cases h6 : k = i
            · subst h6; rw [if_pos (Nat.lt_succ_self k), if_neg hz]
            · rw [if_neg (show ¬ k < i + 1 by omega)]
        clear hrep hL
        refine goA ?_
        refine evG ggA (ss_index_sl (InB_of rfl) (elem_tab rfl) rfl rfl (by omega) e1' rfl) ?_
        refine goA ?_
        refine evG ggA (ss_div (InB_of rfl) rfl rfl (by omega) rfl) ?_
        refine goA ?_
        refine evG ggA (ss_div (InB_of rfl) rfl rfl (by omega) rfl) ?_
        refine goA ?_
        refine loopQ_intro (k := N - (i + 1)) (s' := mkS [(1, .v (.p (.int .i64 m))), (2, .v (.p (.int .i64 r))), (3, .ptr 3 0), (6, .ptr 6 0), (8, .own 30 N), (25, .v (.sl es)), (26, .v (.p (.int .i64 N))), (27, .v (.p (.int .i64 ((i : Int) + 1))))] [(3, .var [.v (.p (.int .i64 s)), .v (.sl es)]), (6, var0), (30, .lst 4 37 ((List.range N).map (G i)))] 54 true) (by omega) (by exact entA) ⟨i + 1, rfl, hlt, by rw [hset]; rfl⟩
    · obtain rfl : i = N := by omega
      have hb : decide ((i : Int) < (i : Int)) = false := by simp
      refine goA ?_
      exact midQ_intro (s' := mkS [(3, .ptr 3 0), (8, .own 30 i), (6, .ptr 6 0)] [(3, .var [.v (.p (.int .i64 s)), .v (.sl es)]), (6, var0), (30, .lst 4 37 ((List.range i).map (G i)))] 54 true) (by exact entA) rfl
  rintro _ rfl
  have hIL : IsL ((List.range N).map (G N)) K (tk (sieF s l m r) es.length) := IsL.mk (by rw [tk_len]; simp [hN]) fun i e q h3 h4 => by
    have hi : i < N := by have := (List.getElem?_eq_some_iff.1 h3).1; simpa using this
    have e5 : e = G N i := by simp [hi] at h3; exact h3.symm
    have e6 : q = sieF s l m r i := by simp [tk, ← hN, hi] at h4; exact h4.symm
    obtain ⟨g, xs, g', xs', q', e1, e2, e3⟩ := hL.at (show i < es.length by omega)
    rw [e5, e6, hG]
    unfold sieG sieF
    rw [if_pos hi]
    split
    · rw [List.getD_eq_getElem?_getD, List.getD_eq_getElem?_getD, e1, e2]
      exact e3
    · exact isV_rz K
  have hbuild := build_p (s := s) hIL (by omega) (by omega) (by omega) (by rw [tk_len]; omega)
  rw [serE_eq] at hbuild
  have hel : ((List.range N).map (G N)).length = N := by simp
  refine T.weak (s' := mkS [(3, .ptr 3 0), (8, .v (.sl ((List.range N).map (G N)))), (6, .ptr 6 0)] [(3, .var [.v (.p (.int .i64 s)), .v (.sl es)]), (6, var0)] 54 true) (by exact entA) ?_
  refine goA ?_
  refine evG ggA (ss_call (InB_of rfl) rfl rfl hbuild) ?_
  refine goA ?_
  exact rfl
end Ab
