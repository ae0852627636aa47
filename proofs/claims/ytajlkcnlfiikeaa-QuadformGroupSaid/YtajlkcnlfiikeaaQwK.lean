/- The statements' fractions and equality of lists of forms: walked. -/
import Derived.Test.YtajlkcnlfiikeaaQwJ
set_option linter.all false
namespace Ab
open Go Go.RowKit Go.Proofs Hp Qf
set_option maxRecDepth 100000

abbrev varQ0 : Blk := .var [.v (.p (.bool false)), .v (.p nilV), .v (.p (.bool false)), .v (.p nilV)]
set_option maxHeartbeats 1000000 in
theorem frac_g {n d : Int} (hn : Bd 1000000000000 n) (hd0 : 0 < d) (hd : Bd 1000000000000 d) : PC Try.prog 51 [iV n, iV d] (encQ (Rat.divInt n d)) := by
  have hg : gsg n d = gI n d := by unfold gsg; rw [if_neg (by omega)]; rfl
  obtain ⟨p1, p2⟩ := gsg_parts (n := n) (d := d) (by omega)
  rw [hg] at p1 p2
  have hgp : 0 < gI n d := by
    have := Int.gcd_pos_of_ne_zero_right n (show d ≠ 0 by omega)
    unfold gI
    unfold Int.gcd at this
    omega
  have d1 : gI n d ∣ n := Int.gcd_dvd_left ..
  have d2 : gI n d ∣ d := Int.gcd_dvd_right ..
  have t1 : n.tdiv (gI n d) = n / gI n d := Int.tdiv_eq_ediv_of_dvd d1
  have t2 : d.tdiv (gI n d) = d / gI n d := Int.tdiv_eq_ediv_of_dvd d2
  have q1 := tdiv_bd (y := gI n d) hn
  have q2 := tdiv_bd (y := gI n d) hd
  have z1 := z_p (n.tdiv (gI n d)) (by unfold Bd at q1; omega) (by unfold Bd at q1; omega)
  have z2 := z_p (d.tdiv (gI n d)) (by unfold Bd at q2; omega) (by unfold Bd at q2; omega)
  have hq : encQ (Rat.divInt n d) = .agg (ci (n.tdiv (gI n d)) ++ ci (d.tdiv (gI n d))) := by unfold encQ; rw [p1, p2, t1, t2]
  rw [hq]
  unfold encI at z1 z2
  have hb : decide (d < 0) = false := by simp; omega
  have eg : gI (max n (0 - n)) d = gI n d := by unfold gI; rw [show (max n (0 - n)).natAbs = n.natAbs by omega]
  clear p1 p2 t1 t2 d1 d2 hg hq
  unfold Bd at hn hd q1 q2
  refine pc_body1 true Try.func51 rfl rfl rfl (Nat.le_of_ble_eq_true rfl) (CellT.agg agg_rat) ?_
  refine r1A ?_
  refine T.seqI (fun s1 => s1 = mkS [(0, .v (iV n)), (1, .v (iV d)), (4, .ptr 4 0)] [(4, varQ0)] 33 true) ?_ ?_
  · refine goA ?_
    exact midQ_intro (by exact entA) rfl
  rintro _ rfl
  refine T.seqI (fun s1 => s1 = mkS [(0, .v (iV n)), (1, .v (iV d)), (4, .ptr 4 0), (5, .v (iV (max n (0 - n)))), (6, .v (iV d))] [(4, varQ0)] 33 true) ?_ ?_
  · refine goA ?_
    exact midQ_intro (by exact entA) rfl
  rintro _ rfl
  refine T.seqI (fun s1 => s1 = mkS [(0, .v (iV n)), (1, .v (iV d)), (4, .ptr 4 0), (5, .v (iV (gI n d)))] [(4, varQ0)] 33 true) ?_ ?_
  · refine T.block ?_
    refine T.loop (fun k s1 => ∃ a b : Int, 0 ≤ a ∧ 0 ≤ b ∧ a ≤ 1000000000000 ∧ b ≤ 1000000000000 ∧ gI a b = gI n d ∧ b.natAbs ≤ k ∧ s1 = mkS [(0, .v (iV n)), (1, .v (iV d)), (4, .ptr 4 0), (5, .v (iV a)), (6, .v (iV b))] [(4, varQ0)] 33 true) d.natAbs
      (s' := mkS [(0, .v (iV n)), (1, .v (iV d)), (4, .ptr 4 0), (5, .v (iV (max n (0 - n)))), (6, .v (iV d))] [(4, varQ0)] 33 true) (by exact entA) ⟨_, d, by omega, by omega, by omega, by omega, eg, Nat.le_refl _, rfl⟩ ?_
    rintro k _ ⟨a, b, a0, b0, a1, b1, e, hk, rfl⟩
    by_cases h0 : b = 0
    · subst h0
      have hb2 : decide ((0 : Int) > 0) = false := rfl
      rw [← e, gI_zero, show max a (0 - a) = a by omega]
      refine goA ?_
      exact midQ_intro (by exact entA) rfl
    · have hb2 : decide (b > 0) = true := by simp; omega
      have hl := tmod_lt (a := a) h0
      have hm0 : 0 ≤ a.tmod b := Int.tmod_nonneg _ a0
      refine goA ?_
      refine evG ggA (ss_div (op := .rem) (InB_of rfl) rfl rfl (by omega) rfl) ?_
      refine goA ?_
      exact loopQ_intro (k := (a.tmod b).natAbs) (s' := mkS [(0, .v (iV n)), (1, .v (iV d)), (4, .ptr 4 0), (5, .v (iV b)), (6, .v (iV (a.tmod b)))] [(4, varQ0)] 33 true) (by omega) (by exact entA) ⟨b, _, b0, hm0, b1, by omega, by rw [gI_step, e], Nat.le_refl _, rfl⟩
  rintro _ rfl
  generalize gI n d = g at *
  refine goA ?_
  refine evG ggA (ss_div (InB_of rfl) rfl rfl (by omega) (w64 (by omega) (by omega))) ?_
  refine goA ?_
  refine evG ggA (ss_call (InB_of rfl) rfl rfl z1) ?_
  refine goA ?_
  refine evG ggA (ss_div (InB_of rfl) rfl rfl (by omega) (w64 (by omega) (by omega))) ?_
  refine goA ?_
  refine evG ggA (ss_call (InB_of rfl) rfl rfl z2) ?_
  refine goA ?_
  exact rfl
theorem fA_inj {f g : F} : (f.a = g.a ∧ f.b = g.b ∧ f.c = g.c) ↔ f = g := by
  cases f; cases g; simp
set_option maxHeartbeats 1000000 in
theorem rsame_p (L R : List F) (hL : L.length ≤ 1000000) (hR : R.length ≤ 1000000) : PC Try.prog 33 [.sl (L.map fA), .sl (R.map fA)] (bV (decide (L = R))) := by
  by_cases h1 : L.length = R.length
  case neg =>
    have hb : (((L.map fA).length : Int) != ((R.map fA).length : Int)) = true := by simp; omega
    have e : decide (L = R) = false := by simp; intro e; subst e; exact h1 rfl
    rw [e]
    refine pc_body1 true Try.func33 rfl rfl rfl (Nat.le_of_ble_eq_true rfl) CellT.tmp ?_
    refine goA ?_
    exact rfl
  have hb : (((L.map fA).length : Int) != ((R.map fA).length : Int)) = false := by simp; omega
  refine pc_body1 true Try.func33 rfl rfl rfl (Nat.le_of_ble_eq_true rfl) CellT.tmp ?_
  refine r1A ?_
  refine T.seqI (fun s1 => s1 = mkS [(0, .v (.sl (L.map fA))), (1, .v (.sl (R.map fA)))] [] 26 true) ?_ ?_
  · refine goA ?_
    exact midQ_intro (by exact entA) rfl
  rintro _ rfl
  refine T.seqI (fun s1 => L = R ∧ s1 = mkS [] [] 26 true) ?_ ?_
  · refine r1A ?_
    refine T.block ?_
    refine T.loop (fun n s1 => ∃ k : Nat, n = L.length - k ∧ k ≤ L.length ∧ (∀ i, i < k → L[i]? = R[i]?) ∧ s1 = mkS [(5, .v (.p (.int .i64 k))), (0, .v (.sl (L.map fA))), (1, .v (.sl (R.map fA)))] [] 26 true) L.length
      (s' := mkS [(5, .v (.p (.int .i64 (0 : Nat)))), (0, .v (.sl (L.map fA))), (1, .v (.sl (R.map fA)))] [] 26 true) (by exact entA) ⟨0, rfl, Nat.zero_le _, fun i hi => absurd hi (Nat.not_lt_zero _), rfl⟩ ?_
    rintro n _ ⟨k, rfl, hk, hz, rfl⟩
    by_cases hlt : k < L.length
    · have hb : decide ((k : Int) < ((L.map fA).length : Int)) = true := by simp; omega
      have e1 : L[k]? = some L[k] := List.getElem?_eq_getElem hlt
      have e2 : R[k]? = some R[k] := List.getElem?_eq_getElem (by omega)
      have e3 : (L.map fA)[((k : Nat) : Int).toNat]? = some (.agg [iV L[k].a, iV L[k].b, iV L[k].c]) := by rw [Int.toNat_natCast, List.getElem?_map, e1]; rfl
      have e4 : (R.map fA)[((k : Nat) : Int).toNat]? = some (.agg [iV R[k].a, iV R[k].b, iV R[k].c]) := by rw [Int.toNat_natCast, List.getElem?_map, e2]; rfl
      have hne : L[k] ≠ R[k] → decide (L = R) = false := fun hd => by
        simp only [decide_eq_false_iff_not]
        intro e
        subst e
        exact hd rfl
      generalize L[k] = f at *
      generalize R[k] = g at *
      refine goA ?_
      refine evG ggA (ss_index_sl (InB_of rfl) (elem_tab rfl) rfl rfl (by omega) e3 rfl) ?_
      refine goA ?_
      refine evG ggA (ss_index_sl (InB_of rfl) (elem_tab rfl) rfl rfl (by omega) e4 rfl) ?_
      refine goA ?_
      refine evG ggA (ss_eq3 (InB_of rfl) rfl rfl rfl rfl) ?_
      by_cases hd : f = g
      · subst hd
        have hq : (!decide ([f.a, f.b, f.c] = [f.a, f.b, f.c])) = false := by simp
        refine goA ?_
        refine loopQ_intro (k := L.length - (k + 1)) (s' := mkS [(5, .v (.p (.int .i64 ((k : Int) + 1)))), (0, .v (.sl (L.map fA))), (1, .v (.sl (R.map fA)))] [] 26 true) (by omega) (by exact entA) ⟨k + 1, rfl, hlt, fun i hi => ?_, by simp⟩
        by_cases hik : i = k
        · subst hik; rw [e1, e2]
        · exact hz i (by omega)
      · rw [hne hd]
        have hq : (!decide ([f.a, f.b, f.c] = [g.a, g.b, g.c])) = true := by
          rw [decide_eq_false (fun e => hd (fA_inj.1 (by simpa using e)))]
          rfl
        refine goA ?_
        exact rfl
    · have hb : decide ((k : Int) < ((L.map fA).length : Int)) = false := by simp; omega
      have hde : L = R := by
        apply List.ext_getElem?
        intro i
        by_cases hi : i < k
        · exact hz i hi
        · rw [List.getElem?_eq_none (by omega), List.getElem?_eq_none (by omega)]
      refine goA ?_
      exact midQ_intro (s' := mkS [] [] 26 true) (by exact entA) ⟨hde, rfl⟩
  rintro _ ⟨rfl, rfl⟩
  rw [decide_eq_true rfl]
  refine goA ?_
  exact rfl
end Ab
