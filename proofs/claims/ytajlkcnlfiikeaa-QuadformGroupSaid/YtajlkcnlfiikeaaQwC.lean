/- quadform.reduce, walked. -/
import Derived.Test.YtajlkcnlfiikeaaQwB
set_option linter.all false
namespace Ab
open Go Go.RowKit Go.Proofs Qf
set_option maxRecDepth 100000

theorem mat_assoc (x y z : M) : (x.mul y).mul z = x.mul (y.mul z) := by
  simp only [M.mul, M.mk.injEq]
  refine ⟨?_, ?_, ?_, ?_⟩ <;> grind
theorem negz (x : Int) : -x = 0 - x := by omega
theorem val_bd {f : F} {N : Int} (h : f.Pos) (hN : 1 ≤ N) (ha : f.a ≤ N) (hc : f.c ≤ N) {x y : Int} (hv : f.val x y ≤ N) : Bd (2 * N) x ∧ Bd (2 * N) y := by
  have hd := disc_le h
  have h0 : 0 ≤ f.val x y := by
    rcases Classical.em (x = 0 ∧ y = 0) with ⟨rfl, rfl⟩ | hn
    · simp [F.val]
    · have := h.val (x := x) (y := y) (by
        rcases Classical.em (x = 0) with h1 | h1
        · exact .inr fun h2 => hn ⟨h1, h2⟩
        · exact .inl h1)
      omega
  have hav : ∀ a : Int, 0 < a → a ≤ N → 4 * a * f.val x y ≤ 4 * (N * N) := fun a h1 h2 => by
    have := Int.mul_le_mul (show 4 * a ≤ 4 * N by omega) hv h0 (by omega)
    have e : 4 * N * N = 4 * (N * N) := by grind
    omega
  have hsq : ∀ z : Int, -f.disc * (z * z) ≤ 4 * (N * N) → Bd (2 * N) z := fun z hz => by
    refine abs_le_of_sq (by omega) ?_
    have := Int.mul_le_mul_of_nonneg_right hd (sq_nonneg z)
    have e : 2 * N * (2 * N) = 4 * (N * N) := by grind
    have := sq_nonneg z
    omega
  constructor
  · refine hsq x ?_
    have := four_val_c f x y
    have := hav f.c h.c hc
    have := sq_nonneg (2 * f.c * y + f.b * x)
    omega
  · refine hsq y ?_
    have := four_val f x y
    have := hav f.a h.a ha
    have := sq_nonneg (2 * f.a * x + f.b * y)
    omega
theorem kk_bds {a b k N : Int} (ha : 0 < a) (haN : a ≤ N) (hb : Bd N b) (hk : (a - b) / (2 * a) = k) : Bd (4 * N) (2 * a * k) ∧ Bd (2 * N) (a * k) ∧ Bd (2 * N) k := by
  have h1 := Int.mul_ediv_add_emod (a - b) (2 * a)
  have h2 := Int.emod_nonneg (a - b) (show 2 * a ≠ 0 by omega)
  have h3 := Int.emod_lt_of_pos (a - b) (show 0 < 2 * a by omega)
  rw [hk] at h1
  have e : 2 * a * k = 2 * (a * k) := by grind
  unfold Bd at *
  have h4 : -(2 * N) ≤ a * k ∧ a * k ≤ 2 * N := by omega
  refine ⟨by omega, h4, ?_⟩
  have h5 : k.natAbs ≤ (a * k).natAbs := by
    rw [Int.natAbs_mul]
    exact Nat.le_mul_of_pos_left _ (by omega)
  generalize a * k = q at *
  omega
set_option maxHeartbeats 4000000 in
theorem reduce_p {f : F} {N : Int} (hp : f.Pos) (hB : FBd N f) (hN : 1 ≤ N) (hN9 : N ≤ 1000000000) : PC Try.prog 55 [fA f] (.tup [fA f.rd, mA f.rm]) := by
  refine pc_body2 true Try.func55 rfl rfl rfl (Nat.le_of_ble_eq_true rfl) (CellT.agg agg_F) (CellT.agg agg_M) ?_
  refine goA ?_
  refine T.loop (fun n s1 => ∃ (g : F) (m : M), g.Pos ∧ FBd N g ∧ m.det = 1 ∧ g = f.by m ∧ g.mes ≤ n ∧ rdm n g m = (f.rd, f.rm) ∧ s1 = mkS [(1, .ptr 1 0), (2, .ptr 2 0), (3, .ptr 3 0), (4, .ptr 4 0)] [(1, .var [.v (iV g.a), .v (iV g.b), .v (iV g.c)]), (2, .var [.v (iV 0), .v (iV 0), .v (iV 0)]), (3, .var [.v (iV 0), .v (iV 0), .v (iV 0), .v (iV 0)]), (4, .var [.v (iV m.a), .v (iV m.b), .v (iV m.c), .v (iV m.d)])] 97 true) f.mes
    (s' := mkS [(1, .ptr 1 0), (2, .ptr 2 0), (3, .ptr 3 0), (4, .ptr 4 0)] [(1, .var [.v (iV f.a), .v (iV f.b), .v (iV f.c)]), (2, .var [.v (iV 0), .v (iV 0), .v (iV 0)]), (3, .var [.v (iV 0), .v (iV 0), .v (iV 0), .v (iV 0)]), (4, .var [.v (iV 1), .v (iV 0), .v (iV 0), .v (iV 1)])] 97 true) (by exact entA)
    ⟨f, .one, hp, hB, by decide, (by_one f).symm, Nat.le_refl _, rfl, rfl⟩ ?_
  rintro n _ ⟨g, m, gp, gB, gm, ge, gn, gr, rfl⟩
  have ha := gp.a
  have v1 : f.val m.a m.c = g.a := by rw [ge]; rfl
  have v2 : f.val m.b m.d = g.c := by rw [ge]; rfl
  obtain ⟨ma, mc⟩ := val_bd hp hN hB.a.2 hB.c.2 (x := m.a) (y := m.c) (by rw [v1]; exact gB.a.2)
  obtain ⟨mb, md⟩ := val_bd hp hN hB.a.2 hB.c.2 (x := m.b) (y := m.d) (by rw [v2]; exact gB.c.2)
  have eg := go_eq g
  have em := mulT m g.kk
  have hgb := go_b ha
  have hcf := floor_p (x := g.a - g.b) (y := 2 * g.a) (by omega) (by have := gB.a; have := gB.b; unfold Bd at *; omega)
  have hkk : (g.a - g.b) / (2 * g.a) = g.kk := rfl
  rw [hkk] at hcf
  obtain ⟨k1, k2, k3⟩ := kk_bds ha gB.a.2 gB.b hkk
  have hNN : N * N ≤ 1000000000000000000 := Int.mul_le_mul hN9 hN9 (by omega) (by decide)
  have q1 := bmul k3 (show Bd (3 * N) (g.a * g.kk + g.b) by have := gB.b; unfold Bd at *; omega)
  have q2 := bmul ma k3
  have q3 := bmul mc k3
  have e6 : 2 * N * (3 * N) = 6 * (N * N) := by grind
  have e4 : 2 * N * (2 * N) = 4 * (N * N) := by grind
  rw [e6] at q1
  rw [e4] at q2 q3
  have ga := gB.a
  have gb := gB.b
  have gc := gB.c
  unfold Bd at ga gb gc k1 k2 k3 q1 q2 q3 ma mb mc md
  clear v1 v2 hkk e6 e4
  have hfin : (g.go.fin = true ∧ f.rd = g.go ∧ f.rm = m.mul (.T g.kk)) ∨ (g.go.fin = false ∧ ∃ k, n = k + 1 ∧ (g.go.by .S).mes ≤ k ∧ rdm k (g.go.by .S) ((m.mul (.T g.kk)).mul .S) = (f.rd, f.rm)) := by
    cases hf : g.go.fin with
    | true =>
      refine .inl ⟨rfl, ?_⟩
      cases n with
      | zero => rw [rdm] at gr; injection gr with g1 g2; exact ⟨g1.symm, g2.symm⟩
      | succ n => rw [rdm, if_pos hf] at gr; injection gr with g1 g2; exact ⟨g1.symm, g2.symm⟩
    | false =>
      have hlt := mes_lt gp hf
      obtain ⟨k, rfl⟩ : ∃ k, n = k + 1 := ⟨n - 1, by omega⟩
      rw [rdm, if_neg (by rw [hf]; decide)] at gr
      exact .inr ⟨rfl, k, rfl, by omega, gr⟩
  have hpos : g.go.Pos := gp.by (detT _)
  have hdet : ((m.mul (.T g.kk)).mul .S).det = 1 := by rw [det_mul, det_mul, gm, detT, detS]; rfl
  have hby : g.go.by .S = f.by ((m.mul (.T g.kk)).mul .S) := by
    rw [mat_assoc, ← by_mul, ← by_mul, ← ge]
    rfl
  rw [mulS, byS] at hfin
  rw [mulS] at hdet hby
  rw [byS] at hby
  have hSp := hpos.by detS
  rw [byS] at hSp
  unfold F.fin at hfin
  rw [eg, em] at hfin
  rw [em] at hdet hby
  rw [eg] at hby hSp hpos
  simp only at hfin hdet hby hSp hgb hpos
  rw [eg] at hgb
  simp only at hgb
  have hc1 := hpos.c
  have gn' := gn
  clear gr gn eg em ge gp hp hB hpos gB
  generalize g.kk = k at *
  simp only at hc1
  by_cases c1 : g.a < g.c + k * (g.a * k + g.b)
  · have b1 : decide (g.a < g.c + k * (g.a * k + g.b)) = true := by simpa using c1
    rcases hfin with ⟨-, r1, r2⟩ | ⟨hx, -⟩
    · rw [r1, r2]
      refine goA ?_
      refine evG ggA (ss_call (InB_of rfl) rfl rfl hcf) ?_
      refine goA ?_
      exact rfl
    · rw [b1] at hx; simp at hx
  · have b1 : decide (g.a < g.c + k * (g.a * k + g.b)) = false := by simpa using c1
    by_cases c2 : g.a = g.c + k * (g.a * k + g.b) ∧ 0 ≤ g.b + 2 * g.a * k
    · have b2 : (g.a == g.c + k * (g.a * k + g.b)) = true := by simpa using c2.1
      have b3 : decide (g.b + 2 * g.a * k ≥ 0) = true := by simpa using c2.2
      rcases hfin with ⟨-, r1, r2⟩ | ⟨hx, -⟩
      · rw [r1, r2]
        refine goA ?_
        refine evG ggA (ss_call (InB_of rfl) rfl rfl hcf) ?_
        refine goA ?_
        exact rfl
      · rw [b1, decide_eq_true c2.1, decide_eq_true c2.2] at hx; simp at hx
    · rcases hfin with ⟨hx, -⟩ | ⟨-, k', rfl, hm, hr⟩
      · exfalso
        simp only [Bool.or_eq_true, Bool.and_eq_true, decide_eq_true_eq] at hx
        rcases hx with hx | hx
        · exact c1 hx
        · exact c2 hx
      · have hbd : FBd N ⟨g.c + k * (g.a * k + g.b), 0 - (g.b + 2 * g.a * k), g.a⟩ := ⟨⟨by simp only; omega, by simp only; omega⟩, ⟨by simp only; omega, by simp only; omega⟩, ⟨by simp only; omega, by simp only; omega⟩⟩
        rw [negz (g.b + 2 * g.a * k)] at hSp hby hm hr
        rw [negz m.a, negz m.c] at hdet hby hr
        by_cases c3 : g.a = g.c + k * (g.a * k + g.b)
        · have b2 : (g.a == g.c + k * (g.a * k + g.b)) = true := by simpa using c3
          have b3 : decide (g.b + 2 * g.a * k ≥ 0) = false := by simpa using fun h => c2 ⟨c3, h⟩
          refine goA ?_
          refine evG ggA (ss_call (InB_of rfl) rfl rfl hcf) ?_
          refine goA ?_
          exact loopQ_intro (k := k') (s' := mkS [(1, .ptr 1 0), (2, .ptr 2 0), (3, .ptr 3 0), (4, .ptr 4 0)] [(1, .var [.v (iV (g.c + k * (g.a * k + g.b))), .v (iV (0 - (g.b + 2 * g.a * k))), .v (iV g.a)]), (2, .var [.v (iV 0), .v (iV 0), .v (iV 0)]), (3, .var [.v (iV 0), .v (iV 0), .v (iV 0), .v (iV 0)]), (4, .var [.v (iV (m.a * k + m.b)), .v (iV (0 - m.a)), .v (iV (m.c * k + m.d)), .v (iV (0 - m.c))])] 97 true) (by omega) (by exact entA)
            ⟨_, _, hSp, hbd, hdet, hby, hm, hr, rfl⟩
        · have b2 : (g.a == g.c + k * (g.a * k + g.b)) = false := by simpa using c3
          refine goA ?_
          refine evG ggA (ss_call (InB_of rfl) rfl rfl hcf) ?_
          refine goA ?_
          exact loopQ_intro (k := k') (s' := mkS [(1, .ptr 1 0), (2, .ptr 2 0), (3, .ptr 3 0), (4, .ptr 4 0)] [(1, .var [.v (iV (g.c + k * (g.a * k + g.b))), .v (iV (0 - (g.b + 2 * g.a * k))), .v (iV g.a)]), (2, .var [.v (iV 0), .v (iV 0), .v (iV 0)]), (3, .var [.v (iV 0), .v (iV 0), .v (iV 0), .v (iV 0)]), (4, .var [.v (iV (m.a * k + m.b)), .v (iV (0 - m.a)), .v (iV (m.c * k + m.d)), .v (iV (0 - m.c))])] 97 true) (by omega) (by exact entA)
            ⟨_, _, hSp, hbd, hdet, hby, hm, hr, rfl⟩
end Ab
