/- The document's Reduce, walked: the loops. -/
import Derived.Test.YtajlkcnlfiikeaaQwD
set_option linter.all false
namespace Ab
open Go Go.RowKit Go.Proofs Qf
set_option maxRecDepth 100000

theorem k_bd {a k N : Int} (ha : 0 < a) (h : Bd (4 * N) (2 * a * k)) : Bd (2 * N) k ∧ Bd (2 * N) (a * k) := by
  have e : 2 * a * k = 2 * (a * k) := by grind
  have h5 : k.natAbs ≤ (a * k).natAbs := by
    rw [Int.natAbs_mul]
    exact Nat.le_mul_of_pos_left _ (by omega)
  unfold Bd at *
  generalize a * k = q at *
  omega
set_option maxHeartbeats 4000000 in
theorem rreduce_p {f : F} {N : Int} (hp : f.Pos) (hB : FBd N f) (hN : 1 ≤ N) (hN9 : N ≤ 300000000) : PC Try.prog 38 [fA f] (fA f.rd) := by
  have hNN : N * N ≤ 90000000000000000 := Int.mul_le_mul hN9 hN9 (by omega) (by decide)
  have hN1 : N * 1 ≤ N * N := Int.mul_le_mul_of_nonneg_left hN (by omega)
  refine pc_body1 true Try.func38 rfl rfl rfl (Nat.le_of_ble_eq_true rfl) (CellT.agg agg_F) ?_
  refine goA ?_
  refine T.loop (fun n s1 => ∃ g : F, g.Pos ∧ FBd (3 * (N * N)) g ∧ (g.Red ∨ FBd N g) ∧ (∃ m : M, m.det = 1 ∧ g = f.by m) ∧ g.mes ≤ n ∧ s1 = mkS [(1, .ptr 1 0), (2, .ptr 2 0)] [(1, .var [.v (iV g.a), .v (iV g.b), .v (iV g.c)]), (2, .var [.v (iV 0), .v (iV 0), .v (iV 0)])] 78 true) f.mes
    (s' := mkS [(1, .ptr 1 0), (2, .ptr 2 0)] [(1, .var [.v (iV f.a), .v (iV f.b), .v (iV f.c)]), (2, .var [.v (iV 0), .v (iV 0), .v (iV 0)])] 78 true) (by exact entA)
    ⟨f, hp, hB.mono (by omega), .inr hB, ⟨.one, by decide, (by_one f).symm⟩, Nat.le_refl _, rfl⟩ ?_
  rintro n _ ⟨g, gp, gB3, gB0, ⟨m, gm, ge⟩, gn, rfl⟩
  have ha := gp.a
  have ci := is_p ha gB3 (by omega)
  refine goA ?_
  by_cases hr : g.Red
  case pos =>
    have e := rd_eq hp gm hr ge
    rw [decide_eq_true hr] at ci
    rw [← e]
    refine evG ggA (ss_call (InB_of rfl) rfl rfl ci) ?_
    refine goA ?_
    exact rfl
  rw [decide_eq_false hr] at ci
  have gB := gB0.resolve_left hr
  refine evG ggA (ss_call (InB_of rfl) rfl rfl ci) ?_
  refine goA ?_
  have ga := gB.a
  have gb := gB.b
  unfold Bd at ga gb
  refine T.loop (fun j s1 => ∃ k : Int, (k = 0 ∨ -g.a < g.b + 2 * g.a * k) ∧ Bd (2 * N) (2 * g.a * k) ∧ (g.b + 2 * g.a * k + N).toNat ≤ j ∧ s1 = mkS [(1, .ptr 1 0), (2, .ptr 2 0), (3, .v (iV k))] [(1, .var [.v (iV g.a), .v (iV g.b), .v (iV g.c)]), (2, .var [.v (iV 0), .v (iV 0), .v (iV 0)])] 78 true) (g.b + 2 * g.a * 0 + N).toNat
    (s' := mkS [(1, .ptr 1 0), (2, .ptr 2 0), (3, .v (iV 0))] [(1, .var [.v (iV g.a), .v (iV g.b), .v (iV g.c)]), (2, .var [.v (iV 0), .v (iV 0), .v (iV 0)])] 78 true) (by exact entA)
    ⟨0, .inl rfl, by unfold Bd; omega, Nat.le_refl _, rfl⟩ ?_
  rintro j _ ⟨k, k0, k1, kj, rfl⟩
  have kb := (k_bd ha (k1.mono (show 2 * N ≤ 4 * N by omega))).1
  have k1' := k1
  unfold Bd at k1 kb
  by_cases c1 : g.b + 2 * g.a * k > g.a
  case pos =>
    have b1 : decide (g.b + 2 * g.a * k > g.a) = true := by simpa using c1
    obtain ⟨m1, m2, m3⟩ := max_tdiv ha (show 0 ≤ g.b + 2 * g.a * k - g.a by omega)
    have tb := tdiv_bd (y := 2 * g.a) (N := 5 * N) (x := g.b + 2 * g.a * k - g.a) (by unfold Bd; omega)
    unfold Bd at tb
    refine goA ?_
    refine evG ggA (ss_div (InB_of rfl) rfl rfl (by omega) (w64 (by omega) (by omega))) ?_
    refine goA ?_
    have e : 2 * g.a * (k - max 1 ((g.b + 2 * g.a * k - g.a).tdiv (2 * g.a))) = 2 * g.a * k - 2 * g.a * max 1 ((g.b + 2 * g.a * k - g.a).tdiv (2 * g.a)) := Int.mul_sub _ _ _
    have hpm : 2 * g.a * 1 ≤ 2 * g.a * max 1 ((g.b + 2 * g.a * k - g.a).tdiv (2 * g.a)) := Int.mul_le_mul_of_nonneg_left m1 (by omega)
    exact loopQ_intro (k := (g.b + 2 * g.a * (k - max 1 ((g.b + 2 * g.a * k - g.a).tdiv (2 * g.a))) + N).toNat) (s' := mkS [(1, .ptr 1 0), (2, .ptr 2 0), (3, .v (iV (k - max 1 ((g.b + 2 * g.a * k - g.a).tdiv (2 * g.a)))))] [(1, .var [.v (iV g.a), .v (iV g.b), .v (iV g.c)]), (2, .var [.v (iV 0), .v (iV 0), .v (iV 0)])] 78 true) (by omega) (by exact entA)
      ⟨_, .inr (by omega), by unfold Bd; omega, Nat.le_refl _, rfl⟩
  have b1 : decide (g.b + 2 * g.a * k > g.a) = false := by simpa using c1
  refine goA ?_
  refine T.loop (fun j s1 => ∃ k : Int, g.b + 2 * g.a * k ≤ g.a ∧ Bd (2 * N) (2 * g.a * k) ∧ (N - (g.b + 2 * g.a * k)).toNat ≤ j ∧ s1 = mkS [(1, .ptr 1 0), (2, .ptr 2 0), (3, .v (iV k))] [(1, .var [.v (iV g.a), .v (iV g.b), .v (iV g.c)]), (2, .var [.v (iV 0), .v (iV 0), .v (iV 0)])] 78 true) (N - (g.b + 2 * g.a * k)).toNat
    (s' := mkS [(1, .ptr 1 0), (2, .ptr 2 0), (3, .v (iV k))] [(1, .var [.v (iV g.a), .v (iV g.b), .v (iV g.c)]), (2, .var [.v (iV 0), .v (iV 0), .v (iV 0)])] 78 true) (by exact entA)
    ⟨k, by omega, k1', Nat.le_refl _, rfl⟩ ?_
  clear k0 k1 k1' kb kj b1 c1 k j
  rintro j _ ⟨k, k0, k1, kj, rfl⟩
  have kbb := k_bd ha (k1.mono (show 2 * N ≤ 4 * N by omega))
  have kb := kbb.1
  unfold Bd at k1 kb
  by_cases c1 : g.b + 2 * g.a * k ≤ 0 - g.a
  case pos =>
    have b1 : decide (g.b + 2 * g.a * k ≤ 0 - g.a) = true := by simpa using c1
    obtain ⟨m1, m2, m3⟩ := max_tdiv ha (show 0 ≤ 0 - g.a - g.b - 2 * g.a * k by omega)
    have tb := tdiv_bd (y := 2 * g.a) (N := 5 * N) (x := 0 - g.a - g.b - 2 * g.a * k) (by unfold Bd; omega)
    unfold Bd at tb
    refine goA ?_
    refine evG ggA (ss_div (InB_of rfl) rfl rfl (by omega) (w64 (by omega) (by omega))) ?_
    refine goA ?_
    have e : 2 * g.a * (k + max 1 ((0 - g.a - g.b - 2 * g.a * k).tdiv (2 * g.a))) = 2 * g.a * k + 2 * g.a * max 1 ((0 - g.a - g.b - 2 * g.a * k).tdiv (2 * g.a)) := Int.mul_add _ _ _
    have hpm : 2 * g.a * 1 ≤ 2 * g.a * max 1 ((0 - g.a - g.b - 2 * g.a * k).tdiv (2 * g.a)) := Int.mul_le_mul_of_nonneg_left m1 (by omega)
    exact loopQ_intro (k := (N - (g.b + 2 * g.a * (k + max 1 ((0 - g.a - g.b - 2 * g.a * k).tdiv (2 * g.a))))).toNat) (s' := mkS [(1, .ptr 1 0), (2, .ptr 2 0), (3, .v (iV (k + max 1 ((0 - g.a - g.b - 2 * g.a * k).tdiv (2 * g.a)))))] [(1, .var [.v (iV g.a), .v (iV g.b), .v (iV g.c)]), (2, .var [.v (iV 0), .v (iV 0), .v (iV 0)])] 78 true) (by omega) (by exact entA)
      ⟨_, by omega, by unfold Bd; omega, Nat.le_refl _, rfl⟩
  have b1 : decide (g.b + 2 * g.a * k ≤ 0 - g.a) = false := by simpa using c1
  have hk := kk_unique ha (by omega) k0
  have hkk : (g.a - g.b) / (2 * g.a) = g.kk := rfl
  rw [hkk] at hk
  have ct := t_p k
  have cb := by_T hN hN9 gB kbb.1 kbb.2
  have ego : g.by (.T k) = g.go := by rw [F.go, hk]
  rw [ego] at cb
  have gop : g.go.Pos := gp.by (detT _)
  have goe := go_eq g
  have goa : g.go.a = g.a := by rw [goe]
  have ⟨gob1, gob2⟩ := go_b ha
  have goB : FBd (3 * (N * N)) g.go := by
    have h1 := bmul kbb.1 (show Bd N (g.a * k + g.b) by
      rw [goe] at gob1 gob2
      simp only at gob1 gob2
      rw [hk] at gob1 gob2
      have e : 2 * g.a * k = 2 * (g.a * k) := by grind
      unfold Bd
      generalize g.a * k = q at *
      omega)
    have e : 2 * N * N = 2 * (N * N) := by grind
    rw [e] at h1
    have gc := gB.c
    refine ⟨by unfold Bd; rw [goa]; omega, by unfold Bd; omega, ?_⟩
    rw [goe]
    simp only
    rw [hk]
    unfold Bd at *
    omega
  have cs := is_p (by omega) goB (by omega)
  have cS := s_p
  have cbS := by_S (by omega) goB
  have goF : g.go.fin = true → g.go.Red := fin_red ha
  have hpS : (g.go.by .S).Pos := gop.by detS
  have hmes : g.go.fin = false → (g.go.by .S).mes < g.mes := mes_lt gp
  have hmr : g.mes = g.a.toNat := by unfold F.mes; rw [if_neg hr]
  have bS := byS g.go
  have gop' := gop.c
  clear hkk hk kbb kb k0 kj
  refine goA ?_
  refine evG ggA (ss_call (InB_of rfl) rfl rfl ct) ?_
  refine goA ?_
  refine evG ggA (ss_call (InB_of rfl) rfl rfl cb) ?_
  refine goA ?_
  by_cases hgr : g.go.Red
  · rw [decide_eq_true hgr] at cs
    refine evG ggA (ss_call (InB_of rfl) rfl rfl cs) ?_
    refine goA ?_
    exact loopQ_intro (k := 0) (s' := mkS [(1, .ptr 1 0), (2, .ptr 2 0)] [(1, .var [.v (iV g.go.a), .v (iV g.go.b), .v (iV g.go.c)]), (2, .var [.v (iV 0), .v (iV 0), .v (iV 0)])] 78 true) (by omega) (by exact entA)
      ⟨g.go, gop, goB, .inl hgr, ⟨m.mul (.T g.kk), by rw [det_mul, gm, detT]; rfl, by rw [F.go, ge, by_mul]⟩, by unfold F.mes; rw [if_pos hgr]; exact Nat.le_refl _, rfl⟩
  · rw [decide_eq_false hgr] at cs
    have hff : g.go.fin = false := by
      cases h : g.go.fin with
      | false => rfl
      | true => exact absurd (goF h) hgr
    have hm2 := hmes hff
    have hca : g.go.c ≤ g.a := by
      unfold F.fin at hff
      simp only [Bool.or_eq_false_iff, decide_eq_false_iff_not] at hff
      omega
    rw [bS] at cbS hpS hm2
    have hby : (⟨g.go.c, -g.go.b, g.go.a⟩ : F) = f.by ((m.mul (.T g.kk)).mul .S) := by rw [← bS, mat_assoc, ← by_mul, ← by_mul, ← ge]; rfl
    refine evG ggA (ss_call (InB_of rfl) rfl rfl cs) ?_
    refine goA ?_
    refine evG ggA (ss_call (InB_of rfl) rfl rfl cS) ?_
    refine goA ?_
    refine evG ggA (ss_call (InB_of rfl) rfl rfl cbS) ?_
    refine goA ?_
    exact loopQ_intro (k := (⟨g.go.c, -g.go.b, g.go.a⟩ : F).mes) (s' := mkS [(1, .ptr 1 0), (2, .ptr 2 0)] [(1, .var [.v (iV g.go.c), .v (iV (-g.go.b)), .v (iV g.go.a)]), (2, .var [.v (iV 0), .v (iV 0), .v (iV 0)])] 78 true) (by omega) (by exact entA)
      ⟨_, hpS, ⟨by unfold Bd; simp only; omega, by unfold Bd; simp only; omega, by unfold Bd; simp only; omega⟩, .inr ⟨by unfold Bd; simp only; omega, by unfold Bd; simp only; omega, by unfold Bd; simp only; omega⟩, ⟨_, by rw [det_mul, det_mul, gm, detT, detS]; rfl, hby⟩, Nat.le_refl _, rfl⟩
end Ab
