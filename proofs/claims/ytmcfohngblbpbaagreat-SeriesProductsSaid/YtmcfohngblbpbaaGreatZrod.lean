/- The statement SeriesProducts: its walk. -/
import Derived.Test.YtmcfohngblbpbaaGreatZrodC
import Derived.Test.YtmcfohngblbpbaaGreatGood
namespace Ab
open Go Go.RowKit Go.Proofs Hp
set_option maxRecDepth 100000

/-- what is not great is small, or not valid -/
theorem goodN {n : Nat} {a : Ser} (ha : SerOK a) (h : (ValidP a.from' (a.coef.map rawA).length && longB n (a.coef.map rawA)) = false) : ValidP a.from' (a.coef.map rawA).length = true → IsL (a.coef.map rawA) 4 (a.coef.map ratO) ∧ (a.coef.map ratO).length ≤ n := fun hv => by
  rw [hv, Bool.true_and] at h
  obtain ⟨h1, h2⟩ := isL_long ha.dig h
  exact ⟨h1, by rw [List.length_map]; exact h2⟩
set_option maxHeartbeats 4000000 in
theorem products_p (a b : Ser) (ha : SerOK a) (hb : SerOK b) : PC Tryz.prog 3 [serO a, serO b] (.p (.bool true)) := by
  have g1 := great_p 24 (pr_ok ha).1 (by decide) (pr_ok ha).2
  have g2 := great_p 24 (pr_ok hb).1 (by decide) (pr_ok hb).2
  have aw := awake_p
  unfold pr at g1 g2
  have k1 := goodN (n := 24) ha
  have k2 := goodN (n := 24) hb
  have r1 := inR_ser ha
  have r2 := inR_ser hb
  have le1 : (a.coef.map rawA).length = (a.coef.map ratO).length := by simp
  have le2 : (b.coef.map rawA).length = (b.coef.map ratO).length := by simp
  unfold serO
  simp only at g1 g2
  generalize a.coef.map ratO = l at *
  generalize b.coef.map ratO = m at *
  generalize a.coef.map rawA = es at *
  generalize a.from' = s at *
  generalize b.coef.map rawA = fs at *
  generalize b.from' = t at *
  cases hg1 : ValidP s es.length && longB 24 es with
  | true =>
    rw [hg1] at g1
    clear k1 k2
    refine pc_body1 true Tryz.func3 rfl rfl rfl (Nat.le_of_ble_eq_true rfl) CellT.tmp ?_
    refine goA ?_
    refine evG ggA (ss_call (InB_of rfl) rfl rfl g1) ?_
    refine goA ?_
    refine evG ggA (ss_call (InB_of rfl) rfl rfl aw) ?_
    refine goA ?_
    exact rfl
  | false =>
  rw [hg1] at g1
  cases hg2 : ValidP t fs.length && longB 24 fs with
  | true =>
    rw [hg2] at g2
    clear k1 k2
    refine pc_body1 true Tryz.func3 rfl rfl rfl (Nat.le_of_ble_eq_true rfl) CellT.tmp ?_
    refine goA ?_
    refine evG ggA (ss_call (InB_of rfl) rfl rfl g1) ?_
    refine goA ?_
    refine evG ggA (ss_call (InB_of rfl) rfl rfl g2) ?_
    refine goA ?_
    refine evG ggA (ss_call (InB_of rfl) rfl rfl aw) ?_
    refine goA ?_
    exact rfl
  | false =>
  rw [hg2] at g2
  have k1 := k1 hg1
  have k2 := k2 hg2
  have hB : Both s es t fs 4 l m := ⟨fun v w => ⟨(k1 v).1, (k2 w).1⟩, le1, le2, r1, r2⟩
  have hh1 : ValidP s l.length = true → (∀ q, q ∈ l → Ht q 4) ∧ l.length ≤ 24 := fun v => by
    rw [← le1] at v
    exact ⟨isL_ht (k1 v).1 (by decide), (k1 v).2⟩
  have hh2 : ValidP t m.length = true → (∀ q, q ∈ m → Ht q 4) ∧ m.length ≤ 24 := fun v => by
    rw [← le2] at v
    exact ⟨isL_ht (k2 v).1 (by decide), (k2 v).2⟩
  have p1 := mul_p hB (by decide)
  have p2 := rmul33_p (M := 24) hB (by decide) (by decide) (by decide) (fun v => by rw [le1]; exact (k1 v).2)
  have p3 := inv_p k1 le1 r1 (show 1 ≤ 4 ∧ 4 ≤ 100 by decide)
  have p4 := rinv_p k1 le1 r1 (show 1 ≤ 4 ∧ 4 ≤ 100 by decide)
  have p5 := quo_p k1 k2 le1 le2 r1 r2
  have p6 := rquo33_p k1 k2 le1 le2 r1 r2
  have h1 := mulR_ht (s := s) (t := t) (l := l) (m := m) (K := 4) (N := 24) (by decide) (fun v w => ⟨(hh1 v).1, (hh2 w).1, (hh1 v).2⟩)
  have h2 := invT_ht hh1
  have h3 := quoT_ht hh1 hh2
  have q1 := sameT_p (r := nrmT (mulR s l t m)) h1.1 (by decide) h1.2
  have q2 := sameT_p h2.1 (by decide) h2.2
  have q3 := sameT_p h3.1 (by decide) h3.2
  rw [serE_T] at p1 p2
  generalize nrmT (mulR s l t m) = R1 at *
  generalize invT s l = R2 at *
  generalize quoT s l t m = R3 at *
  obtain ⟨f1, l1, e1⟩ := R1
  obtain ⟨f2, l2, e2⟩ := R2
  obtain ⟨f3, l3, e3⟩ := R3
  clear hB hh1 hh2 k1 k2 h1 h2 h3 r1 r2 le1 le2
  refine pc_body1 true Tryz.func3 rfl rfl rfl (Nat.le_of_ble_eq_true rfl) CellT.tmp ?_
  refine goA ?_
  refine evG ggA (ss_call (InB_of rfl) rfl rfl g1) ?_
  refine goA ?_
  refine evG ggA (ss_call (InB_of rfl) rfl rfl g2) ?_
  refine goA ?_
  refine evG ggA (ss_call (InB_of rfl) rfl rfl p1) ?_
  refine goA ?_
  refine evG ggA (ss_call (InB_of rfl) rfl rfl p2) ?_
  refine goA ?_
  refine evG ggA (ss_call (InB_of rfl) rfl rfl p3) ?_
  refine goA ?_
  refine evG ggA (ss_call (InB_of rfl) rfl rfl p4) ?_
  refine goA ?_
  refine evG ggA (ss_call (InB_of rfl) rfl rfl p5) ?_
  refine goA ?_
  refine evG ggA (ss_call (InB_of rfl) rfl rfl p6) ?_
  refine goA ?_
  refine evG ggA (ss_call (InB_of rfl) rfl rfl q1) ?_
  refine goA ?_
  refine evG ggA (ss_call (InB_of rfl) rfl rfl q2) ?_
  refine goA ?_
  refine evG ggA (ss_call (InB_of rfl) rfl rfl q3) ?_
  refine goA ?_
  refine evG ggA (ss_call (InB_of rfl) rfl rfl aw) ?_
  refine goA ?_
  exact rfl
end Ab
