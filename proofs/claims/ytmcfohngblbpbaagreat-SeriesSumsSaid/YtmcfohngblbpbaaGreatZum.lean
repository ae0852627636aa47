/- The statement SeriesSums: its walk. -/
import Derived.Test.YtmcfohngblbpbaaGreatZumC
import Derived.Test.YtmcfohngblbpbaaGreatGood
namespace Ab
open Go Go.RowKit Go.Proofs Hp
set_option maxRecDepth 100000

/-- what is not great is small, or not valid -/
theorem good60 {n : Nat} {a : Ser} (ha : SerOK a) (h : (ValidP a.from' (a.coef.map rawA).length && longB n (a.coef.map rawA)) = false) : ValidP a.from' (a.coef.map rawA).length = true → IsL (a.coef.map rawA) 4 (a.coef.map ratO) ∧ (a.coef.map rawA).length ≤ n := fun hv => by
  rw [hv, Bool.true_and] at h
  obtain ⟨h1, h2⟩ := isL_long ha.dig h
  exact ⟨h1, by rw [List.length_map]; exact h2⟩
set_option maxHeartbeats 4000000 in
theorem sums_p (a b : Ser) (ha : SerOK a) (hb : SerOK b) : PC Tryz.prog 4 [serO a, serO b] (.p (.bool true)) := by
  have g1 := great_p 60 (pr_ok ha).1 (by decide) (pr_ok ha).2
  have g2 := great_p 60 (pr_ok hb).1 (by decide) (pr_ok hb).2
  have aw := awake_p
  unfold pr at g1 g2
  have k1 := good60 (n := 60) ha
  have k2 := good60 (n := 60) hb
  have r1 := inR_ser ha
  have r2 := inR_ser hb
  have le1 : (a.coef.map rawA).length = (a.coef.map ratO).length := by simp
  have le2 : (b.coef.map rawA).length = (b.coef.map ratO).length := by simp
  unfold serO
  simp only at g1 g2
  generalize a.coef.map ratO = l at *
  generalize b.coef.map ratO = m at *
  generalize a.coef.map rawA = es at *
  generalize a.from' = s at *
  generalize b.coef.map rawA = fs at *
  generalize b.from' = t at *
  cases hg1 : ValidP s es.length && longB 60 es with
  | true =>
    rw [hg1] at g1
    clear k1 k2
    refine pc_body1 true Tryz.func4 rfl rfl rfl (Nat.le_of_ble_eq_true rfl) CellT.tmp ?_
    refine goA ?_
    refine evG ggA (ss_call (InB_of rfl) rfl rfl g1) ?_
    refine goA ?_
    refine evG ggA (ss_call (InB_of rfl) rfl rfl aw) ?_
    refine goA ?_
    exact rfl
  | false =>
  rw [hg1] at g1
  cases hg2 : ValidP t fs.length && longB 60 fs with
  | true =>
    rw [hg2] at g2
    clear k1 k2
    refine pc_body1 true Tryz.func4 rfl rfl rfl (Nat.le_of_ble_eq_true rfl) CellT.tmp ?_
    refine goA ?_
    refine evG ggA (ss_call (InB_of rfl) rfl rfl g1) ?_
    refine goA ?_
    refine evG ggA (ss_call (InB_of rfl) rfl rfl g2) ?_
    refine goA ?_
    refine evG ggA (ss_call (InB_of rfl) rfl rfl aw) ?_
    refine goA ?_
    exact rfl
  | false =>
  rw [hg2] at g2
  have hB : Both s es t fs 4 l m := ⟨fun v w => ⟨(k1 hg1 v).1, (k2 hg2 w).1⟩, le1, le2, r1, r2⟩
  have hh : ValidP s l.length = true → ValidP t m.length = true → (∀ q, q ∈ l → Ht q 4) ∧ (∀ q, q ∈ m → Ht q 4) := fun v w => by
    rw [← le1] at v
    rw [← le2] at w
    exact ⟨isL_ht (k1 hg1 v).1 (by decide), isL_ht (k2 hg2 w).1 (by decide)⟩
  have p1 := add_p hB (by decide)
  have p2 := radd33_p hB (by decide)
  have p3 := sub_p hB (by decide)
  have p4 := rsub33_p hB (by decide)
  have p5 := differ_p hB (by decide)
  have p6 := rdiffer_p hB (by decide)
  have h1 := comb_ht (c := 1) (by decide) (by decide) hh
  have h2 := comb_ht (c := -1) (by decide) (by decide) hh
  have q1 := same_p h1.1 (by decide) h1.2
  have q2 := same_p h2.1 (by decide) h2.2
  rw [serE_eq] at p1 p2 p3 p4
  unfold tup3 at p5 p6
  generalize combR s l t m 1 = R1 at *
  generalize combR s l t m (-1) = R2 at *
  have b1 : ((difR s l t m).1 == (difR s l t m).1) = true := by simp
  have b2 : ((difR s l t m).2.1 == (difR s l t m).2.1) = true := by simp
  have b3 : ((difR s l t m).2.2 == (difR s l t m).2.2) = true := by simp
  generalize (difR s l t m).1 = d1 at *
  generalize (difR s l t m).2.1 = d2 at *
  generalize (difR s l t m).2.2 = d3 at *
  clear hB hh k1 k2 h1 h2 r1 r2 le1 le2
  refine pc_body1 true Tryz.func4 rfl rfl rfl (Nat.le_of_ble_eq_true rfl) CellT.tmp ?_
  refine goA ?_
  refine evG ggA (ss_call (InB_of rfl) rfl rfl g1) ?_
  refine goA ?_
  refine evG ggA (ss_call (InB_of rfl) rfl rfl g2) ?_
  refine goA ?_
  refine evG ggA (ss_call (InB_of rfl) rfl rfl p1) ?_
  refine goA ?_
  refine evG ggA (ss_call (InB_of rfl) rfl rfl p2) ?_
  refine goA ?_
  refine evG ggA (ss_call (InB_of rfl) rfl rfl p3) ?_
  refine goA ?_
  refine evG ggA (ss_call (InB_of rfl) rfl rfl p4) ?_
  refine goA ?_
  refine evG ggA (ss_call (InB_of rfl) rfl rfl p5) ?_
  refine goA ?_
  refine evG ggA (ss_call (InB_of rfl) rfl rfl p6) ?_
  refine goA ?_
  refine evG ggA (ss_call (InB_of rfl) rfl rfl q1) ?_
  refine goA ?_
  refine evG ggA (ss_call (InB_of rfl) rfl rfl q2) ?_
  refine goA ?_
  refine evG ggA (ss_call (InB_of rfl) rfl rfl aw) ?_
  refine goA ?_
  exact rfl
end Ab
