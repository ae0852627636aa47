/- The order of terms and the library's insertion sort of terms, walked; no condition. -/
import Derived.Test.YtkbccidalhefaaaQmS
import Derived.Test.YtkbccidalhefaaaQx
import Derived.Test.YtkbccidalhefaaaTz
set_option linter.all false
namespace Ab
open Go Go.RowKit Go.Proofs Hp
set_option maxRecDepth 100000

def QE.sm (e : QE) : Prop := (-1000000 ≤ e.a ∧ e.a ≤ 1000000) ∧ (-1000000 ≤ e.b ∧ e.b ≤ 1000000) ∧ -1000000 ≤ e.c ∧ e.c ≤ 1000000
def ordR (x y : QE) : Int := if x.a = y.a then (if x.b = y.b then x.c - y.c else x.b - y.b) else x.a - y.a
theorem ordR_lt (x y : QE) : ordR x y < 0 ↔ kl x.k y.k := by
  unfold ordR kl QE.k
  split
  · split <;> simp only [] <;> omega
  · simp only []; omega
theorem ordR_0 (x y : QE) : ordR x y = 0 ↔ x.k = y.k := by
  unfold ordR QE.k
  simp only [Prod.mk.injEq]
  split
  · split <;> omega
  · omega
theorem order_p {x y : QE} (hx : x.sm) (hy : y.sm) : PC Try.prog 34 [x.av, y.av] (iV (ordR x y)) := by
  obtain ⟨a, b, c, g, d, g', d', q⟩ := x
  obtain ⟨a2, b2, c2, g2, d2, g2', d2', q2⟩ := y
  obtain ⟨⟨h1, h2⟩, ⟨h3, h4⟩, h5, h6⟩ := hx
  obtain ⟨⟨k1, k2⟩, ⟨k3, k4⟩, k5, k6⟩ := hy
  simp only at h1 h2 h3 h4 h5 h6 k1 k2 k3 k4 k5 k6
  unfold ordR QE.av
  simp only []
  by_cases e1 : a = a2
  · have b1 : (a != a2) = false := by simp [e1]
    rw [if_pos e1]
    by_cases e2 : b = b2
    · have b3 : (b != b2) = false := by simp [e2]
      rw [if_pos e2]
      refine pc_body1 true Try.func34 rfl rfl rfl (Nat.le_of_ble_eq_true rfl) CellT.tmp ?_
      refine goA ?_
      exact rfl
    · have b3 : (b != b2) = true := by simp [e2]
      rw [if_neg e2]
      refine pc_body1 true Try.func34 rfl rfl rfl (Nat.le_of_ble_eq_true rfl) CellT.tmp ?_
      refine goA ?_
      exact rfl
  · have b1 : (a != a2) = true := by simp [e1]
    rw [if_neg e1]
    refine pc_body1 true Try.func34 rfl rfl rfl (Nat.le_of_ble_eq_true rfl) CellT.tmp ?_
    refine goA ?_
    exact rfl
abbrev QL (l : List QE) : List (Nat × Blk) := [(0, .lst 7 40 (l.map QE.av))]
theorem av_get {p q : List QE} {x : QE} {j : Nat} (hj : p.length = j) : ((p ++ x :: q).map QE.av)[j]? = some x.av := by
  rw [List.map_append, List.map_cons]
  exact get_app (by rw [List.length_map]; exact hj)
theorem av_get1 {p q : List QE} {x y : QE} {j : Nat} (hj : p.length = j) : ((p ++ x :: y :: q).map QE.av)[j + 1]? = some y.av := by
  rw [List.map_append, List.map_cons, List.map_cons]
  exact get_app1 (by rw [List.length_map]; exact hj)
theorem av_swap {p q : List QE} {x y : QE} {j : Nat} (hj : p.length = j) : (((p ++ x :: y :: q).map QE.av).set (j + 1) x.av).set j y.av = (p ++ y :: x :: q).map QE.av := by
  rw [List.map_append, List.map_cons, List.map_cons, List.map_append, List.map_cons, List.map_cons]
  exact set_swap (by rw [List.length_map]; exact hj)
set_option maxHeartbeats 8000000 in
theorem isort_p {n a b : Nat} {pre U post : List QE} (hn : (pre ++ (U ++ post)).length = n) (hn2 : n ≤ 1000000) (ha : pre.length = a) (hb : a + U.length = b) (hs : ∀ e, e ∈ U → e.sm) :
    PCM true Try.prog 65 [.own 0 n, .v (iV a), .v (iV b), .fn 34 []] (QL (pre ++ (U ++ post))) true (.v (.tup [])) (QL (pre ++ (qis U ++ post))) := by
  have hlen : pre.length + (U.length + post.length) = n := by rw [← hn]; simp
  refine pc_bodyM0 Try.func65 rfl rfl rfl (Nat.le_of_ble_eq_true rfl) ?_
  refine goA ?_
  rcases U with _ | ⟨u, V⟩
  · refine T.loop (fun N s1 => s1 = mkP [(0, .own 0 n), (1, .v (iV a)), (2, .v (iV b)), (3, .fn 34 []), (8, .v (iV ((a : Int) + 1)))] (QL (pre ++ ([] ++ post))) 53 true [0]) 0
      (s' := mkP [(0, .own 0 n), (1, .v (iV a)), (2, .v (iV b)), (3, .fn 34 []), (8, .v (iV ((a : Int) + 1)))] (QL (pre ++ ([] ++ post))) 53 true [0]) (by (refine Ent.mkP rfl rfl rfl rfl ?_ ?_ <;> (repeat (first | exact trivial | exact ⟨_, rfl, .inl ⟨rfl, ⟨_, rfl⟩, ⟨_, rfl⟩, trivial⟩⟩ | exact ⟨_, rfl, .inl ⟨rfl, ⟨_, rfl⟩, trivial⟩⟩ | refine And.intro ?_ ?_ | exact ⟨_, rfl, .inl ⟨rfl, trivial⟩⟩ | exact ⟨_, rfl, .inl ⟨rfl, _, rfl⟩⟩ | exact .inl ⟨rfl, trivial⟩ | exact .inl ⟨rfl, _, rfl⟩ | exact ⟨_, rfl, .inr (.inl ⟨rfl, rfl⟩)⟩ | exact .inr (.inl ⟨rfl, rfl⟩) | exact ⟨_, rfl, .inr (.inr (.inl ⟨_, _, _, _, _, rfl, rfl, by first | rfl | assumption | simp, rfl, rfl⟩))⟩ | exact .inr (.inr (.inl ⟨_, _, _, _, _, rfl, rfl, by first | rfl | assumption | simp, rfl, rfl⟩)) | exact ⟨_, rfl, .inr (.inr (.inr ⟨_, _, _, rfl, rfl, rfl, rfl⟩))⟩ | exact .inr (.inr (.inr ⟨_, _, _, rfl, rfl, rfl, rfl⟩)) | rfl)))) rfl ?_
    rintro _ _ rfl
    have hb1 : decide ((a : Int) + 1 < (b : Int)) = false := decide_eq_false (by simp at hb; omega)
    refine goA ?_
    exact ⟨.inl rfl, by (refine Ent.mkP rfl rfl rfl rfl ?_ ?_ <;> (repeat (first | exact trivial | exact ⟨_, rfl, .inl ⟨rfl, ⟨_, rfl⟩, ⟨_, rfl⟩, trivial⟩⟩ | exact ⟨_, rfl, .inl ⟨rfl, ⟨_, rfl⟩, trivial⟩⟩ | refine And.intro ?_ ?_ | exact ⟨_, rfl, .inl ⟨rfl, trivial⟩⟩ | exact ⟨_, rfl, .inl ⟨rfl, _, rfl⟩⟩ | exact .inl ⟨rfl, trivial⟩ | exact .inl ⟨rfl, _, rfl⟩ | exact ⟨_, rfl, .inr (.inl ⟨rfl, rfl⟩)⟩ | exact .inr (.inl ⟨rfl, rfl⟩) | exact ⟨_, rfl, .inr (.inr (.inl ⟨_, _, _, _, _, rfl, rfl, by first | rfl | assumption | simp, rfl, rfl⟩))⟩ | exact .inr (.inr (.inl ⟨_, _, _, _, _, rfl, rfl, by first | rfl | assumption | simp, rfl, rfl⟩)) | exact ⟨_, rfl, .inr (.inr (.inr ⟨_, _, _, rfl, rfl, rfl, rfl⟩))⟩ | exact .inr (.inr (.inr ⟨_, _, _, rfl, rfl, rfl, rfl⟩)) | rfl)))⟩
  simp only [List.length_cons] at hlen hb
  refine T.loop (fun N s1 => ∃ (D R : List QE) (i : Int), u :: V = D ++ R ∧ N = R.length ∧ i = (a : Int) + D.length ∧ s1 = mkP [(0, .own 0 n), (1, .v (iV a)), (2, .v (iV b)), (3, .fn 34 []), (8, .v (iV i))] (QL (pre ++ (qis D ++ (R ++ post)))) 53 true [0]) V.length
    (s' := mkP [(0, .own 0 n), (1, .v (iV a)), (2, .v (iV b)), (3, .fn 34 []), (8, .v (iV ((a : Int) + 1)))] (QL (pre ++ (qis [u] ++ (V ++ post)))) 53 true [0]) (by (refine Ent.mkP rfl rfl rfl rfl ?_ ?_ <;> (repeat (first | exact trivial | exact ⟨_, rfl, .inl ⟨rfl, ⟨_, rfl⟩, ⟨_, rfl⟩, trivial⟩⟩ | exact ⟨_, rfl, .inl ⟨rfl, ⟨_, rfl⟩, trivial⟩⟩ | refine And.intro ?_ ?_ | exact ⟨_, rfl, .inl ⟨rfl, trivial⟩⟩ | exact ⟨_, rfl, .inl ⟨rfl, _, rfl⟩⟩ | exact .inl ⟨rfl, trivial⟩ | exact .inl ⟨rfl, _, rfl⟩ | exact ⟨_, rfl, .inr (.inl ⟨rfl, rfl⟩)⟩ | exact .inr (.inl ⟨rfl, rfl⟩) | exact ⟨_, rfl, .inr (.inr (.inl ⟨_, _, _, _, _, rfl, rfl, by first | rfl | assumption | simp, rfl, rfl⟩))⟩ | exact .inr (.inr (.inl ⟨_, _, _, _, _, rfl, rfl, by first | rfl | assumption | simp, rfl, rfl⟩)) | exact ⟨_, rfl, .inr (.inr (.inr ⟨_, _, _, rfl, rfl, rfl, rfl⟩))⟩ | exact .inr (.inr (.inr ⟨_, _, _, rfl, rfl, rfl, rfl⟩)) | rfl)))) ⟨[u], V, (a : Int) + 1, rfl, rfl, rfl, rfl⟩ ?_
  rintro _ _ ⟨D, R, i, hU, rfl, hi, rfl⟩
  have hDR : V.length + 1 = D.length + R.length := by have := congrArg List.length hU; simpa using this
  rcases R with _ | ⟨x, R⟩
  · have hb1 : decide (i < (b : Int)) = false := decide_eq_false (by simp at hDR; omega)
    rw [List.append_nil] at hU
    subst hU
    refine goA ?_
    exact ⟨.inl rfl, by (refine Ent.mkP rfl rfl rfl rfl ?_ ?_ <;> (repeat (first | exact trivial | exact ⟨_, rfl, .inl ⟨rfl, ⟨_, rfl⟩, ⟨_, rfl⟩, trivial⟩⟩ | exact ⟨_, rfl, .inl ⟨rfl, ⟨_, rfl⟩, trivial⟩⟩ | refine And.intro ?_ ?_ | exact ⟨_, rfl, .inl ⟨rfl, trivial⟩⟩ | exact ⟨_, rfl, .inl ⟨rfl, _, rfl⟩⟩ | exact .inl ⟨rfl, trivial⟩ | exact .inl ⟨rfl, _, rfl⟩ | exact ⟨_, rfl, .inr (.inl ⟨rfl, rfl⟩)⟩ | exact .inr (.inl ⟨rfl, rfl⟩) | exact ⟨_, rfl, .inr (.inr (.inl ⟨_, _, _, _, _, rfl, rfl, by first | rfl | assumption | simp, rfl, rfl⟩))⟩ | exact .inr (.inr (.inl ⟨_, _, _, _, _, rfl, rfl, by first | rfl | assumption | simp, rfl, rfl⟩)) | exact ⟨_, rfl, .inr (.inr (.inr ⟨_, _, _, rfl, rfl, rfl, rfl⟩))⟩ | exact .inr (.inr (.inr ⟨_, _, _, rfl, rfl, rfl, rfl⟩)) | rfl)))⟩
  have hb1 : decide (i < (b : Int)) = true := decide_eq_true (by simp at hDR; omega)
  have hxs : x.sm := hs x (by rw [hU]; simp)
  have hDs : ∀ e, e ∈ qis D → e.sm := fun e he => hs e (by rw [hU]; exact List.mem_append_left _ ((qis_perm D).mem_iff.1 he))
  have hql := qis_len D
  simp only [List.length_cons] at hDR
  refine goA ?_
  refine T.loop (fun N s1 => ∃ (S1 S2 : List QE) (j : Int), qis D = S1 ++ S2 ∧ N = S1.length ∧ (∀ y, y ∈ S2 → kl x.k y.k) ∧ j = (a : Int) + S1.length ∧ s1 = mkP [(0, .own 0 n), (1, .v (iV a)), (2, .v (iV b)), (3, .fn 34 []), (8, .v (iV i)), (9, .v (iV j))] (QL (pre ++ (S1 ++ x :: (S2 ++ (R ++ post))))) 53 true [0]) (qis D).length
    (s' := mkP [(0, .own 0 n), (1, .v (iV a)), (2, .v (iV b)), (3, .fn 34 []), (8, .v (iV i)), (9, .v (iV i))] (QL (pre ++ (qis D ++ x :: ([] ++ (R ++ post))))) 53 true [0]) (by (refine Ent.mkP rfl rfl rfl rfl ?_ ?_ <;> (repeat (first | exact trivial | exact ⟨_, rfl, .inl ⟨rfl, ⟨_, rfl⟩, ⟨_, rfl⟩, trivial⟩⟩ | exact ⟨_, rfl, .inl ⟨rfl, ⟨_, rfl⟩, trivial⟩⟩ | refine And.intro ?_ ?_ | exact ⟨_, rfl, .inl ⟨rfl, trivial⟩⟩ | exact ⟨_, rfl, .inl ⟨rfl, _, rfl⟩⟩ | exact .inl ⟨rfl, trivial⟩ | exact .inl ⟨rfl, _, rfl⟩ | exact ⟨_, rfl, .inr (.inl ⟨rfl, rfl⟩)⟩ | exact .inr (.inl ⟨rfl, rfl⟩) | exact ⟨_, rfl, .inr (.inr (.inl ⟨_, _, _, _, _, rfl, rfl, by first | rfl | assumption | simp, rfl, rfl⟩))⟩ | exact .inr (.inr (.inl ⟨_, _, _, _, _, rfl, rfl, by first | rfl | assumption | simp, rfl, rfl⟩)) | exact ⟨_, rfl, .inr (.inr (.inr ⟨_, _, _, rfl, rfl, rfl, rfl⟩))⟩ | exact .inr (.inr (.inr ⟨_, _, _, rfl, rfl, rfl, rfl⟩)) | rfl)))) ⟨qis D, [], i, (List.append_nil _).symm, rfl, fun y hy => (by cases hy), by omega, rfl⟩ ?_
  rintro _ _ ⟨S1, S2, j, hS, rfl, hgt, hj, rfl⟩
  have hSl : S1.length + S2.length = D.length := by rw [← hql, hS]; simp
  have hnx : i + 1 = (a : Int) + ((D ++ [x]).length : Nat) := by simp; omega
  rcases nil_or S1 with h0 | ⟨S, y, h0⟩
  · subst h0
    have hb2 : decide (j > (a : Int)) = false := decide_eq_false (by simp at hj; omega)
    have e1 : qis (D ++ [x]) = x :: S2 := by rw [qis_app, hS]; exact qin_eq [] S2 x (fun y hy => (by cases hy)) hgt
    refine goA ?_
    exact loopQ_intro (k := R.length) (s' := mkP [(0, .own 0 n), (1, .v (iV a)), (2, .v (iV b)), (3, .fn 34 []), (8, .v (iV (i + 1)))] (QL (pre ++ (x :: S2 ++ (R ++ post)))) 53 true [0]) (by simp) (by (refine Ent.mkP rfl rfl rfl rfl ?_ ?_ <;> (repeat (first | exact trivial | exact ⟨_, rfl, .inl ⟨rfl, ⟨_, rfl⟩, ⟨_, rfl⟩, trivial⟩⟩ | exact ⟨_, rfl, .inl ⟨rfl, ⟨_, rfl⟩, trivial⟩⟩ | refine And.intro ?_ ?_ | exact ⟨_, rfl, .inl ⟨rfl, trivial⟩⟩ | exact ⟨_, rfl, .inl ⟨rfl, _, rfl⟩⟩ | exact .inl ⟨rfl, trivial⟩ | exact .inl ⟨rfl, _, rfl⟩ | exact ⟨_, rfl, .inr (.inl ⟨rfl, rfl⟩)⟩ | exact .inr (.inl ⟨rfl, rfl⟩) | exact ⟨_, rfl, .inr (.inr (.inl ⟨_, _, _, _, _, rfl, rfl, by first | rfl | assumption | simp, rfl, rfl⟩))⟩ | exact .inr (.inr (.inl ⟨_, _, _, _, _, rfl, rfl, by first | rfl | assumption | simp, rfl, rfl⟩)) | exact ⟨_, rfl, .inr (.inr (.inr ⟨_, _, _, rfl, rfl, rfl, rfl⟩))⟩ | exact .inr (.inr (.inr ⟨_, _, _, rfl, rfl, rfl, rfl⟩)) | rfl)))) ⟨D ++ [x], R, i + 1, by rw [hU, List.append_assoc]; rfl, rfl, hnx, by rw [e1]⟩
  subst h0
  simp only [List.length_append, List.length_cons, List.length_nil] at hSl hj
  have hb2 : decide (j > (a : Int)) = true := decide_eq_true (by omega)
  have hys : y.sm := hDs y (by rw [hS]; simp)
  have hL : pre ++ (S ++ [y] ++ x :: (S2 ++ (R ++ post))) = (pre ++ S) ++ y :: x :: (S2 ++ (R ++ post)) := by simp
  rw [hL]
  obtain ⟨P, hP⟩ : ∃ P, P = pre ++ S := ⟨_, rfl⟩
  have hPl : P.length = a + S.length := by rw [hP]; simp [ha]
  rw [← hP]
  have hQl : ((P ++ y :: x :: (S2 ++ (R ++ post))).map QE.av).length = n := by simp; omega
  have g0 : ((P ++ y :: x :: (S2 ++ (R ++ post))).map QE.av)[a + S.length]? = some y.av := av_get hPl
  have g1 : ((P ++ y :: x :: (S2 ++ (R ++ post))).map QE.av)[a + S.length + 1]? = some x.av := av_get1 hPl
  have gs : (((P ++ y :: x :: (S2 ++ (R ++ post))).map QE.av).set (a + S.length + 1) y.av).set (a + S.length) x.av = (P ++ x :: y :: (S2 ++ (R ++ post))).map QE.av := av_swap hPl
  have t1 : j.toNat = a + S.length + 1 := by omega
  have t2 : (j - 1).toNat = a + S.length := by omega
  have c1 := order_p hxs hys
  by_cases hlt : kl x.k y.k
  · have hb3 : decide (ordR x y < 0) = true := decide_eq_true ((ordR_lt x y).2 hlt)
    refine goA ?_
    refine evG ggA (ss_index_own (InB_of rfl) (elem_tab rfl) rfl rfl hQl rfl (by omega) (by omega)) ?_
    rw [t1]
    refine evG ggA (ss_load_opagg (InB_of rfl) (agg_tab rfl) rfl rfl hQl g1) ?_
    refine goA ?_
    refine evG ggA (ss_index_own (InB_of rfl) (elem_tab rfl) rfl rfl hQl rfl (by omega) (by omega)) ?_
    rw [t2]
    refine evG ggA (ss_load_opagg (InB_of rfl) (agg_tab rfl) rfl rfl hQl g0) ?_
    refine goA ?_
    refine evG ggA (ss_callV (InB_of rfl) rfl rfl rfl c1) ?_
    refine goA ?_
    refine evG ggA (ss_index_own (InB_of rfl) (elem_tab rfl) rfl rfl hQl rfl (by omega) (by omega)) ?_
    rw [t2]
    refine evG ggA (ss_load_opagg (InB_of rfl) (agg_tab rfl) rfl rfl hQl g0) ?_
    refine goA ?_
    refine evG ggA (ss_index_own (InB_of rfl) (elem_tab rfl) rfl rfl hQl rfl (by omega) (by omega)) ?_
    rw [t1]
    refine evG ggA (ss_load_opagg (InB_of rfl) (agg_tab rfl) rfl rfl hQl g1) ?_
    refine evG ggA (ss_index_own (InB_of rfl) (elem_tab rfl) rfl rfl hQl rfl (by omega) (by omega)) ?_
    rw [t1]
    refine evG ggA (ss_store_own (x := y.av) rfl (size_tab rfl) rfl rfl hQl (by omega) rfl rfl (fun l e => by cases e) rfl) ?_
    refine evG ggA (ss_index_own (InB_of rfl) (elem_tab rfl) rfl rfl (by rw [List.length_set]; exact hQl) rfl (by omega) (by omega)) ?_
    rw [t2]
    refine evG ggA (ss_store_own (x := x.av) rfl (size_tab rfl) rfl rfl (by rw [List.length_set]; exact hQl) (by omega) rfl rfl (fun l e => by cases e) rfl) ?_
    rw [gs]
    refine goA ?_
    have hL2 : P ++ x :: y :: (S2 ++ (R ++ post)) = pre ++ (S ++ x :: ((y :: S2) ++ (R ++ post))) := by rw [hP]; simp
    rw [hL2]
    exact loopQ_intro (k := S.length) (s' := mkP [(0, .own 0 n), (1, .v (iV a)), (2, .v (iV b)), (3, .fn 34 []), (8, .v (iV i)), (9, .v (iV (j - 1)))] (QL (pre ++ (S ++ x :: ((y :: S2) ++ (R ++ post))))) 53 true [0]) (by simp) (by (refine Ent.mkP rfl rfl rfl rfl ?_ ?_ <;> (repeat (first | exact trivial | exact ⟨_, rfl, .inl ⟨rfl, ⟨_, rfl⟩, ⟨_, rfl⟩, trivial⟩⟩ | exact ⟨_, rfl, .inl ⟨rfl, ⟨_, rfl⟩, trivial⟩⟩ | refine And.intro ?_ ?_ | exact ⟨_, rfl, .inl ⟨rfl, trivial⟩⟩ | exact ⟨_, rfl, .inl ⟨rfl, _, rfl⟩⟩ | exact .inl ⟨rfl, trivial⟩ | exact .inl ⟨rfl, _, rfl⟩ | exact ⟨_, rfl, .inr (.inl ⟨rfl, rfl⟩)⟩ | exact .inr (.inl ⟨rfl, rfl⟩) | exact ⟨_, rfl, .inr (.inr (.inl ⟨_, _, _, _, _, rfl, rfl, by first | rfl | assumption | simp, rfl, rfl⟩))⟩ | exact .inr (.inr (.inl ⟨_, _, _, _, _, rfl, rfl, by first | rfl | assumption | simp, rfl, rfl⟩)) | exact ⟨_, rfl, .inr (.inr (.inr ⟨_, _, _, rfl, rfl, rfl, rfl⟩))⟩ | exact .inr (.inr (.inr ⟨_, _, _, rfl, rfl, rfl, rfl⟩)) | rfl)))) ⟨S, y :: S2, j - 1, by rw [hS]; simp, rfl, fun z hz => by
      rcases List.mem_cons.1 hz with rfl | hz
      · exact hlt
      · exact hgt z hz, by omega, rfl⟩
  · have hb3 : decide (ordR x y < 0) = false := decide_eq_false fun h => hlt ((ordR_lt x y).1 h)
    have e1 : qis (D ++ [x]) = (S ++ [y]) ++ x :: S2 := by
      rw [qis_app, hS]
      have hso : ES (S ++ [y]) := (es_app.1 (by rw [← hS]; exact qis_sorted D)).1
      refine qin_eq (S ++ [y]) S2 x (fun z hz => ?_) hgt
      exact ke_tr (es_last hso z hz) hlt
    refine goA ?_
    refine evG ggA (ss_index_own (InB_of rfl) (elem_tab rfl) rfl rfl hQl rfl (by omega) (by omega)) ?_
    rw [t1]
    refine evG ggA (ss_load_opagg (InB_of rfl) (agg_tab rfl) rfl rfl hQl g1) ?_
    refine goA ?_
    refine evG ggA (ss_index_own (InB_of rfl) (elem_tab rfl) rfl rfl hQl rfl (by omega) (by omega)) ?_
    rw [t2]
    refine evG ggA (ss_load_opagg (InB_of rfl) (agg_tab rfl) rfl rfl hQl g0) ?_
    refine goA ?_
    refine evG ggA (ss_callV (InB_of rfl) rfl rfl rfl c1) ?_
    refine goA ?_
    have hL2 : P ++ y :: x :: (S2 ++ (R ++ post)) = pre ++ ((S ++ [y]) ++ x :: S2 ++ (R ++ post)) := by rw [hP]; simp
    rw [hL2, ← e1]
    exact loopQ_intro (k := R.length) (s' := mkP [(0, .own 0 n), (1, .v (iV a)), (2, .v (iV b)), (3, .fn 34 []), (8, .v (iV (i + 1)))] (QL (pre ++ (qis (D ++ [x]) ++ (R ++ post)))) 53 true [0]) (by simp) (by (refine Ent.mkP rfl rfl rfl rfl ?_ ?_ <;> (repeat (first | exact trivial | exact ⟨_, rfl, .inl ⟨rfl, ⟨_, rfl⟩, ⟨_, rfl⟩, trivial⟩⟩ | exact ⟨_, rfl, .inl ⟨rfl, ⟨_, rfl⟩, trivial⟩⟩ | refine And.intro ?_ ?_ | exact ⟨_, rfl, .inl ⟨rfl, trivial⟩⟩ | exact ⟨_, rfl, .inl ⟨rfl, _, rfl⟩⟩ | exact .inl ⟨rfl, trivial⟩ | exact .inl ⟨rfl, _, rfl⟩ | exact ⟨_, rfl, .inr (.inl ⟨rfl, rfl⟩)⟩ | exact .inr (.inl ⟨rfl, rfl⟩) | exact ⟨_, rfl, .inr (.inr (.inl ⟨_, _, _, _, _, rfl, rfl, by first | rfl | assumption | simp, rfl, rfl⟩))⟩ | exact .inr (.inr (.inl ⟨_, _, _, _, _, rfl, rfl, by first | rfl | assumption | simp, rfl, rfl⟩)) | exact ⟨_, rfl, .inr (.inr (.inr ⟨_, _, _, rfl, rfl, rfl, rfl⟩))⟩ | exact .inr (.inr (.inr ⟨_, _, _, rfl, rfl, rfl, rfl⟩)) | rfl)))) ⟨D ++ [x], R, i + 1, by rw [hU, List.append_assoc]; rfl, rfl, hnx, rfl⟩
/-- the library's stable sort of at most N terms: sorted, and the same terms -/
def SortOK (N : Nat) : Prop := ∀ U : List QE, U.length ≤ N → (∀ e, e ∈ U → e.sm) → ∃ W, ES W ∧ W.Perm U ∧
  PCM true Try.prog 33 [.own 0 U.length, .fn 34 []] (QL U) true (.v (.tup [])) (QL W)
theorem stable20_p {U : List QE} (hU : U.length ≤ 20) (hs : ∀ e, e ∈ U → e.sm) : ∃ W, ES W ∧ W.Perm U ∧ PCM true Try.prog 52 [.own 0 U.length, .v (iV U.length), .fn 34 []] (QL U) true (.v (.tup [])) (QL W) := by
  by_cases h20 : U.length = 20
  · -- sorted once as a block and once more as what is left (nothing)
    have c1 := isort_p (n := U.length) (a := 0) (b := 20) (pre := []) (U := U) (post := []) (by simp) (by omega) rfl (by omega) hs
    have c2 := isort_p (n := U.length) (a := 20) (b := 20) (pre := qis U) (U := []) (post := []) (by simp [qis_len]) (by omega) (by rw [qis_len, h20]) (by simp) (fun e he => by cases he)
    simp only [List.nil_append, List.append_nil] at c1 c2
    rw [show qis [] = [] from rfl, List.append_nil] at c2
    refine ⟨qis U, qis_sorted U, qis_perm U, ?_⟩
    have hl : ((qis U).map QE.av).length = 20 := by rw [List.length_map, qis_len, h20]
    rw [h20] at c1 c2 ⊢
    generalize qis U = W at *
    refine pc_bodyM0 Try.func52 rfl rfl rfl (Nat.le_of_ble_eq_true rfl) ?_
    refine goA ?_
    refine T.loop (fun N s1 => (N = 1 ∧ s1 = mkP [(0, .own 0 20), (1, .v (iV (20 : Nat))), (2, .fn 34 []), (6, .v (iV 20)), (7, .v (iV (0 : Nat))), (8, .v (iV 20))] (QL U) 63 true [0]) ∨ (N = 0 ∧ s1 = mkP [(0, .own 0 20), (1, .v (iV (20 : Nat))), (2, .fn 34 []), (6, .v (iV 20)), (7, .v (iV (20 : Nat))), (8, .v (iV 40))] (QL W) 63 true [0])) 1
      (s' := mkP [(0, .own 0 20), (1, .v (iV (20 : Nat))), (2, .fn 34 []), (6, .v (iV 20)), (7, .v (iV (0 : Nat))), (8, .v (iV 20))] (QL U) 63 true [0]) (by (refine Ent.mkP rfl rfl rfl rfl ?_ ?_ <;> (repeat (first | exact trivial | exact ⟨_, rfl, .inl ⟨rfl, ⟨_, rfl⟩, ⟨_, rfl⟩, trivial⟩⟩ | exact ⟨_, rfl, .inl ⟨rfl, ⟨_, rfl⟩, trivial⟩⟩ | refine And.intro ?_ ?_ | exact ⟨_, rfl, .inl ⟨rfl, trivial⟩⟩ | exact ⟨_, rfl, .inl ⟨rfl, _, rfl⟩⟩ | exact .inl ⟨rfl, trivial⟩ | exact .inl ⟨rfl, _, rfl⟩ | exact ⟨_, rfl, .inr (.inl ⟨rfl, rfl⟩)⟩ | exact .inr (.inl ⟨rfl, rfl⟩) | exact ⟨_, rfl, .inr (.inr (.inl ⟨_, _, _, _, _, rfl, rfl, by first | rfl | assumption | simp, rfl, rfl⟩))⟩ | exact .inr (.inr (.inl ⟨_, _, _, _, _, rfl, rfl, by first | rfl | assumption | simp, rfl, rfl⟩)) | exact ⟨_, rfl, .inr (.inr (.inr ⟨_, _, _, rfl, rfl, rfl, rfl⟩))⟩ | exact .inr (.inr (.inr ⟨_, _, _, rfl, rfl, rfl, rfl⟩)) | rfl)))) (.inl ⟨rfl, rfl⟩) ?_
    rintro _ _ (⟨rfl, rfl⟩ | ⟨rfl, rfl⟩)
    · refine goA ?_
      refine evM (ms_call [(0, 0)] c1 rfl rfl rfl rfl rfl rfl ⟨rfl, trivial⟩ ⟨.inl rfl, trivial⟩ ?_)
      refine goA ?_
      exact loopQ_intro (k := 0) (s' := mkP [(0, .own 0 20), (1, .v (iV (20 : Nat))), (2, .fn 34 []), (6, .v (iV 20)), (7, .v (iV (20 : Nat))), (8, .v (iV 40))] (QL W) 63 true [0]) (by omega) (by (refine Ent.mkP rfl rfl rfl rfl ?_ ?_ <;> (repeat (first | exact trivial | exact ⟨_, rfl, .inl ⟨rfl, ⟨_, rfl⟩, ⟨_, rfl⟩, trivial⟩⟩ | exact ⟨_, rfl, .inl ⟨rfl, ⟨_, rfl⟩, trivial⟩⟩ | refine And.intro ?_ ?_ | exact ⟨_, rfl, .inl ⟨rfl, trivial⟩⟩ | exact ⟨_, rfl, .inl ⟨rfl, _, rfl⟩⟩ | exact .inl ⟨rfl, trivial⟩ | exact .inl ⟨rfl, _, rfl⟩ | exact ⟨_, rfl, .inr (.inl ⟨rfl, rfl⟩)⟩ | exact .inr (.inl ⟨rfl, rfl⟩) | exact ⟨_, rfl, .inr (.inr (.inl ⟨_, _, _, _, _, rfl, rfl, by first | rfl | assumption | simp, rfl, rfl⟩))⟩ | exact .inr (.inr (.inl ⟨_, _, _, _, _, rfl, rfl, by first | rfl | assumption | simp, rfl, rfl⟩)) | exact ⟨_, rfl, .inr (.inr (.inr ⟨_, _, _, rfl, rfl, rfl, rfl⟩))⟩ | exact .inr (.inr (.inr ⟨_, _, _, rfl, rfl, rfl, rfl⟩)) | rfl)))) (.inr ⟨rfl, rfl⟩)
    · refine goA ?_
      refine evM (ms_call [(0, 0)] c2 rfl rfl rfl rfl rfl rfl ⟨rfl, trivial⟩ ⟨.inl rfl, trivial⟩ ?_)
      refine goA ?_
      refine T.loop (fun N s1 => s1 = mkP [(0, .own 0 20), (1, .v (iV (20 : Nat))), (2, .fn 34 []), (6, .v (iV 20))] (QL W) 63 true [0]) 0
        (s' := mkP [(0, .own 0 20), (1, .v (iV (20 : Nat))), (2, .fn 34 []), (6, .v (iV 20))] (QL W) 63 true [0]) (by (refine Ent.mkP rfl rfl rfl rfl ?_ ?_ <;> (repeat (first | exact trivial | exact ⟨_, rfl, .inl ⟨rfl, ⟨_, rfl⟩, ⟨_, rfl⟩, trivial⟩⟩ | exact ⟨_, rfl, .inl ⟨rfl, ⟨_, rfl⟩, trivial⟩⟩ | refine And.intro ?_ ?_ | exact ⟨_, rfl, .inl ⟨rfl, trivial⟩⟩ | exact ⟨_, rfl, .inl ⟨rfl, _, rfl⟩⟩ | exact .inl ⟨rfl, trivial⟩ | exact .inl ⟨rfl, _, rfl⟩ | exact ⟨_, rfl, .inr (.inl ⟨rfl, rfl⟩)⟩ | exact .inr (.inl ⟨rfl, rfl⟩) | exact ⟨_, rfl, .inr (.inr (.inl ⟨_, _, _, _, _, rfl, rfl, by first | rfl | assumption | simp, rfl, rfl⟩))⟩ | exact .inr (.inr (.inl ⟨_, _, _, _, _, rfl, rfl, by first | rfl | assumption | simp, rfl, rfl⟩)) | exact ⟨_, rfl, .inr (.inr (.inr ⟨_, _, _, rfl, rfl, rfl, rfl⟩))⟩ | exact .inr (.inr (.inr ⟨_, _, _, rfl, rfl, rfl, rfl⟩)) | rfl)))) rfl ?_
      rintro _ _ rfl
      refine goA ?_
      exact ⟨.inl rfl, by (refine Ent.mkP rfl rfl rfl rfl ?_ ?_ <;> (repeat (first | exact trivial | exact ⟨_, rfl, .inl ⟨rfl, ⟨_, rfl⟩, ⟨_, rfl⟩, trivial⟩⟩ | exact ⟨_, rfl, .inl ⟨rfl, ⟨_, rfl⟩, trivial⟩⟩ | refine And.intro ?_ ?_ | exact ⟨_, rfl, .inl ⟨rfl, trivial⟩⟩ | exact ⟨_, rfl, .inl ⟨rfl, _, rfl⟩⟩ | exact .inl ⟨rfl, trivial⟩ | exact .inl ⟨rfl, _, rfl⟩ | exact ⟨_, rfl, .inr (.inl ⟨rfl, rfl⟩)⟩ | exact .inr (.inl ⟨rfl, rfl⟩) | exact ⟨_, rfl, .inr (.inr (.inl ⟨_, _, _, _, _, rfl, rfl, by first | rfl | assumption | simp, rfl, rfl⟩))⟩ | exact .inr (.inr (.inl ⟨_, _, _, _, _, rfl, rfl, by first | rfl | assumption | simp, rfl, rfl⟩)) | exact ⟨_, rfl, .inr (.inr (.inr ⟨_, _, _, rfl, rfl, rfl, rfl⟩))⟩ | exact .inr (.inr (.inr ⟨_, _, _, rfl, rfl, rfl, rfl⟩)) | rfl)))⟩
  · have c1 := isort_p (n := U.length) (a := 0) (b := U.length) (pre := []) (U := U) (post := []) (by simp) (by omega) rfl (by omega) hs
    simp only [List.nil_append, List.append_nil] at c1
    refine ⟨qis U, qis_sorted U, qis_perm U, ?_⟩
    have hl : ((qis U).map QE.av).length = U.length := by rw [List.length_map, qis_len]
    generalize qis U = W at *
    obtain ⟨n, hn⟩ : ∃ n, n = U.length := ⟨_, rfl⟩
    rw [← hn] at c1 hl ⊢
    have b1 : decide ((20 : Int) ≤ (n : Int)) = false := decide_eq_false (by omega)
    have b2 : decide ((20 : Int) < (n : Int)) = false := decide_eq_false (by omega)
    refine pc_bodyM0 Try.func52 rfl rfl rfl (Nat.le_of_ble_eq_true rfl) ?_
    refine goA ?_
    refine T.loop (fun N s1 => s1 = mkP [(0, .own 0 n), (1, .v (iV n)), (2, .fn 34 []), (6, .v (iV 20)), (7, .v (iV (0 : Nat))), (8, .v (iV 20))] (QL U) 63 true [0]) 0
      (s' := mkP [(0, .own 0 n), (1, .v (iV n)), (2, .fn 34 []), (6, .v (iV 20)), (7, .v (iV (0 : Nat))), (8, .v (iV 20))] (QL U) 63 true [0]) (by (refine Ent.mkP rfl rfl rfl rfl ?_ ?_ <;> (repeat (first | exact trivial | exact ⟨_, rfl, .inl ⟨rfl, ⟨_, rfl⟩, ⟨_, rfl⟩, trivial⟩⟩ | exact ⟨_, rfl, .inl ⟨rfl, ⟨_, rfl⟩, trivial⟩⟩ | refine And.intro ?_ ?_ | exact ⟨_, rfl, .inl ⟨rfl, trivial⟩⟩ | exact ⟨_, rfl, .inl ⟨rfl, _, rfl⟩⟩ | exact .inl ⟨rfl, trivial⟩ | exact .inl ⟨rfl, _, rfl⟩ | exact ⟨_, rfl, .inr (.inl ⟨rfl, rfl⟩)⟩ | exact .inr (.inl ⟨rfl, rfl⟩) | exact ⟨_, rfl, .inr (.inr (.inl ⟨_, _, _, _, _, rfl, rfl, by first | rfl | assumption | simp, rfl, rfl⟩))⟩ | exact .inr (.inr (.inl ⟨_, _, _, _, _, rfl, rfl, by first | rfl | assumption | simp, rfl, rfl⟩)) | exact ⟨_, rfl, .inr (.inr (.inr ⟨_, _, _, rfl, rfl, rfl, rfl⟩))⟩ | exact .inr (.inr (.inr ⟨_, _, _, rfl, rfl, rfl, rfl⟩)) | rfl)))) rfl ?_
    rintro _ _ rfl
    refine goA ?_
    refine evM (ms_call [(0, 0)] c1 rfl rfl rfl rfl rfl rfl ⟨rfl, trivial⟩ ⟨.inl rfl, trivial⟩ ?_)
    refine goA ?_
    refine T.loop (fun N s1 => s1 = mkP [(0, .own 0 n), (1, .v (iV n)), (2, .fn 34 []), (6, .v (iV 20))] (QL W) 63 true [0]) 0
      (s' := mkP [(0, .own 0 n), (1, .v (iV n)), (2, .fn 34 []), (6, .v (iV 20))] (QL W) 63 true [0]) (by (refine Ent.mkP rfl rfl rfl rfl ?_ ?_ <;> (repeat (first | exact trivial | exact ⟨_, rfl, .inl ⟨rfl, ⟨_, rfl⟩, ⟨_, rfl⟩, trivial⟩⟩ | exact ⟨_, rfl, .inl ⟨rfl, ⟨_, rfl⟩, trivial⟩⟩ | refine And.intro ?_ ?_ | exact ⟨_, rfl, .inl ⟨rfl, trivial⟩⟩ | exact ⟨_, rfl, .inl ⟨rfl, _, rfl⟩⟩ | exact .inl ⟨rfl, trivial⟩ | exact .inl ⟨rfl, _, rfl⟩ | exact ⟨_, rfl, .inr (.inl ⟨rfl, rfl⟩)⟩ | exact .inr (.inl ⟨rfl, rfl⟩) | exact ⟨_, rfl, .inr (.inr (.inl ⟨_, _, _, _, _, rfl, rfl, by first | rfl | assumption | simp, rfl, rfl⟩))⟩ | exact .inr (.inr (.inl ⟨_, _, _, _, _, rfl, rfl, by first | rfl | assumption | simp, rfl, rfl⟩)) | exact ⟨_, rfl, .inr (.inr (.inr ⟨_, _, _, rfl, rfl, rfl, rfl⟩))⟩ | exact .inr (.inr (.inr ⟨_, _, _, rfl, rfl, rfl, rfl⟩)) | rfl)))) rfl ?_
    rintro _ _ rfl
    refine goA ?_
    exact ⟨.inl rfl, by (refine Ent.mkP rfl rfl rfl rfl ?_ ?_ <;> (repeat (first | exact trivial | exact ⟨_, rfl, .inl ⟨rfl, ⟨_, rfl⟩, ⟨_, rfl⟩, trivial⟩⟩ | exact ⟨_, rfl, .inl ⟨rfl, ⟨_, rfl⟩, trivial⟩⟩ | refine And.intro ?_ ?_ | exact ⟨_, rfl, .inl ⟨rfl, trivial⟩⟩ | exact ⟨_, rfl, .inl ⟨rfl, _, rfl⟩⟩ | exact .inl ⟨rfl, trivial⟩ | exact .inl ⟨rfl, _, rfl⟩ | exact ⟨_, rfl, .inr (.inl ⟨rfl, rfl⟩)⟩ | exact .inr (.inl ⟨rfl, rfl⟩) | exact ⟨_, rfl, .inr (.inr (.inl ⟨_, _, _, _, _, rfl, rfl, by first | rfl | assumption | simp, rfl, rfl⟩))⟩ | exact .inr (.inr (.inl ⟨_, _, _, _, _, rfl, rfl, by first | rfl | assumption | simp, rfl, rfl⟩)) | exact ⟨_, rfl, .inr (.inr (.inr ⟨_, _, _, rfl, rfl, rfl, rfl⟩))⟩ | exact .inr (.inr (.inr ⟨_, _, _, rfl, rfl, rfl, rfl⟩)) | rfl)))⟩
theorem sort20_p : SortOK 20 := fun U hU hs => by
  obtain ⟨W, h1, h2, c1⟩ := stable20_p hU hs
  refine ⟨W, h1, h2, ?_⟩
  have hl : (U.map QE.av).length = U.length := by rw [List.length_map]
  refine pc_bodyM0 Try.func33 rfl rfl rfl (Nat.le_of_ble_eq_true rfl) ?_
  refine goA ?_
  refine evM (ms_call [(0, 0)] c1 rfl rfl rfl rfl rfl rfl ⟨rfl, trivial⟩ ⟨.inl rfl, trivial⟩ ?_)
  refine goA ?_
  exact ⟨.inl rfl, by (refine Ent.mkP rfl rfl rfl rfl ?_ ?_ <;> (repeat (first | exact trivial | exact ⟨_, rfl, .inl ⟨rfl, ⟨_, rfl⟩, ⟨_, rfl⟩, trivial⟩⟩ | exact ⟨_, rfl, .inl ⟨rfl, ⟨_, rfl⟩, trivial⟩⟩ | refine And.intro ?_ ?_ | exact ⟨_, rfl, .inl ⟨rfl, trivial⟩⟩ | exact ⟨_, rfl, .inl ⟨rfl, _, rfl⟩⟩ | exact .inl ⟨rfl, trivial⟩ | exact .inl ⟨rfl, _, rfl⟩ | exact ⟨_, rfl, .inr (.inl ⟨rfl, rfl⟩)⟩ | exact .inr (.inl ⟨rfl, rfl⟩) | exact ⟨_, rfl, .inr (.inr (.inl ⟨_, _, _, _, _, rfl, rfl, by first | rfl | assumption | simp, rfl, rfl⟩))⟩ | exact .inr (.inr (.inl ⟨_, _, _, _, _, rfl, rfl, by first | rfl | assumption | simp, rfl, rfl⟩)) | exact ⟨_, rfl, .inr (.inr (.inr ⟨_, _, _, rfl, rfl, rfl, rfl⟩))⟩ | exact .inr (.inr (.inr ⟨_, _, _, rfl, rfl, rfl, rfl⟩)) | rfl)))⟩
end Ab
