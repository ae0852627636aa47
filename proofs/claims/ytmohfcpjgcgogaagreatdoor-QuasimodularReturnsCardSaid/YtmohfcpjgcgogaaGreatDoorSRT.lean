/- Ranges of terms that change places, and rotations, in the library's sort: walked. Binary searches; a merge of one term with a sorted range, in the library's sort: walked. The library's merge of two sorted ranges: walked. The library's merge of two sorted ranges, whole: walked. The library's stable sort of any number of terms: blocks, passes of merges; walked. The library's stable sort of any number of terms: walked. -/
import Derived.Test.YtmohfcpjgcgogaaGreatDoorQB
set_option linter.all false
namespace Ab
open Go Go.RowKit Go.Proofs Hp
set_option maxRecDepth 100000
theorem set_app {α : Type} {q : List α} {x y : α} : ∀ {p : List α} {j : Nat}, p.length = j → (p ++ x :: q).set j y = p ++ y :: q
 | [], _, rfl => rfl
 | a :: p, _, rfl => congrArg (a :: ·) (set_app (p := p) rfl)
theorem av_far {P M Q : List QE} {x y : QE} {i j : Nat} (hi : P.length = i) (hj : i + 1 + M.length = j) :
  ((P ++ x :: (M ++ y :: Q)).map QE.av)[i]? = some x.av ∧ ((P ++ x :: (M ++ y :: Q)).map QE.av)[j]? = some y.av ∧ (((P ++ x :: (M ++ y :: Q)).map QE.av).set i y.av).set j x.av = (P ++ y :: (M ++ x :: Q)).map QE.av := by
 have h2 : ∀ z w : QE, P ++ z :: (M ++ w :: Q) = (P ++ z :: M) ++ w :: Q := fun z w => by simp
 have hl : ∀ z : QE, (P ++ z :: M).length = j := fun z => by simp; omega
 refine ⟨Zc3 hi, by rw [h2]; exact Zc3 (hl x), ?_⟩
 rw [← List.map_set, set_app hi, ← List.map_set, h2 y y, set_app (hl y), ← h2]
abbrev oF : TV := .fn 64 []
set_option maxHeartbeats 8000000 in
theorem swapR_p {n a b m : Nat} {P u M v Q : List QE} (hn : (P ++ (u ++ (M ++ (v ++ Q)))).length = n) (hn2 : n ≤ 1000000) (ha : P.length = a) (hu : u.length = m) (hv : v.length = m) (hb : a + m + M.length = b) :
  PCM true Tryz.prog 169 [.own 0 n, .v (iV a), .v (iV b), .v (iV m), oF] (QL (P ++ (u ++ (M ++ (v ++ Q))))) true (.v (.tup [])) (QL (P ++ (v ++ (M ++ (u ++ Q))))) := by
 refine Zbp Tryz.func169 rfl rfl rfl (Nat.le_of_ble_eq_true rfl) ?_
 refine goA ?_
 refine T.loop (fun N s1 => ∃ (u1 u2 v1 v2 : List QE), u = u1 ++ u2 ∧ v = v1 ++ v2 ∧ u1.length = v1.length ∧ N = u2.length ∧ s1 = mkP [(0, .own 0 n), (1, .v (iV a)), (2, .v (iV b)), (3, .v (iV m)), (10, .v (iV u1.length))] (QL (P ++ (v1 ++ (u2 ++ (M ++ (u1 ++ (v2 ++ Q))))))) 38 true [0]) m
  (s' := mkP [(0, .own 0 n), (1, .v (iV a)), (2, .v (iV b)), (3, .v (iV m)), (10, .v (iV ((0 : Nat) : Int)))] (QL (P ++ ([] ++ (u ++ (M ++ ([] ++ (v ++ Q))))))) 38 true [0]) (by exact Za5) ⟨[], u, [], v, rfl, rfl, rfl, hu.symm, rfl⟩ ?_
 rintro _ _ ⟨u1, u2, v1, v2, eu, ev, hl, rfl, rfl⟩
 have hul : u1.length + u2.length = m := by rw [← hu, eu]; simp
 have hvl : v1.length + v2.length = m := by rw [← hv, ev]; simp
 simp only [List.length_append] at hn
 rcases u2 with _ | ⟨x, u2⟩
 ·have hv2 : v2 = [] := List.eq_nil_of_length_eq_zero (by simp at hul; omega)
  subst hv2
  rw [List.append_nil] at eu ev
  subst eu ev
  have b1 : decide ((u.length : Int) < (m : Int)) = false := decide_eq_false (by omega)
  refine goA ?_
  exact ⟨.inl rfl, by exact Za5⟩
 rcases v2 with _ | ⟨y, v2⟩
 ·simp at hul hvl; omega
 simp only [List.length_cons] at hul hvl
 have b1 : decide ((u1.length : Int) < (m : Int)) = true := decide_eq_true (by omega)
 have hL : P ++ (v1 ++ ((x :: u2) ++ (M ++ (u1 ++ ((y :: v2) ++ Q))))) = (P ++ v1) ++ x :: ((u2 ++ (M ++ u1)) ++ y :: (v2 ++ Q)) := by simp
 rw [hL]
 obtain ⟨gA, gB, gs⟩ := av_far (P := P ++ v1) (M := u2 ++ (M ++ u1)) (Q := v2 ++ Q) (x := x) (y := y) (i := a + u1.length) (j := b + u1.length) (by simp; omega) (by simp; omega)
 have hQl : (((P ++ v1) ++ x :: ((u2 ++ (M ++ u1)) ++ y :: (v2 ++ Q))).map QE.av).length = n := by
  rw [eu, ev] at hn
  simp at hn ⊢
  omega
 have hnx : (u1.length : Int) + 1 = ((u1 ++ [x]).length : Nat) := by simp
 have hL2 : (P ++ v1) ++ y :: ((u2 ++ (M ++ u1)) ++ x :: (v2 ++ Q)) = P ++ ((v1 ++ [y]) ++ (u2 ++ (M ++ ((u1 ++ [x]) ++ (v2 ++ Q))))) := by simp
 have tA : ((a : Int) + (u1.length : Int)).toNat = a + u1.length := by omega
 have tB : ((b : Int) + (u1.length : Int)).toNat = b + u1.length := by omega
 have eu2 : u = (u1 ++ [x]) ++ u2 := by rw [eu]; simp
 have ev2 : v = (v1 ++ [y]) ++ v2 := by rw [ev]; simp
 have hbn : b + u1.length < n := by
  have := congrArg List.length (show (P ++ v1) ++ x :: ((u2 ++ (M ++ u1)) ++ y :: (v2 ++ Q)) = _ from rfl)
  simp at hQl
  omega
 clear eu ev hu hv hL
 refine goA ?_
 refine evG ggA (Zaf (Zaa rfl) (Zac rfl) rfl rfl hQl rfl (by omega) (by omega)) ?_
 rw [tB]
 refine evG ggA (Zah (Zaa rfl) (Zau rfl) rfl rfl hQl gB) ?_
 refine goA ?_
 refine evG ggA (Zaf (Zaa rfl) (Zac rfl) rfl rfl hQl rfl (by omega) (by omega)) ?_
 rw [tA]
 refine evG ggA (Zah (Zaa rfl) (Zau rfl) rfl rfl hQl gA) ?_
 refine evG ggA (Zaf (Zaa rfl) (Zac rfl) rfl rfl hQl rfl (by omega) (by omega)) ?_
 rw [tA]
 refine evG ggA (Za8 (x := y.av) rfl (Zbj rfl) rfl rfl hQl (by omega) rfl rfl (fun l e => by cases e) rfl) ?_
 refine evG ggA (Zaf (Zaa rfl) (Zac rfl) rfl rfl (by rw [List.length_set]; exact hQl) rfl (by omega) (by omega)) ?_
 rw [tB]
 refine evG ggA (Za8 (x := x.av) rfl (Zbj rfl) rfl rfl (by rw [List.length_set]; exact hQl) (by omega) rfl rfl (fun l e => by cases e) rfl) ?_
 rw [gs, hL2]
 refine goA ?_
 rw [hnx]
 exact Zae (k := u2.length) (s' := mkP [(0, .own 0 n), (1, .v (iV a)), (2, .v (iV b)), (3, .v (iV m)), (10, .v (iV ((u1 ++ [x]).length : Nat)))] (QL (P ++ ((v1 ++ [y]) ++ (u2 ++ (M ++ ((u1 ++ [x]) ++ (v2 ++ Q))))))) 38 true [0]) (by simp) (by exact Za5) ⟨u1 ++ [x], u2, v1 ++ [y], v2, eu2, ev2, by simp; exact hl, rfl, rfl⟩
set_option maxHeartbeats 8000000 in
theorem rotate_p {n a m b : Nat} {P X Y Q : List QE} (hn : (P ++ (X ++ (Y ++ Q))).length = n) (hn2 : n ≤ 1000000) (ha : P.length = a) (hm : a + X.length = m) (hb : m + Y.length = b) (hX : 1 ≤ X.length) (hY : 1 ≤ Y.length) :
  PCM true Tryz.prog 147 [.own 0 n, .v (iV a), .v (iV m), .v (iV b), oF] (QL (P ++ (X ++ (Y ++ Q)))) true (.v (.tup [])) (QL (P ++ (Y ++ (X ++ Q)))) := by
 have e0 : (m : Int) - (a : Int) = (X.length : Nat) := by omega
 have e1 : (b : Int) - (m : Int) = (Y.length : Nat) := by omega
 have hbn : b ≤ n := by simp at hn; omega
 refine Zbp Tryz.func147 rfl rfl rfl (Nat.le_of_ble_eq_true rfl) ?_
 refine goA ?_
 rw [e0, e1]
 obtain ⟨R, hR⟩ : ∃ R, R = P ++ (Y ++ (X ++ Q)) := ⟨_, rfl⟩
 rw [← hR]
 refine T.loop (fun N s1 => ∃ (P X Y Q : List QE), N = X.length + Y.length ∧ 1 ≤ X.length ∧ 1 ≤ Y.length ∧ P.length + X.length = m ∧ m + Y.length ≤ b ∧ (P ++ (X ++ (Y ++ Q))).length = n ∧ R = P ++ (Y ++ (X ++ Q)) ∧ s1 = mkP [(0, .own 0 n), (2, .v (iV m)), (4, oF), (10, .v (iV X.length)), (11, .v (iV Y.length))] (QL (P ++ (X ++ (Y ++ Q)))) 58 true [0]) (X.length + Y.length)
  (s' := mkP [(0, .own 0 n), (2, .v (iV m)), (4, oF), (10, .v (iV X.length)), (11, .v (iV Y.length))] (QL (P ++ (X ++ (Y ++ Q)))) 58 true [0]) (by exact Za5) ⟨P, X, Y, Q, rfl, hX, hY, by omega, by omega, hn, hR, rfl⟩ ?_
 clear hR hX hY hn e0 e1 ha hm hb
 rintro _ _ ⟨P, X, Y, Q, rfl, hX, hY, hm, hb, hn, hR, rfl⟩
 have e2 : (m : Int) - (X.length : Int) = (P.length : Nat) := by omega
 rcases Nat.lt_trichotomy X.length Y.length with c | c | c
 ·have b1 : ((X.length : Int) != (Y.length : Int)) = true := by simp; omega
  have b2 : decide ((X.length : Int) > (Y.length : Int)) = false := decide_eq_false (by omega)
  obtain ⟨Y1, Y2, rfl, hy⟩ := Zf1 (l := Y) (n := Y.length - X.length) (by omega)
  simp only [List.length_append] at *
  have hy2 : Y2.length = X.length := by omega
  have cs := swapR_p (n := n) (a := P.length) (b := P.length + X.length + Y1.length) (m := X.length) (P := P) (u := X) (M := Y1) (v := Y2) (Q := Q) (by simp; omega) hn2 rfl rfl hy2 (by omega)
  have e3 : (m : Int) + ((Y1.length + Y2.length : Nat) : Int) - (X.length : Int) = ((P.length + X.length + Y1.length : Nat) : Int) := by omega
  have e4 : ((Y1.length + Y2.length : Nat) : Int) - (X.length : Int) = (Y1.length : Nat) := by omega
  have hL : P ++ (X ++ ((Y1 ++ Y2) ++ Q)) = P ++ (X ++ (Y1 ++ (Y2 ++ Q))) := by simp
  rw [hL]
  refine goA ?_
  rw [e2, e3]
  refine evM (Zbs [(0, 0)] cs rfl rfl rfl rfl rfl rfl ⟨rfl, trivial⟩ ⟨.inl rfl, trivial⟩ ?_)
  refine goA ?_
  rw [e4]
  exact Zae (k := X.length + Y1.length) (s' := mkP [(0, .own 0 n), (2, .v (iV m)), (4, oF), (10, .v (iV X.length)), (11, .v (iV Y1.length))] (QL (P ++ (Y2 ++ (Y1 ++ (X ++ Q))))) 58 true [0]) (by omega) (by exact Za5) ⟨P, Y2, Y1, X ++ Q, by rw [hy2], by omega, by omega, by omega, by omega, by simp; omega, by rw [hR]; simp, by rw [hy2]⟩
 ·have b1 : ((X.length : Int) != (Y.length : Int)) = false := by simp; omega
  have cs := swapR_p (n := n) (a := P.length) (b := m) (m := X.length) (P := P) (u := X) (M := []) (v := Y) (Q := Q) (by simpa using hn) hn2 rfl rfl c.symm (by simp; omega)
  simp only [List.nil_append] at cs
  rw [← hR] at cs
  refine goA ?_
  rw [e2]
  refine evM (Zbs [(0, 0)] cs rfl rfl rfl rfl rfl rfl ⟨rfl, trivial⟩ ⟨.inl rfl, trivial⟩ ?_)
  refine goA ?_
  exact ⟨.inl rfl, by exact Za5⟩
 ·have b1 : ((X.length : Int) != (Y.length : Int)) = true := by simp; omega
  have b2 : decide ((X.length : Int) > (Y.length : Int)) = true := decide_eq_true (by omega)
  obtain ⟨X1, X2, rfl, hx⟩ := Zf1 (l := X) (n := Y.length) (by omega)
  simp only [List.length_append] at *
  have cs := swapR_p (n := n) (a := P.length) (b := m) (m := Y.length) (P := P) (u := X1) (M := X2) (v := Y) (Q := Q) (by simp; omega) hn2 rfl hx rfl (by omega)
  have e4 : ((X1.length + X2.length : Nat) : Int) - (Y.length : Int) = (X2.length : Nat) := by omega
  have hL : P ++ ((X1 ++ X2) ++ (Y ++ Q)) = P ++ (X1 ++ (X2 ++ (Y ++ Q))) := by simp
  have hL2 : P ++ (Y ++ (X2 ++ (X1 ++ Q))) = (P ++ Y) ++ (X2 ++ (X1 ++ Q)) := by simp
  rw [hL]
  refine goA ?_
  rw [e2]
  refine evM (Zbs [(0, 0)] cs rfl rfl rfl rfl rfl rfl ⟨rfl, trivial⟩ ⟨.inl rfl, trivial⟩ ?_)
  refine goA ?_
  rw [e4]
  exact Zae (k := X2.length + Y.length) (s' := mkP [(0, .own 0 n), (2, .v (iV m)), (4, oF), (10, .v (iV X2.length)), (11, .v (iV Y.length))] (QL (P ++ (Y ++ (X2 ++ (X1 ++ Q))))) 58 true [0]) (by omega) (by exact Za5) ⟨P ++ Y, X2, X1, Q, by rw [hx], by omega, by omega, by simp; omega, by omega, by simp; omega, by rw [hR]; simp, by rw [hx, hL2]⟩
end Ab
namespace Ab
open Go Go.RowKit Go.Proofs Hp
set_option maxRecDepth 100000
def bs (f : Nat → Bool) : Nat → Nat → Nat → Nat
 | 0, i, _ => i
 | N + 1, i, j => if i < j then (if f ((i + j) / 2) = true then bs f N ((i + j) / 2 + 1) j else bs f N i ((i + j) / 2)) else i
theorem bs_spec (f : Nat → Bool) : ∀ (N i j lo hi : Nat), i ≤ j → j - i ≤ N → lo ≤ i → j ≤ hi → (lo < i → f (i - 1) = true) → (j < hi → f j = false) → i ≤ bs f N i j ∧ bs f N i j ≤ j ∧ (lo < bs f N i j → f (bs f N i j - 1) = true) ∧ (bs f N i j < hi → f (bs f N i j) = false)
  | 0, i, j, lo, hi, h1, h2, h3, h4, h5, h6 => by
    obtain rfl : i = j := by omega
    exact ⟨Nat.le_refl _, Nat.le_refl _, h5, h6⟩
  | N + 1, i, j, lo, hi, h1, h2, h3, h4, h5, h6 => by
    rw [bs]
    split
    · split
      · rename_i c d
        obtain ⟨k1, k2, k3, k4⟩ := bs_spec f N ((i + j) / 2 + 1) j lo hi (by omega) (by omega) (by omega) h4 (fun _ => by rw [show (i + j) / 2 + 1 - 1 = (i + j) / 2 by omega]; exact d) h6
        exact ⟨by omega, k2, k3, k4⟩
      · rename_i c d
        obtain ⟨k1, k2, k3, k4⟩ := bs_spec f N i ((i + j) / 2) lo hi (by omega) (by omega) h3 (by omega) h5 (fun _ => by simpa using d)
        exact ⟨k1, by omega, k3, k4⟩
    · obtain rfl : i = j := by omega
      exact ⟨Nat.le_refl _, Nat.le_refl _, h5, h6⟩
theorem half_c {i j : Nat} (h : i + j ≤ 100000000) : IntKind.u64.wrap ((i : Int) + (j : Int)) = ((i + j : Nat) : Int) ∧ ((i + j : Nat) : Int).fdiv (2 ^ (min ((1 : Int).toNat) IntKind.u64.bits)) = (((i + j) / 2 : Nat) : Int) ∧ IntKind.i64.wrap (((i + j) / 2 : Nat) : Int) = (((i + j) / 2 : Nat) : Int) := by
 refine ⟨by rw [u64w (by omega) (by omega)]; omega, ?_, w64 (by omega) (by omega)⟩
 rw [show (2 : Int) ^ (min ((1 : Int).toNat) IntKind.u64.bits) = 2 from rfl, Int.fdiv_eq_ediv_of_nonneg _ (by decide)]
 omega
theorem get_mid {α : Type} {p q r : List α} {i t : Nat} (hp : p.length = i) (ht : t < q.length) : (p ++ (q ++ r))[i + t]? = q[t]? := by
 subst hp
 rw [List.getElem?_append_right (by omega), Nat.add_sub_cancel_left, List.getElem?_append_left ht]
theorem map_get {l : List QE} {i : Nat} {e : QE} (h : l[i]? = some e) : (l.map QE.av)[i]? = some e.av := by rw [List.getElem?_map, h]; rfl
set_option maxHeartbeats 16000000 in
theorem symA_p {n a m b : Nat} {pre V post : List QE} {x : QE} (hn : (pre ++ ([x] ++ (V ++ post))).length = n) (hn2 : n ≤ 1000000) (ha : pre.length = a) (hm : a + 1 = m) (hb : m + V.length = b) (hvs : ES V) (hx : x.sm) (hs : ∀ e, e ∈ V → e.sm) :
  ∃ W, ES W ∧ W.Perm ([x] ++ V) ∧ PCM true Tryz.prog 124 [.own 0 n, .v (iV a), .v (iV m), .v (iV b), oF] (QL (pre ++ ([x] ++ (V ++ post)))) true (.v (.tup [])) (QL (pre ++ (W ++ post))) := by
 have hlen : a + 1 + V.length + post.length = n := by simp at hn; omega
 obtain ⟨L, hL⟩ : ∃ L, L = pre ++ ([x] ++ (V ++ post)) := ⟨_, rfl⟩
 have hLV : ∀ t, t < V.length → L[m + t]? = V[t]? := fun t ht => by
  rw [hL, ← List.append_assoc]
  exact get_mid (by simp; omega) ht
 have hLx : L[a]? = some x := by rw [hL]; exact Zdp ha
 obtain ⟨f, hf⟩ : ∃ f : Nat → Bool, f = fun h => match L[h]? with | some e => decide (kl e.k x.k) | none => false := ⟨_, rfl⟩
 have hfv : ∀ t e, V[t]? = some e → f (m + t) = decide (kl e.k x.k) := fun t e he => by
  have ht : t < V.length := (List.getElem?_eq_some_iff.1 he).1
  rw [hf]
  simp only [hLV t ht, he]
 obtain ⟨s1, s2, s3, s4⟩ := bs_spec f V.length m b m b (by omega) (by omega) (Nat.le_refl _) (Nat.le_refl _) (fun h => absurd h (Nat.lt_irrefl _)) (fun h => absurd h (Nat.lt_irrefl _))
 obtain ⟨s, hsd⟩ : ∃ s, s = bs f V.length m b := ⟨_, rfl⟩
 rw [← hsd] at s1 s2 s3 s4
 obtain ⟨V1, V2, hV, hV1⟩ := Zf1 (l := V) (n := s - m) (by omega)
 have hV12 : V1.length + V2.length = V.length := by rw [hV]; simp
 have hes : ES (V1 ++ V2) := hV ▸ hvs
 obtain ⟨hes1, hes2, -⟩ := Zfp.1 hes
 have k1 : ∀ y, y ∈ V1 → ke y x := fun y hy => by
  rcases nil_or V1 with h0 | ⟨D, z, h0⟩
  ·rw [h0] at hy; cases hy
  ·have hl : D.length + 1 = s - m := by rw [← hV1, h0]; simp
   have hz := hfv D.length z (by rw [hV, h0, List.append_assoc]; exact Zdp rfl)
   rw [show m + D.length = s - 1 by omega, s3 (by omega)] at hz
   rw [h0] at hy hes1
   exact ke_tr (es_last hes1 y hy) (ke_lt (of_decide_eq_true hz.symm))
 have k2 : ∀ y, y ∈ V2 → ke x y := fun y hy => by
  rcases V2 with _ | ⟨z, R⟩
  ·cases hy
  ·simp only [List.length_cons] at hV12
   have hz := hfv V1.length z (by rw [hV]; exact Zdp rfl)
   rw [show m + V1.length = s by omega, s4 (by omega)] at hz
   exact ke_tr (of_decide_eq_false hz.symm) (es_head hes2 y hy)
 refine ⟨V1 ++ x :: V2, es_ins hes k1 k2, by rw [hV]; exact List.perm_middle, ?_⟩
 clear k1 k2 hes hes1 hes2 hvs s3 s4
 have hcast : pre ++ ([x] ++ (V ++ post)) = pre ++ (([] : List QE) ++ x :: (V1 ++ (V2 ++ post))) := by rw [hV]; simp
 have hQl : (L.map QE.av).length = n := by rw [hL, List.length_map]; exact hn
 have gx := map_get hLx
 have b1 : ((m : Int) - (a : Int) == 1) = true := by rw [beq_iff_eq]; omega
 rw [← hL] at hcast ⊢
 refine Zbp Tryz.func124 rfl rfl rfl (Nat.le_of_ble_eq_true rfl) ?_
 refine goA ?_
 refine T.loop (fun N s1 => ∃ i j : Nat, bs f N i j = s ∧ j - i ≤ N ∧ m ≤ i ∧ i ≤ j ∧ j ≤ b ∧ s1 = mkP [(0, .own 0 n), (1, .v (iV a)), (4, oF), (10, .v (iV i)), (11, .v (iV j))] (QL L) 220 true [0]) V.length
  (s' := mkP [(0, .own 0 n), (1, .v (iV a)), (4, oF), (10, .v (iV m)), (11, .v (iV b))] (QL L) 220 true [0]) (by exact Za5) ⟨m, b, hsd.symm, by omega, Nat.le_refl _, by omega, Nat.le_refl _, rfl⟩ ?_
 rintro N _ ⟨i, j, hbs, hN, hi, hij, hj, rfl⟩
 by_cases hlt : i < j
 ·have b2 : decide ((i : Int) < (j : Int)) = true := decide_eq_true (by omega)
  obtain ⟨N, rfl⟩ : ∃ k, N = k + 1 := ⟨N - 1, by omega⟩
  rw [bs, if_pos hlt] at hbs
  obtain ⟨q1, q2, q3⟩ := half_c (i := i) (j := j) (by omega)
  obtain ⟨h, hh⟩ : ∃ h, h = (i + j) / 2 := ⟨_, rfl⟩
  rw [← hh] at hbs q2 q3
  have h1 : i ≤ h ∧ h < j := by omega
  obtain ⟨e, he⟩ : ∃ e, V[h - m]? = some e := ⟨V[h - m]'(by omega), List.getElem?_eq_getElem _⟩
  have hfh := hfv (h - m) e he
  rw [show m + (h - m) = h by omega] at hfh
  have gh := map_get ((hLV (h - m) (by omega)).trans he)
  rw [show m + (h - m) = h by omega] at gh
  have hes := hs e (List.mem_of_getElem? he)
  have c1 := order_p hes hx
  have th : ((h : Nat) : Int).toNat = h := by omega
  have ta : ((a : Nat) : Int).toNat = a := by omega
  by_cases hk : kl e.k x.k
  ·have b3 : decide (ordR e x < 0) = true := decide_eq_true ((Zfg e x).2 hk)
   rw [hfh, decide_eq_true hk, if_pos rfl] at hbs
   refine goA ?_
   refine evG ggA (Zb7 (Zaa rfl) Zb0 Zb6 rfl q1) ?_
   refine evG ggA (Zeb (Zaa rfl) rfl rfl (by decide) q2) ?_
   refine evG ggA (Zb7 (Zaa rfl) Zb6 Zb0 rfl q3) ?_
   refine goA ?_
   refine evG ggA (Zaf (Zaa rfl) (Zac rfl) rfl rfl hQl rfl (by omega) (by omega)) ?_
   rw [th]
   refine evG ggA (Zah (Zaa rfl) (Zau rfl) rfl rfl hQl gh) ?_
   refine goA ?_
   refine evG ggA (Zaf (Zaa rfl) (Zac rfl) rfl rfl hQl rfl (by omega) (by omega)) ?_
   rw [ta]
   refine evG ggA (Zah (Zaa rfl) (Zau rfl) rfl rfl hQl gx) ?_
   refine evG ggA (Zdz (Zaa rfl) rfl rfl rfl c1) ?_
   refine goA ?_
   exact Zae (k := N) (s' := mkP [(0, .own 0 n), (1, .v (iV a)), (4, oF), (10, .v (iV ((h + 1 : Nat) : Int))), (11, .v (iV j))] (QL L) 220 true [0]) (by omega) (by exact Za5) ⟨h + 1, j, hbs, by omega, by omega, by omega, hj, rfl⟩
  ·have b3 : decide (ordR e x < 0) = false := decide_eq_false fun h => hk ((Zfg e x).1 h)
   rw [hfh, decide_eq_false hk, if_neg (by decide)] at hbs
   refine goA ?_
   refine evG ggA (Zb7 (Zaa rfl) Zb0 Zb6 rfl q1) ?_
   refine evG ggA (Zeb (Zaa rfl) rfl rfl (by decide) q2) ?_
   refine evG ggA (Zb7 (Zaa rfl) Zb6 Zb0 rfl q3) ?_
   refine goA ?_
   refine evG ggA (Zaf (Zaa rfl) (Zac rfl) rfl rfl hQl rfl (by omega) (by omega)) ?_
   rw [th]
   refine evG ggA (Zah (Zaa rfl) (Zau rfl) rfl rfl hQl gh) ?_
   refine goA ?_
   refine evG ggA (Zaf (Zaa rfl) (Zac rfl) rfl rfl hQl rfl (by omega) (by omega)) ?_
   rw [ta]
   refine evG ggA (Zah (Zaa rfl) (Zau rfl) rfl rfl hQl gx) ?_
   refine evG ggA (Zdz (Zaa rfl) rfl rfl rfl c1) ?_
   refine goA ?_
   exact Zae (k := N) (s' := mkP [(0, .own 0 n), (1, .v (iV a)), (4, oF), (10, .v (iV i)), (11, .v (iV h))] (QL L) 220 true [0]) (by omega) (by exact Za5) ⟨i, h, hbs, by omega, hi, by omega, by omega, rfl⟩
 have b2 : decide ((i : Int) < (j : Int)) = false := decide_eq_false (by omega)
 have his : i = s := by
  cases N with
  | zero => exact hbs
  | succ N => rw [bs, if_neg hlt] at hbs; exact hbs
 clear hbs hN hfv hLV gx hLx
 subst his
 rw [hcast]
 refine goA ?_
 refine T.loop (fun N s1 => ∃ D R : List QE, V1 = D ++ R ∧ N = R.length ∧ s1 = mkP [(0, .own 0 n), (10, .v (iV i)), (13, .v (iV ((a + D.length : Nat) : Int)))] (QL (pre ++ (D ++ x :: (R ++ (V2 ++ post))))) 220 true [0]) V1.length
  (s' := mkP [(0, .own 0 n), (10, .v (iV i)), (13, .v (iV a))] (QL (pre ++ ([] ++ x :: (V1 ++ (V2 ++ post))))) 220 true [0]) (by exact Za5) ⟨[], V1, rfl, rfl, rfl⟩ ?_
 rintro _ _ ⟨D, R, hDR, rfl, rfl⟩
 have hDl : D.length + R.length = V1.length := by rw [hDR]; simp
 rcases R with _ | ⟨y, R⟩
 ·have b3 : decide (((a + D.length : Nat) : Int) < (i : Int) - 1) = false := decide_eq_false (by simp at hDl; omega)
  have hD : V1 = D := by rw [hDR]; simp
  have hfin : pre ++ (D ++ x :: ([] ++ (V2 ++ post))) = pre ++ ((V1 ++ x :: V2) ++ post) := by rw [hD]; simp
  rw [hfin]
  refine goA ?_
  exact ⟨.inr rfl, by exact Za5⟩
 simp only [List.length_cons] at hDl
 have b3 : decide (((a + D.length : Nat) : Int) < (i : Int) - 1) = true := decide_eq_true (by omega)
 have hL1 : pre ++ (D ++ x :: ((y :: R) ++ (V2 ++ post))) = (pre ++ D) ++ x :: ([] ++ y :: (R ++ (V2 ++ post))) := by simp
 have hL2 : (pre ++ D) ++ y :: ([] ++ x :: (R ++ (V2 ++ post))) = pre ++ ((D ++ [y]) ++ x :: (R ++ (V2 ++ post))) := by simp
 rw [hL1]
 obtain ⟨g1, g2, gs⟩ := av_far (P := pre ++ D) (M := []) (Q := R ++ (V2 ++ post)) (x := x) (y := y) (i := a + D.length) (j := a + D.length + 1) (by simp; omega) (by simp)
 have hQ2 : (((pre ++ D) ++ x :: ([] ++ y :: (R ++ (V2 ++ post)))).map QE.av).length = n := by simp; omega
 have t1 : ((a + D.length : Nat) : Int).toNat = a + D.length := by omega
 have t2 : (((a + D.length : Nat) : Int) + 1).toNat = a + D.length + 1 := by omega
 refine goA ?_
 refine evG ggA (Zaf (Zaa rfl) (Zac rfl) rfl rfl hQ2 rfl (by omega) (by omega)) ?_
 rw [t2]
 refine evG ggA (Zah (Zaa rfl) (Zau rfl) rfl rfl hQ2 g2) ?_
 refine goA ?_
 refine evG ggA (Zaf (Zaa rfl) (Zac rfl) rfl rfl hQ2 rfl (by omega) (by omega)) ?_
 rw [t1]
 refine evG ggA (Zah (Zaa rfl) (Zau rfl) rfl rfl hQ2 g1) ?_
 refine evG ggA (Zaf (Zaa rfl) (Zac rfl) rfl rfl hQ2 rfl (by omega) (by omega)) ?_
 rw [t1]
 refine evG ggA (Za8 (x := y.av) rfl (Zbj rfl) rfl rfl hQ2 (by omega) rfl rfl (fun l e => by cases e) rfl) ?_
 refine evG ggA (Zaf (Zaa rfl) (Zac rfl) rfl rfl (by rw [List.length_set]; exact hQ2) rfl (by omega) (by omega)) ?_
 rw [t2]
 refine evG ggA (Za8 (x := x.av) rfl (Zbj rfl) rfl rfl (by rw [List.length_set]; exact hQ2) (by omega) rfl rfl (fun l e => by cases e) rfl) ?_
 rw [gs, hL2]
 refine goA ?_
 exact Zae (k := R.length) (s' := mkP [(0, .own 0 n), (10, .v (iV i)), (13, .v (iV ((a + (D ++ [y]).length : Nat) : Int)))] (QL (pre ++ ((D ++ [y]) ++ x :: (R ++ (V2 ++ post))))) 220 true [0]) (by simp) (by rw [show ((a + (D ++ [y]).length : Nat) : Int) = ((a + D.length : Nat) : Int) + 1 by simp; omega]; exact Za5) ⟨D ++ [y], R, by rw [hDR]; simp, rfl, rfl⟩
end Ab
namespace Ab
open Go Go.RowKit Go.Proofs Hp
set_option maxRecDepth 100000
set_option maxHeartbeats 16000000 in
theorem symB_p {n a m b : Nat} {pre U post : List QE} {y : QE} (hn : (pre ++ (U ++ ([y] ++ post))).length = n) (hn2 : n ≤ 1000000) (ha : pre.length = a) (hm : a + U.length = m) (hb : m + 1 = b) (hU2 : 2 ≤ U.length) (hus : ES U) (hy : y.sm) (hs : ∀ e, e ∈ U → e.sm) :
  ∃ W, ES W ∧ W.Perm (U ++ [y]) ∧ PCM true Tryz.prog 124 [.own 0 n, .v (iV a), .v (iV m), .v (iV b), oF] (QL (pre ++ (U ++ ([y] ++ post)))) true (.v (.tup [])) (QL (pre ++ (W ++ post))) := by
 have hlen : a + U.length + 1 + post.length = n := by simp at hn; omega
 obtain ⟨L, hL⟩ : ∃ L, L = pre ++ (U ++ ([y] ++ post)) := ⟨_, rfl⟩
 have hLV : ∀ t, t < U.length → L[a + t]? = U[t]? := fun t ht => by
  rw [hL]
  exact get_mid ha ht
 have hLy : L[m]? = some y := by rw [hL, ← List.append_assoc]; exact Zdp (by simp; omega)
 obtain ⟨f, hf⟩ : ∃ f : Nat → Bool, f = fun h => match L[h]? with | some e => !decide (kl y.k e.k) | none => false := ⟨_, rfl⟩
 have hfv : ∀ t e, U[t]? = some e → f (a + t) = !decide (kl y.k e.k) := fun t e he => by
  have ht : t < U.length := (List.getElem?_eq_some_iff.1 he).1
  rw [hf]
  simp only [hLV t ht, he]
 obtain ⟨s1, s2, s3, s4⟩ := bs_spec f U.length a m a m (by omega) (by omega) (Nat.le_refl _) (Nat.le_refl _) (fun h => absurd h (Nat.lt_irrefl _)) (fun h => absurd h (Nat.lt_irrefl _))
 obtain ⟨s, hsd⟩ : ∃ s, s = bs f U.length a m := ⟨_, rfl⟩
 rw [← hsd] at s1 s2 s3 s4
 obtain ⟨V1, V2, hV, hV1⟩ := Zf1 (l := U) (n := s - a) (by omega)
 have hV12 : V1.length + V2.length = U.length := by rw [hV]; simp
 have hes : ES (V1 ++ V2) := hV ▸ hus
 obtain ⟨hes1, hes2, -⟩ := Zfp.1 hes
 have k1 : ∀ z, z ∈ V1 → ke z y := fun z hz => by
  rcases nil_or V1 with h0 | ⟨D, w, h0⟩
  ·rw [h0] at hz; cases hz
  ·have hl : D.length + 1 = s - a := by rw [← hV1, h0]; simp
   have hw := hfv D.length w (by rw [hV, h0, List.append_assoc]; exact Zdp rfl)
   rw [show a + D.length = s - 1 by omega, s3 (by omega)] at hw
   rw [h0] at hz hes1
   have hw2 : ke w y := by
    have := hw.symm
    simp only [Bool.not_eq_true', decide_eq_false_iff_not] at this
    exact this
   exact ke_tr (es_last hes1 z hz) hw2
 have k2 : ∀ z, z ∈ V2 → ke y z := fun z hz => by
  rcases V2 with _ | ⟨w, R⟩
  ·cases hz
  ·simp only [List.length_cons] at hV12
   have hw := hfv V1.length w (by rw [hV]; exact Zdp rfl)
   rw [show a + V1.length = s by omega, s4 (by omega)] at hw
   have hw2 : kl y.k w.k := by
    have := hw.symm
    simp only [Bool.not_eq_false', decide_eq_true_eq] at this
    exact this
   exact ke_tr (ke_lt hw2) (es_head hes2 z hz)
 refine ⟨V1 ++ y :: V2, es_ins hes k1 k2, by rw [hV]; exact List.perm_middle.trans (List.perm_append_singleton y (V1 ++ V2)).symm, ?_⟩
 clear k1 k2 hes hes1 hes2 hus s3 s4
 have hcast : pre ++ (U ++ ([y] ++ post)) = pre ++ (V1 ++ (V2 ++ y :: (([] : List QE) ++ post))) := by rw [hV]; simp
 have hQl : (L.map QE.av).length = n := by rw [hL, List.length_map]; exact hn
 have gy := map_get hLy
 have b1 : ((m : Int) - (a : Int) == 1) = false := by rw [beq_eq_false_iff_ne]; omega
 have b1' : ((b : Int) - (m : Int) == 1) = true := by rw [beq_iff_eq]; omega
 rw [← hL] at hcast ⊢
 refine Zbp Tryz.func124 rfl rfl rfl (Nat.le_of_ble_eq_true rfl) ?_
 refine goA ?_
 refine T.loop (fun N s1 => ∃ i j : Nat, bs f N i j = s ∧ j - i ≤ N ∧ a ≤ i ∧ i ≤ j ∧ j ≤ m ∧ s1 = mkP [(0, .own 0 n), (2, .v (iV m)), (4, oF), (14, .v (iV i)), (15, .v (iV j))] (QL L) 220 true [0]) U.length
  (s' := mkP [(0, .own 0 n), (2, .v (iV m)), (4, oF), (14, .v (iV a)), (15, .v (iV m))] (QL L) 220 true [0]) (by exact Za5) ⟨a, m, hsd.symm, by omega, Nat.le_refl _, by omega, Nat.le_refl _, rfl⟩ ?_
 rintro N _ ⟨i, j, hbs, hN, hi, hij, hj, rfl⟩
 by_cases hlt : i < j
 ·have b2 : decide ((i : Int) < (j : Int)) = true := decide_eq_true (by omega)
  obtain ⟨N, rfl⟩ : ∃ k, N = k + 1 := ⟨N - 1, by omega⟩
  rw [bs, if_pos hlt] at hbs
  obtain ⟨q1, q2, q3⟩ := half_c (i := i) (j := j) (by omega)
  obtain ⟨h, hh⟩ : ∃ h, h = (i + j) / 2 := ⟨_, rfl⟩
  rw [← hh] at hbs q2 q3
  have h1 : i ≤ h ∧ h < j := by omega
  obtain ⟨e, he⟩ : ∃ e, U[h - a]? = some e := ⟨U[h - a]'(by omega), List.getElem?_eq_getElem _⟩
  have hfh := hfv (h - a) e he
  rw [show a + (h - a) = h by omega] at hfh
  have gh := map_get ((hLV (h - a) (by omega)).trans he)
  rw [show a + (h - a) = h by omega] at gh
  have hes := hs e (List.mem_of_getElem? he)
  have c1 := order_p hy hes
  have th : ((h : Nat) : Int).toNat = h := by omega
  have ta : ((m : Nat) : Int).toNat = m := by omega
  by_cases hk : kl y.k e.k
  ·have b3 : decide (ordR y e < 0) = true := decide_eq_true ((Zfg y e).2 hk)
   have b4 : (!decide (ordR y e < 0)) = false := by rw [b3]; rfl
   rw [hfh, decide_eq_true hk, if_neg (by decide)] at hbs
   refine goA ?_
   refine evG ggA (Zb7 (Zaa rfl) Zb0 Zb6 rfl q1) ?_
   refine evG ggA (Zeb (Zaa rfl) rfl rfl (by decide) q2) ?_
   refine evG ggA (Zb7 (Zaa rfl) Zb6 Zb0 rfl q3) ?_
   refine goA ?_
   refine evG ggA (Zaf (Zaa rfl) (Zac rfl) rfl rfl hQl rfl (by omega) (by omega)) ?_
   rw [ta]
   refine evG ggA (Zah (Zaa rfl) (Zau rfl) rfl rfl hQl gy) ?_
   refine goA ?_
   refine evG ggA (Zaf (Zaa rfl) (Zac rfl) rfl rfl hQl rfl (by omega) (by omega)) ?_
   rw [th]
   refine evG ggA (Zah (Zaa rfl) (Zau rfl) rfl rfl hQl gh) ?_
   refine evG ggA (Zdz (Zaa rfl) rfl rfl rfl c1) ?_
   refine goA ?_
   exact Zae (k := N) (s' := mkP [(0, .own 0 n), (2, .v (iV m)), (4, oF), (14, .v (iV i)), (15, .v (iV h))] (QL L) 220 true [0]) (by omega) (by exact Za5) ⟨i, h, hbs, by omega, hi, by omega, by omega, rfl⟩
  ·have b3 : decide (ordR y e < 0) = false := decide_eq_false fun h => hk ((Zfg y e).1 h)
   have b4 : (!decide (ordR y e < 0)) = true := by rw [b3]; rfl
   rw [hfh, decide_eq_false hk, if_pos (show (!false) = true from rfl)] at hbs
   refine goA ?_
   refine evG ggA (Zb7 (Zaa rfl) Zb0 Zb6 rfl q1) ?_
   refine evG ggA (Zeb (Zaa rfl) rfl rfl (by decide) q2) ?_
   refine evG ggA (Zb7 (Zaa rfl) Zb6 Zb0 rfl q3) ?_
   refine goA ?_
   refine evG ggA (Zaf (Zaa rfl) (Zac rfl) rfl rfl hQl rfl (by omega) (by omega)) ?_
   rw [ta]
   refine evG ggA (Zah (Zaa rfl) (Zau rfl) rfl rfl hQl gy) ?_
   refine goA ?_
   refine evG ggA (Zaf (Zaa rfl) (Zac rfl) rfl rfl hQl rfl (by omega) (by omega)) ?_
   rw [th]
   refine evG ggA (Zah (Zaa rfl) (Zau rfl) rfl rfl hQl gh) ?_
   refine evG ggA (Zdz (Zaa rfl) rfl rfl rfl c1) ?_
   refine goA ?_
   exact Zae (k := N) (s' := mkP [(0, .own 0 n), (2, .v (iV m)), (4, oF), (14, .v (iV ((h + 1 : Nat) : Int))), (15, .v (iV j))] (QL L) 220 true [0]) (by omega) (by exact Za5) ⟨h + 1, j, hbs, by omega, by omega, by omega, hj, rfl⟩
 have b2 : decide ((i : Int) < (j : Int)) = false := decide_eq_false (by omega)
 have his : i = s := by
  cases N with
  | zero => exact hbs
  | succ N => rw [bs, if_neg hlt] at hbs; exact hbs
 clear hbs hN hfv hLV gy hLy
 subst his
 rw [hcast]
 refine goA ?_
 refine T.loop (fun N s1 => ∃ D R : List QE, V2 = D ++ R ∧ N = D.length ∧ s1 = mkP [(0, .own 0 n), (14, .v (iV i)), (17, .v (iV ((i + D.length : Nat) : Int)))] (QL (pre ++ (V1 ++ (D ++ y :: (R ++ post))))) 220 true [0]) V2.length
  (s' := mkP [(0, .own 0 n), (14, .v (iV i)), (17, .v (iV m))] (QL (pre ++ (V1 ++ (V2 ++ y :: ([] ++ post))))) 220 true [0]) (by exact Za5) ⟨V2, [], by simp, rfl, by rw [show i + V2.length = m by omega]⟩ ?_
 rintro _ _ ⟨D, R, hDR, rfl, rfl⟩
 have hDl : D.length + R.length = V2.length := by rw [hDR]; simp
 rcases nil_or D with h0 | ⟨S, z, h0⟩
 ·subst h0
  have b3 : decide (((i + ([] : List QE).length : Nat) : Int) > (i : Int)) = false := decide_eq_false (by simp)
  have hfin : pre ++ (V1 ++ ([] ++ y :: (R ++ post))) = pre ++ ((V1 ++ y :: V2) ++ post) := by rw [hDR]; simp
  rw [hfin]
  refine goA ?_
  exact ⟨.inr rfl, by exact Za5⟩
 subst h0
 simp only [List.length_append, List.length_cons, List.length_nil] at hDl
 have hSl : (S ++ [z]).length = S.length + 1 := by simp
 rw [hSl]
 have b3 : decide (((i + (S.length + 1) : Nat) : Int) > (i : Int)) = true := decide_eq_true (by omega)
 have hL1 : pre ++ (V1 ++ ((S ++ [z]) ++ y :: (R ++ post))) = (pre ++ (V1 ++ S)) ++ z :: y :: (R ++ post) := by simp
 have hL2 : (pre ++ (V1 ++ S)) ++ y :: z :: (R ++ post) = pre ++ (V1 ++ (S ++ y :: ((z :: R) ++ post))) := by simp
 rw [hL1]
 have hPl : (pre ++ (V1 ++ S)).length = i + S.length := by simp; omega
 have g1 : (((pre ++ (V1 ++ S)) ++ z :: y :: (R ++ post)).map QE.av)[i + S.length]? = some z.av := Zc3 hPl
 have g2 : (((pre ++ (V1 ++ S)) ++ z :: y :: (R ++ post)).map QE.av)[i + S.length + 1]? = some y.av := av_get1 hPl
 have gs : ((((pre ++ (V1 ++ S)) ++ z :: y :: (R ++ post)).map QE.av).set (i + S.length + 1) z.av).set (i + S.length) y.av = ((pre ++ (V1 ++ S)) ++ y :: z :: (R ++ post)).map QE.av := av_swap hPl
 have hQ2 : (((pre ++ (V1 ++ S)) ++ z :: y :: (R ++ post)).map QE.av).length = n := by simp; omega
 have t1 : (((i + (S.length + 1) : Nat) : Int)).toNat = i + S.length + 1 := by omega
 have t2 : (((i + (S.length + 1) : Nat) : Int) - 1).toNat = i + S.length := by omega
 have e5 : ((i + (S.length + 1) : Nat) : Int) - 1 = ((i + S.length : Nat) : Int) := by omega
 refine goA ?_
 refine evG ggA (Zaf (Zaa rfl) (Zac rfl) rfl rfl hQ2 rfl (by omega) (by omega)) ?_
 rw [t2]
 refine evG ggA (Zah (Zaa rfl) (Zau rfl) rfl rfl hQ2 g1) ?_
 refine goA ?_
 refine evG ggA (Zaf (Zaa rfl) (Zac rfl) rfl rfl hQ2 rfl (by omega) (by omega)) ?_
 rw [t1]
 refine evG ggA (Zah (Zaa rfl) (Zau rfl) rfl rfl hQ2 g2) ?_
 refine evG ggA (Zaf (Zaa rfl) (Zac rfl) rfl rfl hQ2 rfl (by omega) (by omega)) ?_
 rw [t1]
 refine evG ggA (Za8 (x := z.av) rfl (Zbj rfl) rfl rfl hQ2 (by omega) rfl rfl (fun l e => by cases e) rfl) ?_
 refine evG ggA (Zaf (Zaa rfl) (Zac rfl) rfl rfl (by rw [List.length_set]; exact hQ2) rfl (by omega) (by omega)) ?_
 rw [t2]
 refine evG ggA (Za8 (x := y.av) rfl (Zbj rfl) rfl rfl (by rw [List.length_set]; exact hQ2) (by omega) rfl rfl (fun l e => by cases e) rfl) ?_
 rw [gs, hL2]
 refine goA ?_
 rw [e5]
 exact Zae (k := S.length) (s' := mkP [(0, .own 0 n), (14, .v (iV i)), (17, .v (iV ((i + S.length : Nat) : Int)))] (QL (pre ++ (V1 ++ (S ++ y :: ((z :: R) ++ post))))) 220 true [0]) (by omega) (by exact Za5) ⟨S, z :: R, by rw [hDR]; simp, rfl, rfl⟩
end Ab
namespace Ab
open Go Go.RowKit Go.Proofs Hp
set_option maxRecDepth 100000
def SymOK (n F : Nat) : Prop := ∀ (a m b : Nat) (pre U V post : List QE), U.length + V.length ≤ F → (pre ++ (U ++ (V ++ post))).length = n → pre.length = a → a + U.length = m → m + V.length = b → 1 ≤ U.length → 1 ≤ V.length → ES U → ES V → (∀ e, e ∈ U → e.sm) → (∀ e, e ∈ V → e.sm) →
 ∃ W, ES W ∧ W.Perm (U ++ V) ∧ PCM true Tryz.prog 124 [.own 0 n, .v (iV a), .v (iV m), .v (iV b), oF] (QL (pre ++ (U ++ (V ++ post)))) true (.v (.tup [])) (QL (pre ++ (W ++ post)))
theorem sym_half {n F a s mid : Nat} {pre U V post : List QE} (hIH : SymOK n F) (hF : U.length + V.length ≤ F) (hn : (pre ++ (U ++ (V ++ post))).length = n) (ha : pre.length = a) (hs : a + U.length = s) (hm : s + V.length = mid) (hU : ES U) (hV : ES V) (h1 : ∀ e, e ∈ U → e.sm) (h2 : ∀ e, e ∈ V → e.sm) :
  ∃ W, ES W ∧ W.Perm (U ++ V) ∧ (a < s → s < mid → PCM true Tryz.prog 124 [.own 0 n, .v (iV a), .v (iV s), .v (iV mid), oF] (QL (pre ++ (U ++ (V ++ post)))) true (.v (.tup [])) (QL (pre ++ (W ++ post)))) ∧ (¬ (a < s ∧ s < mid) → W = U ++ V) := by
 by_cases h : a < s ∧ s < mid
 ·obtain ⟨W, w1, w2, w3⟩ := hIH a s mid pre U V post hF hn ha hs hm (by omega) (by omega) hU hV h1 h2
  exact ⟨W, w1, w2, fun _ _ => w3, fun k => absurd h k⟩
 ·refine ⟨U ++ V, ?_, List.Perm.refl _, fun k1 k2 => absurd ⟨k1, k2⟩ h, fun _ => rfl⟩
  by_cases h0 : U.length = 0
  ·rw [List.eq_nil_of_length_eq_zero h0]; exact hV
  ·rw [List.eq_nil_of_length_eq_zero (show V.length = 0 by omega), List.append_nil]; exact hU
set_option maxHeartbeats 32000000 in
theorem symC_p {n F a m b : Nat} {pre U V post : List QE} (hIH : SymOK n F) (hn2 : n ≤ 1000000) (hF : U.length + V.length ≤ F + 1) (hn : (pre ++ (U ++ (V ++ post))).length = n) (ha : pre.length = a) (hm : a + U.length = m) (hb : m + V.length = b) (hU : 2 ≤ U.length) (hV : 2 ≤ V.length) (hus : ES U) (hvs : ES V) (hs1 : ∀ e, e ∈ U → e.sm) (hs2 : ∀ e, e ∈ V → e.sm) :
  ∃ W, ES W ∧ W.Perm (U ++ V) ∧ PCM true Tryz.prog 124 [.own 0 n, .v (iV a), .v (iV m), .v (iV b), oF] (QL (pre ++ (U ++ (V ++ post)))) true (.v (.tup [])) (QL (pre ++ (W ++ post))) := by
 have hlen : a + U.length + V.length + post.length = n := by simp at hn; omega
 obtain ⟨L, hL⟩ : ∃ L, L = pre ++ (U ++ (V ++ post)) := ⟨_, rfl⟩
 have hLU : ∀ t, t < U.length → L[a + t]? = U[t]? := fun t ht => by rw [hL]; exact get_mid ha ht
 have hLV : ∀ t, t < V.length → L[m + t]? = V[t]? := fun t ht => by
  rw [hL, ← List.append_assoc]
  exact get_mid (by simp; omega) ht
 obtain ⟨mid, hmid⟩ : ∃ mid, mid = (a + b) / 2 := ⟨_, rfl⟩
 obtain ⟨lo, hi, hlo⟩ : ∃ lo hi : Nat, (m > mid ∧ lo + b = mid + m ∧ hi = mid) ∨ (m ≤ mid ∧ lo = a ∧ hi = m) := by
  by_cases h : m > mid
  ·exact ⟨mid + m - b, mid, .inl ⟨h, by omega, rfl⟩⟩
  ·exact ⟨a, m, .inr ⟨by omega, rfl, rfl⟩⟩
 obtain ⟨f, hf⟩ : ∃ f : Nat → Bool, f = fun c => match L[mid + m - 1 - c]?, L[c]? with | some u, some v => !decide (kl u.k v.k) | _, _ => false := ⟨_, rfl⟩
 have hfv : ∀ c u v, L[mid + m - 1 - c]? = some u → L[c]? = some v → f c = !decide (kl u.k v.k) := fun c u v h1 h2 => by
  rw [hf]
  simp only [h1, h2]
 obtain ⟨s1, s2, s3, s4⟩ := bs_spec f (hi - lo) lo hi lo hi (by omega) (by omega) (Nat.le_refl _) (Nat.le_refl _) (fun h => absurd h (Nat.lt_irrefl _)) (fun h => absurd h (Nat.lt_irrefl _))
 obtain ⟨s, hsd⟩ : ∃ s, s = bs f (hi - lo) lo hi := ⟨_, rfl⟩
 rw [← hsd] at s1 s2 s3 s4
 obtain ⟨e, he⟩ : ∃ e, e + s = mid + m := ⟨mid + m - s, by omega⟩
 obtain ⟨U1, U2, hU12, hU1⟩ := Zf1 (l := U) (n := s - a) (by omega)
 obtain ⟨V1, V2, hV12, hV1⟩ := Zf1 (l := V) (n := e - m) (by omega)
 have lU : U1.length + U2.length = U.length := by rw [hU12]; simp
 have lV : V1.length + V2.length = V.length := by rw [hV12]; simp
 have eu : ES (U1 ++ U2) := hU12 ▸ hus
 have ev : ES (V1 ++ V2) := hV12 ▸ hvs
 obtain ⟨eu1, eu2, -⟩ := Zfp.1 eu
 obtain ⟨ev1, ev2, -⟩ := Zfp.1 ev
 have x1 : ∀ x, x ∈ U1 → ∀ y, y ∈ V2 → ke x y := by
  rcases nil_or U1 with h0 | ⟨D, x0, h0⟩
  ·rw [h0]; intro x hx; cases hx
  rcases V2 with _ | ⟨y0, R⟩
  ·intro x _ y hy; cases hy
  have hD : D.length + 1 = s - a := by rw [← hU1, h0]; simp
  simp only [List.length_cons] at lV
  have g1 := (hLU D.length (by omega)).trans (show U[D.length]? = some x0 by rw [hU12, h0, List.append_assoc]; exact Zdp rfl)
  have g2 := (hLV V1.length (by omega)).trans (show V[V1.length]? = some y0 by rw [hV12]; exact Zdp rfl)
  have h := hfv (s - 1) y0 x0 (by rw [show mid + m - 1 - (s - 1) = m + V1.length by omega]; exact g2) (by rw [show s - 1 = a + D.length by omega]; exact g1)
  rw [s3 (by omega)] at h
  have hk : ke x0 y0 := by
   have := h.symm
   simp only [Bool.not_eq_true', decide_eq_false_iff_not] at this
   exact this
  rw [h0] at eu1 ⊢
  exact ke_cross (es_last eu1) (es_head ev2) hk
 have x2 : ∀ x, x ∈ V1 → ∀ y, y ∈ U2 → ke x y := by
  rcases nil_or V1 with h0 | ⟨D, x0, h0⟩
  ·rw [h0]; intro x hx; cases hx
  rcases U2 with _ | ⟨y0, R⟩
  ·intro x _ y hy; cases hy
  have hD : D.length + 1 = e - m := by rw [← hV1, h0]; simp
  simp only [List.length_cons] at lU
  have g1 := (hLV D.length (by omega)).trans (show V[D.length]? = some x0 by rw [hV12, h0, List.append_assoc]; exact Zdp rfl)
  have g2 := (hLU U1.length (by omega)).trans (show U[U1.length]? = some y0 by rw [hU12]; exact Zdp rfl)
  have h := hfv s x0 y0 (by rw [show mid + m - 1 - s = m + D.length by omega]; exact g1) (by rw [show s = a + U1.length by omega]; exact g2)
  rw [s4 (by omega)] at h
  have hk : kl x0.k y0.k := by
   have := h.symm
   simp only [Bool.not_eq_false', decide_eq_true_eq] at this
   exact this
  rw [h0] at ev1 ⊢
  exact ke_cross (es_last ev1) (es_head eu2) (ke_lt hk)
 obtain ⟨W1, w1, p1, hc1, hn1⟩ := sym_half (a := a) (s := s) (mid := mid) (pre := pre) (U := U1) (V := V1) (post := U2 ++ (V2 ++ post)) hIH (by omega) (by simp; omega) ha (by omega) (by omega) eu1 ev1 (fun z hz => hs1 z (by rw [hU12]; simp [hz])) (fun z hz => hs2 z (by rw [hV12]; simp [hz]))
 have lW1 : W1.length = U1.length + V1.length := by rw [p1.length_eq]; simp
 obtain ⟨W2, w2, p2, hc2, hn22⟩ := sym_half (a := mid) (s := e) (mid := b) (pre := pre ++ W1) (U := U2) (V := V2) (post := post) hIH (by omega) (by simp; omega) (by simp; omega) (by omega) (by omega) eu2 ev2 (fun z hz => hs1 z (by rw [hU12]; simp [hz])) (fun z hz => hs2 z (by rw [hV12]; simp [hz]))
 have lW2 : W2.length = U2.length + V2.length := by rw [p2.length_eq]; simp
 obtain ⟨f1, f2⟩ := es_merge eu ev x1 x2 w1 p1 w2 p2
 refine ⟨W1 ++ W2, f1, by rw [hU12, hV12]; exact f2, ?_⟩
 have hrot : s < m → m < e → PCM true Tryz.prog 147 [.own 0 n, .v (iV s), .v (iV m), .v (iV e), oF] (QL (pre ++ (U1 ++ (U2 ++ (V1 ++ (V2 ++ post)))))) true (.v (.tup [])) (QL (pre ++ (U1 ++ (V1 ++ (U2 ++ (V2 ++ post)))))) := fun k1 k2 => by
  have c := rotate_p (n := n) (a := s) (m := m) (b := e) (P := pre ++ U1) (X := U2) (Y := V1) (Q := V2 ++ post) (by simp; omega) hn2 (by simp; omega) (by omega) (by omega) (by omega) (by omega)
  rw [List.append_assoc, List.append_assoc] at c
  exact c
 rw [List.append_assoc, List.append_assoc] at hc2
 have hLL : L = pre ++ (U1 ++ (U2 ++ (V1 ++ (V2 ++ post)))) := by rw [hL, hU12, hV12]; simp
 have hfin : pre ++ ((W1 ++ W2) ++ post) = pre ++ (W1 ++ (W2 ++ post)) := by simp
 rw [hfin, ← hL]
 clear x1 x2 f1 f2 w1 w2 p1 p2 eu ev eu1 eu2 ev1 ev2 hus hvs s3 s4 hfin hIH
 have hQl : (L.map QE.av).length = n := by rw [hL, List.length_map]; exact hn
 have b1 : ((m : Int) - (a : Int) == 1) = false := by rw [beq_eq_false_iff_ne]; omega
 have b1' : ((b : Int) - (m : Int) == 1) = false := by rw [beq_eq_false_iff_ne]; omega
 obtain ⟨q1, q2, q3⟩ := half_c (i := a) (j := b) (by omega)
 rw [← hmid] at q2 q3
 refine Zbp Tryz.func124 rfl rfl rfl (Nat.le_of_ble_eq_true rfl) ?_
 refine goA ?_
 refine evG ggA (Zb7 (Zaa rfl) Zb0 Zb6 rfl q1) ?_
 refine evG ggA (Zeb (Zaa rfl) rfl rfl (by decide) q2) ?_
 refine evG ggA (Zb7 (Zaa rfl) Zb6 Zb0 rfl q3) ?_
 refine runA ?_
 refine Za1 ?_
 refine osA ?_
 refine r1A ?_
 refine r1A ?_
 refine T.seqI (fun s1 => s1 = mkP [(0, .own 0 n), (1, .v (iV a)), (2, .v (iV m)), (3, .v (iV b)), (4, oF), (18, .v (iV mid)), (19, .v (iV ((mid + m : Nat) : Int))), (20, .v (iV lo)), (21, .v (iV hi))] (QL L) 220 true [0]) ?_ ?_
 ·rcases hlo with ⟨c, c1, c2⟩ | ⟨c, c1, c2⟩
  ·have b3 : decide ((m : Int) > (mid : Int)) = true := decide_eq_true (by omega)
   have e1 : (mid : Int) + (m : Int) - (b : Int) = (lo : Int) := by omega
   subst c2
   refine goA ?_
   rw [e1]
   refine goA ?_
   exact Zag (s' := mkP [(0, .own 0 n), (1, .v (iV a)), (2, .v (iV m)), (3, .v (iV b)), (4, oF), (18, .v (iV hi)), (19, .v (iV ((hi + m : Nat) : Int))), (20, .v (iV lo)), (21, .v (iV hi))] (QL L) 220 true [0]) (by exact Za5) rfl
  ·have b3 : decide ((m : Int) > (mid : Int)) = false := decide_eq_false (by omega)
   subst c1 c2
   refine goA ?_
   exact Zag (s' := mkP [(0, .own 0 n), (1, .v (iV lo)), (2, .v (iV hi)), (3, .v (iV b)), (4, oF), (18, .v (iV mid)), (19, .v (iV ((mid + hi : Nat) : Int))), (20, .v (iV lo)), (21, .v (iV hi))] (QL L) 220 true [0]) (by exact Za5) rfl
 rintro _ rfl
 refine r1A ?_
 refine T.seqI (fun s1 => s1 = mkP [(0, .own 0 n), (1, .v (iV a)), (2, .v (iV m)), (3, .v (iV b)), (4, oF), (18, .v (iV mid)), (19, .v (iV ((mid + m : Nat) : Int))), (20, .v (iV s))] (QL L) 220 true [0]) ?_ ?_
 ·refine T.block ?_
  refine T.loop (fun N s1 => ∃ i j : Nat, bs f N i j = s ∧ j - i ≤ N ∧ lo ≤ i ∧ i ≤ j ∧ j ≤ hi ∧ s1 = mkP [(0, .own 0 n), (1, .v (iV a)), (2, .v (iV m)), (3, .v (iV b)), (4, oF), (18, .v (iV mid)), (19, .v (iV ((mid + m : Nat) : Int))), (20, .v (iV i)), (21, .v (iV j)), (22, .v (iV (((mid + m : Nat) : Int) - 1)))] (QL L) 220 true [0]) (hi - lo)
   (s' := mkP [(0, .own 0 n), (1, .v (iV a)), (2, .v (iV m)), (3, .v (iV b)), (4, oF), (18, .v (iV mid)), (19, .v (iV ((mid + m : Nat) : Int))), (20, .v (iV lo)), (21, .v (iV hi)), (22, .v (iV (((mid + m : Nat) : Int) - 1)))] (QL L) 220 true [0]) (by exact Za5) ⟨lo, hi, hsd.symm, by omega, Nat.le_refl _, by omega, Nat.le_refl _, rfl⟩ ?_
  clear q1 q2 q3 hc1 hc2 hrot hLL hn1 hn22
  rintro N _ ⟨i, j, hbs, hN, hi1, hij, hj, rfl⟩
  by_cases hlt : i < j
  ·have b2 : decide ((i : Int) < (j : Int)) = true := decide_eq_true (by omega)
   obtain ⟨N, rfl⟩ : ∃ k, N = k + 1 := ⟨N - 1, by omega⟩
   rw [bs, if_pos hlt] at hbs
   obtain ⟨q1, q2, q3⟩ := half_c (i := i) (j := j) (by omega)
   obtain ⟨h, hh⟩ : ∃ h, h = (i + j) / 2 := ⟨_, rfl⟩
   rw [← hh] at hbs q2 q3
   have h1 : i ≤ h ∧ h < j := by omega
   obtain ⟨v, hv⟩ : ∃ v, U[h - a]? = some v := ⟨U[h - a]'(by omega), List.getElem?_eq_getElem _⟩
   obtain ⟨u, hu⟩ : ∃ u, V[mid - 1 - h]? = some u := ⟨V[mid - 1 - h]'(by omega), List.getElem?_eq_getElem _⟩
   have gv0 := (hLU (h - a) (by omega)).trans hv
   have gu0 := (hLV (mid - 1 - h) (by omega)).trans hu
   rw [show a + (h - a) = h by omega] at gv0
   rw [show m + (mid - 1 - h) = mid + m - 1 - h by omega] at gu0
   have hfh := hfv h u v gu0 gv0
   have gv := map_get gv0
   have gu := map_get gu0
   have c1 := order_p (hs2 u (List.mem_of_getElem? hu)) (hs1 v (List.mem_of_getElem? hv))
   have th : ((h : Nat) : Int).toNat = h := by omega
   have tp : ((((mid + m : Nat) : Int) - 1) - (h : Int)).toNat = mid + m - 1 - h := by omega
   by_cases hk : kl u.k v.k
   ·have b3 : decide (ordR u v < 0) = true := decide_eq_true ((Zfg u v).2 hk)
    have b4 : (!decide (ordR u v < 0)) = false := by rw [b3]; rfl
    rw [hfh, decide_eq_true hk, if_neg (by decide)] at hbs
    refine goA ?_
    refine evG ggA (Zb7 (Zaa rfl) Zb0 Zb6 rfl q1) ?_
    refine evG ggA (Zeb (Zaa rfl) rfl rfl (by decide) q2) ?_
    refine evG ggA (Zb7 (Zaa rfl) Zb6 Zb0 rfl q3) ?_
    refine goA ?_
    refine evG ggA (Zaf (Zaa rfl) (Zac rfl) rfl rfl hQl rfl (by omega) (by omega)) ?_
    rw [tp]
    refine evG ggA (Zah (Zaa rfl) (Zau rfl) rfl rfl hQl gu) ?_
    refine goA ?_
    refine evG ggA (Zaf (Zaa rfl) (Zac rfl) rfl rfl hQl rfl (by omega) (by omega)) ?_
    rw [th]
    refine evG ggA (Zah (Zaa rfl) (Zau rfl) rfl rfl hQl gv) ?_
    refine evG ggA (Zdz (Zaa rfl) rfl rfl rfl c1) ?_
    refine goA ?_
    exact Zae (k := N) (s' := mkP [(0, .own 0 n), (1, .v (iV a)), (2, .v (iV m)), (3, .v (iV b)), (4, oF), (18, .v (iV mid)), (19, .v (iV ((mid + m : Nat) : Int))), (20, .v (iV i)), (21, .v (iV h)), (22, .v (iV (((mid + m : Nat) : Int) - 1)))] (QL L) 220 true [0]) (by omega) (by exact Za5) ⟨i, h, hbs, by omega, hi1, by omega, by omega, rfl⟩
   ·have b3 : decide (ordR u v < 0) = false := decide_eq_false fun h => hk ((Zfg u v).1 h)
    have b4 : (!decide (ordR u v < 0)) = true := by rw [b3]; rfl
    rw [hfh, decide_eq_false hk, if_pos (show (!false) = true from rfl)] at hbs
    refine goA ?_
    refine evG ggA (Zb7 (Zaa rfl) Zb0 Zb6 rfl q1) ?_
    refine evG ggA (Zeb (Zaa rfl) rfl rfl (by decide) q2) ?_
    refine evG ggA (Zb7 (Zaa rfl) Zb6 Zb0 rfl q3) ?_
    refine goA ?_
    refine evG ggA (Zaf (Zaa rfl) (Zac rfl) rfl rfl hQl rfl (by omega) (by omega)) ?_
    rw [tp]
    refine evG ggA (Zah (Zaa rfl) (Zau rfl) rfl rfl hQl gu) ?_
    refine goA ?_
    refine evG ggA (Zaf (Zaa rfl) (Zac rfl) rfl rfl hQl rfl (by omega) (by omega)) ?_
    rw [th]
    refine evG ggA (Zah (Zaa rfl) (Zau rfl) rfl rfl hQl gv) ?_
    refine evG ggA (Zdz (Zaa rfl) rfl rfl rfl c1) ?_
    refine goA ?_
    exact Zae (k := N) (s' := mkP [(0, .own 0 n), (1, .v (iV a)), (2, .v (iV m)), (3, .v (iV b)), (4, oF), (18, .v (iV mid)), (19, .v (iV ((mid + m : Nat) : Int))), (20, .v (iV ((h + 1 : Nat) : Int))), (21, .v (iV j)), (22, .v (iV (((mid + m : Nat) : Int) - 1)))] (QL L) 220 true [0]) (by omega) (by exact Za5) ⟨h + 1, j, hbs, by omega, by omega, by omega, hj, rfl⟩
  have b2 : decide ((i : Int) < (j : Int)) = false := decide_eq_false (by omega)
  have his : i = s := by
   cases N with
   | zero => exact hbs
   | succ N => rw [bs, if_neg hlt] at hbs; exact hbs
  rw [his] at b2 ⊢
  refine goA ?_
  exact Zag (s' := mkP [(0, .own 0 n), (1, .v (iV a)), (2, .v (iV m)), (3, .v (iV b)), (4, oF), (18, .v (iV mid)), (19, .v (iV ((mid + m : Nat) : Int))), (20, .v (iV s))] (QL L) 220 true [0]) (by exact Za5) rfl
 rintro _ rfl
 have e6 : ((mid + m : Nat) : Int) - (s : Int) = (e : Int) := by omega
 refine r1A ?_
 rw [e6, hLL]
 refine T.seqI (fun s1 => s1 = mkP [(0, .own 0 n), (1, .v (iV a)), (3, .v (iV b)), (4, oF), (18, .v (iV mid)), (20, .v (iV s)), (24, .v (iV e))] (QL (pre ++ (U1 ++ (V1 ++ (U2 ++ (V2 ++ post)))))) 220 true [0]) ?_ ?_
 ·by_cases hA : s < m
  ·have bA : decide ((s : Int) < (m : Int)) = true := decide_eq_true (by omega)
   by_cases hB : m < e
   ·have bB : decide ((m : Int) < (e : Int)) = true := decide_eq_true (by omega)
    have cr := hrot hA hB
    refine goA ?_
    refine evM (Zbs [(0, 0)] cr rfl rfl rfl rfl rfl rfl ⟨rfl, trivial⟩ ⟨.inl rfl, trivial⟩ ?_)
    refine goA ?_
    exact Zag (s' := mkP [(0, .own 0 n), (1, .v (iV a)), (3, .v (iV b)), (4, oF), (18, .v (iV mid)), (20, .v (iV s)), (24, .v (iV e))] (QL (pre ++ (U1 ++ (V1 ++ (U2 ++ (V2 ++ post)))))) 220 true [0]) (by exact Za5) rfl
   ·have bB : decide ((m : Int) < (e : Int)) = false := decide_eq_false (by omega)
    have h0 : V1 = [] := List.eq_nil_of_length_eq_zero (by omega)
    rw [show pre ++ (U1 ++ (U2 ++ (V1 ++ (V2 ++ post)))) = pre ++ (U1 ++ (V1 ++ (U2 ++ (V2 ++ post)))) by rw [h0]; rfl]
    refine goA ?_
    exact Zag (s' := mkP [(0, .own 0 n), (1, .v (iV a)), (3, .v (iV b)), (4, oF), (18, .v (iV mid)), (20, .v (iV s)), (24, .v (iV e))] (QL (pre ++ (U1 ++ (V1 ++ (U2 ++ (V2 ++ post)))))) 220 true [0]) (by exact Za5) rfl
  ·have bA : decide ((s : Int) < (m : Int)) = false := decide_eq_false (by omega)
   have h0 : U2 = [] := List.eq_nil_of_length_eq_zero (by omega)
   rw [show pre ++ (U1 ++ (U2 ++ (V1 ++ (V2 ++ post)))) = pre ++ (U1 ++ (V1 ++ (U2 ++ (V2 ++ post)))) by rw [h0]; rfl]
   refine goA ?_
   exact Zag (s' := mkP [(0, .own 0 n), (1, .v (iV a)), (3, .v (iV b)), (4, oF), (18, .v (iV mid)), (20, .v (iV s)), (24, .v (iV e))] (QL (pre ++ (U1 ++ (V1 ++ (U2 ++ (V2 ++ post)))))) 220 true [0]) (by exact Za5) rfl
 rintro _ rfl
 have asc : ∀ X Y Z : List QE, X ++ (Y ++ Z) = (X ++ Y) ++ Z := fun X Y Z => (List.append_assoc X Y Z).symm
 refine T.seqI (fun s1 => s1 = mkP [(0, .own 0 n), (3, .v (iV b)), (4, oF), (18, .v (iV mid)), (24, .v (iV e))] (QL (pre ++ (W1 ++ (U2 ++ (V2 ++ post))))) 220 true [0]) ?_ ?_
 ·by_cases hA : a < s
  ·have bA : decide ((a : Int) < (s : Int)) = true := decide_eq_true (by omega)
   by_cases hB : s < mid
   ·have bB : decide ((s : Int) < (mid : Int)) = true := decide_eq_true (by omega)
    have cr := hc1 hA hB
    refine goA ?_
    refine evM (Zbs [(0, 0)] cr rfl rfl rfl rfl rfl rfl ⟨rfl, trivial⟩ ⟨.inl rfl, trivial⟩ ?_)
    refine goA ?_
    exact Zag (s' := mkP [(0, .own 0 n), (3, .v (iV b)), (4, oF), (18, .v (iV mid)), (24, .v (iV e))] (QL (pre ++ (W1 ++ (U2 ++ (V2 ++ post))))) 220 true [0]) (by exact Za5) rfl
   ·have bB : decide ((s : Int) < (mid : Int)) = false := decide_eq_false (by omega)
    rw [asc U1 V1, ← hn1 (fun h => hB h.2)]
    refine goA ?_
    exact Zag (s' := mkP [(0, .own 0 n), (3, .v (iV b)), (4, oF), (18, .v (iV mid)), (24, .v (iV e))] (QL (pre ++ (W1 ++ (U2 ++ (V2 ++ post))))) 220 true [0]) (by exact Za5) rfl
  ·have bA : decide ((a : Int) < (s : Int)) = false := decide_eq_false (by omega)
   rw [asc U1 V1, ← hn1 (fun h => hA h.1)]
   refine goA ?_
   exact Zag (s' := mkP [(0, .own 0 n), (3, .v (iV b)), (4, oF), (18, .v (iV mid)), (24, .v (iV e))] (QL (pre ++ (W1 ++ (U2 ++ (V2 ++ post))))) 220 true [0]) (by exact Za5) rfl
 rintro _ rfl
 by_cases hA : mid < e
 ·have bA : decide ((mid : Int) < (e : Int)) = true := decide_eq_true (by omega)
  by_cases hB : e < b
  ·have bB : decide ((e : Int) < (b : Int)) = true := decide_eq_true (by omega)
   have cr := hc2 hA hB
   refine goA ?_
   refine evM (Zbs [(0, 0)] cr rfl rfl rfl rfl rfl rfl ⟨rfl, trivial⟩ ⟨.inl rfl, trivial⟩ ?_)
   refine goA ?_
   exact ⟨.inl rfl, by exact Za5⟩
  ·have bB : decide ((e : Int) < (b : Int)) = false := decide_eq_false (by omega)
   rw [asc U2 V2, ← hn22 (fun h => hB h.2)]
   refine goA ?_
   exact ⟨.inl rfl, by exact Za5⟩
 ·have bA : decide ((mid : Int) < (e : Int)) = false := decide_eq_false (by omega)
  rw [asc U2 V2, ← hn22 (fun h => hA h.1)]
  refine goA ?_
  exact ⟨.inl rfl, by exact Za5⟩
theorem symM_p {n : Nat} (hn2 : n ≤ 1000000) : ∀ F, SymOK n F
  | 0 => fun a m b pre U V post hF hn ha hm hb h1 h2 _ _ _ _ => by omega
  | F + 1 => fun a m b pre U V post hF hn ha hm hb h1 h2 hU hV s1 s2 => by
    by_cases c1 : U.length = 1
    · obtain ⟨x, rfl⟩ := List.length_eq_one_iff.1 c1
      exact symA_p hn hn2 ha hm hb hV (s1 x (by simp)) s2
    by_cases c2 : V.length = 1
    · obtain ⟨y, rfl⟩ := List.length_eq_one_iff.1 c2
      exact symB_p hn hn2 ha hm hb (by omega) hU (s2 y (by simp)) s1
    exact symC_p (symM_p hn2 F) hn2 hF hn ha hm hb (by omega) (by omega) hU hV s1 s2
end Ab
namespace Ab
open Go Go.RowKit Go.Proofs Hp
set_option maxRecDepth 100000
abbrev Cm (n : Nat) (pre U V post W : List QE) : Prop := PCM true Tryz.prog 124 [.own 0 n, .v (iV (pre.length : Nat)), .v (iV ((pre.length + U.length : Nat) : Int)), .v (iV ((pre.length + U.length + V.length : Nat) : Int)), oF] (QL (pre ++ (U ++ (V ++ post)))) true (.v (.tup [])) (QL (pre ++ (W ++ post)))
def MgOK (n : Nat) (pre U V post W : List QE) : Prop := ES W ∧ W.Perm (U ++ V) ∧ Cm n pre U V post W
open Classical in
noncomputable def mgW (n : Nat) (pre U V post : List QE) : List QE := if h : ∃ W, MgOK n pre U V post W then choose h else U ++ V
theorem mgW_ok {n : Nat} (hn2 : n ≤ 1000000) {pre U V post : List QE} (hn : (pre ++ (U ++ (V ++ post))).length = n) (h1 : 1 ≤ U.length) (h2 : 1 ≤ V.length) (hU : ES U) (hV : ES V) (s1 : ∀ e, e ∈ U → e.sm) (s2 : ∀ e, e ∈ V → e.sm) : MgOK n pre U V post (mgW n pre U V post) := by
 have h : ∃ W, MgOK n pre U V post W := symM_p hn2 _ _ _ _ pre U V post (Nat.le_refl _) hn rfl rfl rfl h1 h2 hU hV s1 s2
 unfold mgW
 rw [dif_pos h]
 exact Classical.choose_spec h
def OkB (k : Nat) : List (List QE) → Prop
 | [] => True
 | [U] => 1 ≤ U.length ∧ U.length ≤ k ∧ ES U
 | U :: V :: Bs => U.length = k ∧ ES U ∧ OkB k (V :: Bs)
theorem okB_cons {k : Nat} (hk : 1 ≤ k) {U : List QE} (h1 : U.length = k) (h2 : ES U) : ∀ {Bs : List (List QE)}, OkB k Bs → OkB k (U :: Bs)
 | [], _ => ⟨by omega, by omega, h2⟩
 | _ :: _, h => ⟨h1, h2, h⟩
noncomputable def pasB (n : Nat) : List QE → List (List QE) → List (List QE)
 | pre, U :: V :: Bs => mgW n pre U V Bs.flatten :: pasB n (pre ++ mgW n pre U V Bs.flatten) Bs
 | _, [U] => [U]
 | _, [] => []
theorem okB_hd {k : Nat} {U : List QE} : ∀ {Bs : List (List QE)}, OkB k (U :: Bs) → 1 ≤ k → 1 ≤ U.length ∧ U.length ≤ k ∧ ES U ∧ OkB k Bs
 | [], h, _ => ⟨h.1, h.2.1, h.2.2, trivial⟩
 | _ :: _, h, hk => ⟨by have := h.1; omega, by have := h.1; omega, h.2.1, h.2.2⟩
theorem pas_ok {n k : Nat} (hn2 : n ≤ 1000000) (hk : 1 ≤ k) : ∀ (N : Nat) (pre : List QE) (Bs : List (List QE)), Bs.length ≤ N → OkB k Bs → (∀ e, e ∈ Bs.flatten → e.sm) → (pre ++ Bs.flatten).length = n → OkB (2 * k) (pasB n pre Bs) ∧ (pasB n pre Bs).flatten.Perm Bs.flatten
  | _, _, [], _, _, _, _ => ⟨trivial, List.Perm.refl _⟩
  | _, _, [U], _, h, _, _ => ⟨⟨h.1, by have := h.2.1; omega, h.2.2⟩, List.Perm.refl _⟩
  | 0, _, _ :: _ :: _, h, _, _, _ => by simp at h
  | N + 1, pre, U :: V :: Bs, hN, h, hs, hn => by
    obtain ⟨u1, u2, h⟩ := h
    have hVk : Bs ≠ [] → V.length = k := fun hne => by
      cases Bs with
      | nil => exact absurd rfl hne
      | cons X Bs => exact h.1
    obtain ⟨v1, v2, v3, h⟩ := okB_hd h hk
    have hn' : (pre ++ (U ++ (V ++ Bs.flatten))).length = n := by simpa using hn
    obtain ⟨w1, w2, -⟩ := mgW_ok (n := n) hn2 (pre := pre) (U := U) (V := V) (post := Bs.flatten) hn' (by omega) v1 u2 v3 (fun e he => hs e (by simp [he])) (fun e he => hs e (by simp [he]))
    have hwl := w2.length_eq
    rw [pasB]
    obtain ⟨i1, i2⟩ := pas_ok hn2 hk N (pre ++ mgW n pre U V Bs.flatten) Bs (by simp at hN; omega) h (fun e he => hs e (by simp only [List.flatten_cons, List.mem_append]; exact .inr (.inr he))) (by simp at hn' hwl ⊢; omega)
    refine ⟨?_, ?_⟩
    · cases Bs with
      | nil => exact ⟨by rw [hwl]; simp; omega, by rw [hwl]; simp; omega, w1⟩
      | cons X Bs =>
        have := hVk (by simp)
        exact okB_cons (by omega) (by rw [hwl, List.length_append]; omega) w1 i1
    · rw [List.flatten_cons, List.flatten_cons, List.flatten_cons, ← List.append_assoc]
      exact w2.append i2
end Ab
namespace Ab
open Go Go.RowKit Go.Proofs Hp
set_option maxRecDepth 100000
noncomputable def itr (n : Nat) : Nat → Nat → List (List QE) → List (List QE)
 | 0, _, Bs => Bs
 | F + 1, k, Bs => if k < n then itr n F (2 * k) (pasB n [] Bs) else Bs
theorem one_blk {k : Nat} (hk : 1 ≤ k) : ∀ {Bs : List (List QE)}, OkB k Bs → Bs.flatten.length ≤ k → ES Bs.flatten
  | [], _, _ => List.Pairwise.nil
  | [U], h, _ => by simpa using h.2.2
  | U :: V :: Bs, h, hl => by
    obtain ⟨v1, -, -, -⟩ := okB_hd h.2.2 hk
    have := h.1
    simp at hl
    omega
theorem itr_ok {n : Nat} (hn2 : n ≤ 1000000) : ∀ (F k : Nat) (Bs : List (List QE)), 1 ≤ k → n ≤ k * 2 ^ F → OkB k Bs → (∀ e, e ∈ Bs.flatten → e.sm) → Bs.flatten.length = n → ES (itr n F k Bs).flatten ∧ (itr n F k Bs).flatten.Perm Bs.flatten
  | 0, k, Bs, hk, hF, h, _, hl => ⟨show ES Bs.flatten from one_blk hk h (by simp at hF; omega), List.Perm.refl _⟩
  | F + 1, k, Bs, hk, hF, h, hs, hl => by
    rw [itr]
    split
    · obtain ⟨i1, i2⟩ := pas_ok (n := n) hn2 hk Bs.length [] Bs (Nat.le_refl _) h hs (by simpa using hl)
      obtain ⟨j1, j2⟩ := itr_ok hn2 F (2 * k) (pasB n [] Bs) (by omega) (by rw [Nat.pow_succ] at hF; rw [Nat.mul_comm 2 k, Nat.mul_assoc, Nat.mul_comm 2]; exact hF) i1 (fun e he => hs e (i2.mem_iff.1 he)) (by rw [i2.length_eq]; exact hl)
      exact ⟨j1, j2.trans i2⟩
    · exact ⟨one_blk hk h (by omega), List.Perm.refl _⟩
def chk : Nat → List QE → List (List QE)
 | 0, _ => []
 | F + 1, L => if 20 ≤ L.length then qis (L.take 20) :: chk F (L.drop 20) else if L.length = 0 then [] else [qis L]
theorem chk_ok : ∀ (F : Nat) (L : List QE), L.length < F → OkB 20 (chk F L) ∧ (chk F L).flatten.Perm L
  | 0, _, h => by omega
  | F + 1, L, h => by
    rw [chk]
    split
    · obtain ⟨i1, i2⟩ := chk_ok F (L.drop 20) (by rw [List.length_drop]; omega)
      refine ⟨okB_cons (by decide) (by rw [qis_len, List.length_take]; omega) (Zej _) i1, ?_⟩
      rw [List.flatten_cons]
      exact ((Zf3 _).append i2).trans (by rw [List.take_append_drop])
    · split
      · rename_i h0
        rw [List.eq_nil_of_length_eq_zero h0]
        exact ⟨trivial, List.Perm.refl _⟩
      · refine ⟨⟨by rw [qis_len]; omega, by rw [qis_len]; omega, Zej _⟩, ?_⟩
        simpa using Zf3 L
set_option maxHeartbeats 16000000 in
theorem stable_p {U : List QE} (hU : U.length ≤ 1000000) (hs : ∀ e, e ∈ U → e.sm) : ∃ W, ES W ∧ W.Perm U ∧ PCM true Tryz.prog 98 [.own 0 U.length, .v (iV U.length), oF] (QL U) true (.v (.tup [])) (QL W) := by
  obtain ⟨n, hn⟩ : ∃ n, n = U.length := ⟨_, rfl⟩
  obtain ⟨o1, o2⟩ := chk_ok (n + 1) U (by omega)
  obtain ⟨B0, hB0⟩ : ∃ B0, B0 = chk (n + 1) U := ⟨_, rfl⟩
  rw [← hB0] at o1 o2
  have hsB : ∀ e, e ∈ B0.flatten → e.sm := fun e he => hs e (o2.mem_iff.1 he)
  have hlB : B0.flatten.length = n := by rw [o2.length_eq, hn]
  rw [← hn] at hU ⊢
  obtain ⟨r1, r2⟩ := itr_ok hU 20 20 B0 (by decide) (by omega) o1 hsB hlB
  refine ⟨(itr n 20 20 B0).flatten, r1, r2.trans o2, ?_⟩
  obtain ⟨T1, hT1⟩ : ∃ T1, T1 = (itr n 20 20 B0).flatten := ⟨_, rfl⟩
  rw [← hT1]
  refine Zbp Tryz.func98 rfl rfl rfl (Nat.le_of_ble_eq_true rfl) ?_
  refine r1A ?_
  refine r1A ?_
  refine T.seqI (fun s1 => ∃ (F : Nat) (D R : List QE), R.length < F ∧ R.length < 20 ∧ D.length + R.length = n ∧ D ++ (chk F R).flatten = B0.flatten ∧ (∀ e, e ∈ R → e.sm) ∧ s1 = mkP [(0, .own 0 n), (1, .v (iV n)), (2, oF), (6, .v (iV 20)), (7, .v (iV D.length))] (QL (D ++ R)) 63 true [0]) ?_ ?_
  · refine T.block ?_
    refine T.loop (fun N s1 => ∃ (F : Nat) (D R : List QE), R.length < F ∧ N = R.length ∧ D.length + R.length = n ∧ D ++ (chk F R).flatten = B0.flatten ∧ (∀ e, e ∈ R → e.sm) ∧ s1 = mkP [(0, .own 0 n), (1, .v (iV n)), (2, oF), (6, .v (iV 20)), (7, .v (iV D.length)), (8, .v (iV ((D.length + 20 : Nat) : Int)))] (QL (D ++ R)) 63 true [0]) U.length
      (s' := mkP [(0, .own 0 n), (1, .v (iV n)), (2, oF), (6, .v (iV 20)), (7, .v (iV ((0 : Nat) : Int))), (8, .v (iV ((0 + 20 : Nat) : Int)))] (QL ([] ++ U)) 63 true [0]) (by exact Za5) ⟨n + 1, [], U, by omega, rfl, by simp [hn], by rw [hB0]; rfl, hs, rfl⟩ ?_
    clear r1 r2 o1 o2 hs hsB hlB hB0 hn
    rintro _ _ ⟨F, D, R, hF, rfl, hl, hD, hR, rfl⟩
    by_cases c : 20 ≤ R.length
    · have b1 : decide (((D.length + 20 : Nat) : Int) ≤ (n : Int)) = true := decide_eq_true (by omega)
      obtain ⟨F, rfl⟩ : ∃ k, F = k + 1 := ⟨F - 1, by omega⟩
      rw [chk, if_pos c] at hD
      have ht : (R.take 20).length = 20 := by rw [List.length_take]; omega
      have hd : (R.drop 20).length = R.length - 20 := List.length_drop ..
      have ci := isort_p (n := n) (a := D.length) (b := D.length + 20) (pre := D) (U := R.take 20) (post := R.drop 20) (by rw [List.take_append_drop]; simp; omega) hU rfl (by omega) (fun e he => hR e (List.mem_of_mem_take he))
      rw [List.take_append_drop] at ci
      have hql : (D ++ qis (R.take 20)).length = D.length + 20 := by rw [List.length_append, qis_len, ht]
      have e1 : ((D.length + 20 : Nat) : Int) + 20 = (((D ++ qis (R.take 20)).length + 20 : Nat) : Int) := by omega
      have e2 : ((D.length + 20 : Nat) : Int) = ((D ++ qis (R.take 20)).length : Nat) := by omega
      refine goA ?_
      refine evM (Zbs [(0, 0)] ci rfl rfl rfl rfl rfl rfl ⟨rfl, trivial⟩ ⟨.inl rfl, trivial⟩ ?_)
      refine goA ?_
      rw [e1, e2, ← List.append_assoc]
      exact Zae (k := (R.drop 20).length) (s' := mkP [(0, .own 0 n), (1, .v (iV n)), (2, oF), (6, .v (iV 20)), (7, .v (iV (D ++ qis (R.take 20)).length)), (8, .v (iV (((D ++ qis (R.take 20)).length + 20 : Nat) : Int)))] (QL ((D ++ qis (R.take 20)) ++ R.drop 20)) 63 true [0]) (by omega) (by exact Za5) ⟨F, D ++ qis (R.take 20), R.drop 20, by omega, rfl, by omega, by rw [← hD]; simp, fun e he => hR e (List.mem_of_mem_drop he), rfl⟩
    · have b1 : decide (((D.length + 20 : Nat) : Int) ≤ (n : Int)) = false := decide_eq_false (by omega)
      refine goA ?_
      exact Zag (s' := mkP [(0, .own 0 n), (1, .v (iV n)), (2, oF), (6, .v (iV 20)), (7, .v (iV D.length))] (QL (D ++ R)) 63 true [0]) (by exact Za5) ⟨F, D, R, hF, by omega, hl, hD, hR, rfl⟩
  rintro _ ⟨F, D, R, hF, h20, hl, hD, hR, rfl⟩
  have ci := isort_p (n := n) (a := D.length) (b := n) (pre := D) (U := R) (post := []) (by simp; omega) hU rfl (by omega) hR
  rw [List.append_nil, List.append_nil] at ci
  have hDB : D ++ qis R = B0.flatten := by
    rw [← hD]
    obtain ⟨F, rfl⟩ : ∃ k, F = k + 1 := ⟨F - 1, by omega⟩
    rw [chk, if_neg (by omega)]
    split
    · rename_i h0
      rw [List.eq_nil_of_length_eq_zero h0]; rfl
    · simp
  rw [hDB] at ci
  refine goA ?_
  refine evM (Zbs [(0, 0)] ci rfl rfl rfl rfl rfl rfl ⟨rfl, trivial⟩ ⟨.inl rfl, trivial⟩ ?_)
  refine goA ?_
  clear ci hD hDB hR hF h20 hl
  refine T.loop (fun N s1 => ∃ (k : Nat) (Bs : List (List QE)), 1 ≤ k ∧ k ≤ 2000000 ∧ n ≤ k * 2 ^ N ∧ OkB k Bs ∧ (∀ e, e ∈ Bs.flatten → e.sm) ∧ Bs.flatten.length = n ∧ T1 = (itr n N k Bs).flatten ∧ s1 = mkP [(0, .own 0 n), (1, .v (iV n)), (2, oF), (6, .v (iV k))] (QL Bs.flatten) 63 true [0]) 20
    (s' := mkP [(0, .own 0 n), (1, .v (iV n)), (2, oF), (6, .v (iV (20 : Nat)))] (QL B0.flatten) 63 true [0]) (by exact Za5) ⟨20, B0, by decide, by decide, by omega, o1, hsB, hlB, hT1, rfl⟩ ?_
  clear hT1 o1 o2 hsB hlB r1 r2 hB0 hs
  rintro N _ ⟨k, Bs, hk, hk2, hN, hB, hsB, hlB, hT, rfl⟩
  by_cases c : k < n
  · have b1 : decide ((k : Int) < (n : Int)) = true := decide_eq_true (by omega)
    obtain ⟨N, rfl⟩ : ∃ j, N = j + 1 := by
      cases N with
      | zero => simp at hN; omega
      | succ j => exact ⟨j, rfl⟩
    rw [itr, if_pos c] at hT
    obtain ⟨i1, i2⟩ := pas_ok (n := n) hU hk Bs.length [] Bs (Nat.le_refl _) hB hsB (by simpa using hlB)
    have hN2 : n ≤ 2 * k * 2 ^ N := by rw [Nat.pow_succ] at hN; rw [Nat.mul_comm 2 k, Nat.mul_assoc, Nat.mul_comm 2]; exact hN
    have hs2 : ∀ e, e ∈ (pasB n [] Bs).flatten → e.sm := fun e he => hsB e (i2.mem_iff.1 he)
    have hl2 : (pasB n [] Bs).flatten.length = n := by rw [i2.length_eq]; exact hlB
    obtain ⟨T2, hT2⟩ : ∃ T2, T2 = pasB n [] Bs := ⟨_, rfl⟩
    rw [← hT2] at i1 hs2 hl2 hT
    have ek : (k : Int) * 2 = ((2 * k : Nat) : Int) := by omega
    refine goA ?_
    rw [show (2 : Int) * (k : Int) = ((([] : List QE).length + 2 * k : Nat) : Int) by simp]
    refine T.loop (fun M s1 => ∃ (pre : List QE) (Rs : List (List QE)), M = Rs.length ∧ OkB k Rs ∧ (pre ++ Rs.flatten).length = n ∧ (∀ e, e ∈ Rs.flatten → e.sm) ∧ pre ++ (pasB n pre Rs).flatten = T2.flatten ∧ s1 = mkP [(0, .own 0 n), (1, .v (iV n)), (2, oF), (6, .v (iV k)), (7, .v (iV pre.length)), (8, .v (iV ((pre.length + 2 * k : Nat) : Int)))] (QL (pre ++ Rs.flatten)) 63 true [0]) Bs.length
      (s' := mkP [(0, .own 0 n), (1, .v (iV n)), (2, oF), (6, .v (iV k)), (7, .v (iV ((0 : Nat) : Int))), (8, .v (iV ((([] : List QE).length + 2 * k : Nat) : Int)))] (QL ([] ++ Bs.flatten)) 63 true [0]) (by exact Za5) ⟨[], Bs, rfl, hB, by simpa using hlB, hsB, by rw [hT2]; rfl, rfl⟩ ?_
    clear hB hsB hlB hT2 i2
    rintro _ _ ⟨pre, Rs, rfl, hB, hl, hs, hT2, rfl⟩
    have hpl0 : pre.length ≤ n := by rw [← hl, List.length_append]; omega
    have last : ∀ (C : List QE), C = T2.flatten → ∃ (k' : Nat) (Bs' : List (List QE)), 1 ≤ k' ∧ k' ≤ 2000000 ∧ n ≤ k' * 2 ^ N ∧ OkB k' Bs' ∧ (∀ e, e ∈ Bs'.flatten → e.sm) ∧ Bs'.flatten.length = n ∧ T1 = (itr n N k' Bs').flatten ∧ mkP [(0, .own 0 n), (1, .v (iV n)), (2, oF), (6, .v (iV ((2 * k : Nat) : Int)))] (QL C) 63 true [0] = mkP [(0, .own 0 n), (1, .v (iV n)), (2, oF), (6, .v (iV k'))] (QL Bs'.flatten) 63 true [0] := fun C hC => ⟨2 * k, T2, by omega, by omega, hN2, i1, hs2, hl2, hT, by rw [hC]⟩
    match Rs, hB, hl, hs, hT2 with
    | [], hB, hl, hs, hT2 =>
      have b2 : decide (((pre.length + 2 * k : Nat) : Int) ≤ (n : Int)) = false := decide_eq_false (by simp at hl; omega)
      have b3 : decide ((pre.length : Int) + (k : Int) < (n : Int)) = false := decide_eq_false (by simp at hl; omega)
      refine goA ?_
      rw [ek]
      exact Zae (k := N) (s' := mkP [(0, .own 0 n), (1, .v (iV n)), (2, oF), (6, .v (iV ((2 * k : Nat) : Int)))] (QL (pre ++ ([] : List (List QE)).flatten)) 63 true [0]) (by omega) (by exact Za5) (last _ hT2)
    | [X], hB, hl, hs, hT2 =>
      have hX := hB.2.1
      have b2 : decide (((pre.length + 2 * k : Nat) : Int) ≤ (n : Int)) = false := decide_eq_false (by simp at hl; omega)
      have b3 : decide ((pre.length : Int) + (k : Int) < (n : Int)) = false := decide_eq_false (by simp at hl; omega)
      refine goA ?_
      rw [ek]
      exact Zae (k := N) (s' := mkP [(0, .own 0 n), (1, .v (iV n)), (2, oF), (6, .v (iV ((2 * k : Nat) : Int)))] (QL (pre ++ [X].flatten)) 63 true [0]) (by omega) (by exact Za5) (last _ hT2)
    | X :: Y :: Rs, hB, hl, hs, hT2 =>
      obtain ⟨u1, u2, hB⟩ := hB
      have hYk : Rs ≠ [] → Y.length = k := fun hne => by
        cases Rs with
        | nil => exact absurd rfl hne
        | cons Z Rs => exact hB.1
      obtain ⟨v1, v2, v3, hB⟩ := okB_hd hB hk
      have hl' : (pre ++ (X ++ (Y ++ Rs.flatten))).length = n := by simpa using hl
      have hfl : pre ++ (X :: Y :: Rs).flatten = pre ++ (X ++ (Y ++ Rs.flatten)) := by simp
      obtain ⟨w1, w2, w3⟩ := mgW_ok (n := n) hU (pre := pre) (U := X) (V := Y) (post := Rs.flatten) hl' (by omega) v1 u2 v3 (fun e he => hs e (by simp [he])) (fun e he => hs e (by simp [he]))
      have hwl := w2.length_eq
      rw [List.length_append] at hwl
      rw [pasB, List.flatten_cons] at hT2
      unfold Cm at w3
      rw [hfl]
      have hsr : ∀ e, e ∈ Rs.flatten → e.sm := fun e he => hs e (by simp only [List.flatten_cons, List.mem_append]; exact .inr (.inr he))
      generalize mgW n pre X Y Rs.flatten = W at *
      have hlen : pre.length + X.length + Y.length + Rs.flatten.length = n := by simp only [List.length_append] at hl'; omega
      by_cases d : Y.length = k
      · have b2 : decide (((pre.length + 2 * k : Nat) : Int) ≤ (n : Int)) = true := decide_eq_true (by omega)
        rw [u1, d, show pre.length + k + k = pre.length + 2 * k by omega] at w3
        have hpl : (pre ++ W).length = pre.length + 2 * k := by rw [List.length_append]; omega
        have e1 : ((pre.length + 2 * k : Nat) : Int) + 2 * (k : Int) = (((pre ++ W).length + 2 * k : Nat) : Int) := by omega
        have e2 : ((pre.length + 2 * k : Nat) : Int) = ((pre ++ W).length : Nat) := by omega
        refine goA ?_
        refine evM (Zbs [(0, 0)] w3 rfl rfl rfl rfl rfl rfl ⟨rfl, trivial⟩ ⟨.inl rfl, trivial⟩ ?_)
        refine goA ?_
        rw [e1, e2, (List.append_assoc pre W Rs.flatten).symm]
        exact Zae (k := Rs.length) (s' := mkP [(0, .own 0 n), (1, .v (iV n)), (2, oF), (6, .v (iV k)), (7, .v (iV (pre ++ W).length)), (8, .v (iV (((pre ++ W).length + 2 * k : Nat) : Int)))] (QL ((pre ++ W) ++ Rs.flatten)) 63 true [0]) (by simp only [List.length_cons]; omega) (by exact Za5) ⟨pre ++ W, Rs, rfl, hB, by rw [List.length_append]; omega, hsr, by rw [← hT2]; simp, rfl⟩
      · have hR0 : Rs = [] := by
          cases Rs with
          | nil => rfl
          | cons Z Rs => exact absurd (hYk (by simp)) d
        subst hR0
        have b2 : decide (((pre.length + 2 * k : Nat) : Int) ≤ (n : Int)) = false := decide_eq_false (by simp at hlen; omega)
        have b3 : decide ((pre.length : Int) + (k : Int) < (n : Int)) = true := decide_eq_true (by simp at hlen; omega)
        rw [u1, show pre.length + k + Y.length = n by simp at hlen; omega] at w3
        have hT3 : pre ++ (W ++ ([] : List (List QE)).flatten) = T2.flatten := by rw [← hT2]; rfl
        refine goA ?_
        refine evM (Zbs [(0, 0)] w3 rfl rfl rfl rfl rfl rfl ⟨rfl, trivial⟩ ⟨.inl rfl, trivial⟩ ?_)
        refine goA ?_
        rw [ek]
        exact Zae (k := N) (s' := mkP [(0, .own 0 n), (1, .v (iV n)), (2, oF), (6, .v (iV ((2 * k : Nat) : Int)))] (QL (pre ++ (W ++ ([] : List (List QE)).flatten))) 63 true [0]) (by omega) (by exact Za5) (last _ hT3)
  · have b1 : decide ((k : Int) < (n : Int)) = false := decide_eq_false (by omega)
    have hT' : T1 = Bs.flatten := by
      rw [hT]
      cases N with
      | zero => rfl
      | succ N => rw [itr, if_neg c]
    rw [hT']
    refine goA ?_
    exact ⟨.inl rfl, by exact Za5⟩
theorem sort_p (N : Nat) (hN : N ≤ 1000000) : SortOK N := fun U hU hs => by
 obtain ⟨W, h1, h2, c1⟩ := stable_p (by omega) hs
 refine ⟨W, h1, h2, ?_⟩
 have hl : (U.map QE.av).length = U.length := by rw [List.length_map]
 refine Zbp Tryz.func63 rfl rfl rfl (Nat.le_of_ble_eq_true rfl) ?_
 refine goA ?_
 refine evM (Zbs [(0, 0)] c1 rfl rfl rfl rfl rfl rfl ⟨rfl, trivial⟩ ⟨.inl rfl, trivial⟩ ?_)
 refine goA ?_
 exact ⟨.inl rfl, by exact Za5⟩
end Ab
