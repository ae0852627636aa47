/- Lists read (printed by tools/gen_rd.py). -/
import Derived.Test.YtbpdgaolmikjbaaGreatRdJ
set_option linter.all false
namespace Ab
open Go Go.RowKit Go.Proofs Hp
set_option maxRecDepth 100000
set_option maxHeartbeats 4000000
theorem l_Rat {lv : Int} {g : List Nat → BR × List Nat × Bool} (hg : ∀ l, By l → l.length ≤ 1000000000 → RC 109 [] BR.av lv l false (g l).1 (g l).2.1 (g l).2.2 ∧ BR.ok (g l).1 ∧ ∃ j, (g l).2.1 = l.drop j) (l : List Nat) (b : Bool) (n : Nat) (l1 : List Nat) (b1 : Bool)
    (hN : RC 106 [] (fun n : Nat => iV n) lv l b n l1 b1) (hn : n ≤ l1.length) (hb : By l1) (hl : l1.length ≤ 1000000000) : RC 108 [.bm 109 100 0] (fun vs : List BR => .sl (vs.map BR.av)) lv l b (runL g n l1 b1).1 (runL g n l1 b1).2.1 (runL g n l1 b1).2.2 := by
  have hN : PCM false Tryz.prog 106 [.ptr 100 0] (RR l b lv) true (.v (iV n)) (RR l1 b1 lv) := hN
  refine Zay Tryz.func108 rfl rfl rfl (Nat.le_of_ble_eq_true rfl) ?_
  refine goI ?_
  refine mcA hN ?_
  refine goI ?_
  refine T.loop (fun N s1 => ∃ (m : Nat) (vs : List BR) (q : List Nat) (c : Bool) (K : Nat) (Q : List AV) (z : Int), m = N ∧ z = (m : Int) ∧ K = vs.length ∧ Q = vs.map BR.av ∧ vs.length + m ≤ n ∧ By q ∧ q.length ≤ 1000000000 ∧ runL g n l1 b1 = (vs ++ (runL g m q c).1, (runL g m q c).2) ∧ s1 = mkP [(0, .ptr 100 0), (1, .bm 109 100 0), (5, .own 102 K), (6, .v (iV z))] (RR q c lv ++ [(102, .lst 4 54 Q)]) 26 true [100]) n
    (s' := mkP [(0, .ptr 100 0), (1, .bm 109 100 0), (5, .own 102 0), (6, .v (iV n))] (RR l1 b1 lv ++ [(102, .lst 4 54 [])]) 26 true [100]) (by exact Zak) ⟨n, [], l1, b1, 0, [], (n : Int), rfl, rfl, rfl, rfl, by simp, hb, hl, rfl, rfl⟩ ?_
  rintro _ _ ⟨m, vs, q, c, K, Q, z, rfl, hz, hK, hQ, hle, hbq, hq, hr, rfl⟩
  by_cases hgo : 0 < m ∧ c = false
  · obtain ⟨hm, rfl⟩ := hgo
    obtain ⟨k, rfl⟩ : ∃ k, m = k + 1 := ⟨m - 1, by omega⟩
    have t1 : decide (z > 0) = true := decide_eq_true (by omega)
    obtain ⟨hc, ho, hd⟩ := hg q hbq hq
    have e1 : runL g (k + 1) q false = ((g q).1 :: (runL g k (g q).2.1 (g q).2.2).1, (runL g k (g q).2.1 (g q).2.2).2) := rfl
    rw [e1] at hr
    have hlen := Zaw hd
    have hby := hbq.of_drop hd
    clear e1 hd hg
    generalize (g q).1 = x at *
    generalize (g q).2.1 = q2 at *
    generalize (g q).2.2 = c2 at *
    have hli : Q.length = K := by rw [hQ, hK, List.length_map]
    have fin : runL g n l1 b1 = ((vs ++ [x]) ++ (runL g k q2 c2).1, (runL g k q2 c2).2) := by rw [hr, List.append_assoc]; rfl
    have hQ2 : Q ++ [BR.av x] = (vs ++ [x]).map BR.av := by rw [hQ, List.map_append]; rfl
    clear hr
    have fin2 : ∀ N s1, N = k → s1 = mkP [(0, .ptr 100 0), (1, .bm 109 100 0), (5, .own 102 (K + 1)), (6, .v (iV (z - 1)))] (RR q2 c2 lv ++ [(102, .lst 4 54 (Q ++ [BR.av x]))]) 26 true [100] → ∃ (m : Nat) (vs : List BR) (q : List Nat) (c : Bool) (K : Nat) (Q : List AV) (z : Int), m = N ∧ z = (m : Int) ∧ K = vs.length ∧ Q = vs.map BR.av ∧ vs.length + m ≤ n ∧ By q ∧ q.length ≤ 1000000000 ∧ runL g n l1 b1 = (vs ++ (runL g m q c).1, (runL g m q c).2) ∧ s1 = mkP [(0, .ptr 100 0), (1, .bm 109 100 0), (5, .own 102 K), (6, .v (iV z))] (RR q c lv ++ [(102, .lst 4 54 Q)]) 26 true [100] := fun N s1 hN hs => ⟨k, vs ++ [x], q2, c2, K + 1, Q ++ [BR.av x], z - 1, hN.symm, by omega, by simp [hK], hQ2, by simp; omega, hby, by omega, fin, hs⟩
    have hc : PCM false Tryz.prog 109 [.ptr 100 0] (RR q false lv) true (.v (BR.av x)) (RR q2 c2 lv) := hc
    have hK9 : K + 1 ≤ 1000000000 := by omega
    clear fin hQ2 ho hQ hK
    obtain ⟨⟨ga, da⟩, ⟨gb, db⟩⟩ := x
    refine goI ?_
    refine evM (Zcd [(100, 100)] hc rfl rfl rfl rfl rfl rfl rfl ⟨rfl, trivial⟩ ⟨.inl rfl, trivial⟩ ?_)
    refine goI ?_
    refine evG ggA (Zar (Zaa rfl) (Zaf rfl) rfl rfl rfl rfl (Zbo rfl rfl) (Nat.le_of_ble_eq_true rfl)) ?_
    refine evG ggA (Zbe (Zaa rfl) (Zaf rfl) rfl rfl hli rfl rfl (by decide) rfl (by omega) (Nat.le_of_ble_eq_true rfl) rfl) ?_
    refine goI ?_
    exact Zad (k := k) (s' := mkP [(0, .ptr 100 0), (1, .bm 109 100 0), (5, .own 102 (K + 1)), (6, .v (iV (z - 1)))] (RR q2 c2 lv ++ [(102, .lst 4 54 (Q ++ [_]))]) 26 true [100]) (by omega) (by exact Zak) (fin2 _ _ rfl rfl)
  · have hend : runL g m q c = ([], q, c) := by
      cases c with
      | true => exact Zch g m q
      | false =>
        have : m = 0 := by
          rcases Nat.eq_zero_or_pos m with h | h
          · exact h
          · exact absurd ⟨h, rfl⟩ hgo
        subst this; rfl
    rw [hend, List.append_nil] at hr
    rw [hr]
    subst hQ hK
    have hli : (vs.map BR.av).length = vs.length := List.length_map ..
    clear hg hend hr
    by_cases hm : 0 < m
    · have hc : c = true := by
        cases c with
        | true => rfl
        | false => exact absurd ⟨hm, rfl⟩ hgo
      subst hc
      have t1 : decide (z > 0) = true := decide_eq_true (by omega)
      refine goI ?_
      exact ⟨.inr rfl, by exact Zak⟩
    · have t1 : decide (z > 0) = false := decide_eq_false (by omega)
      refine goI ?_
      exact ⟨.inr rfl, by exact Zak⟩
theorem l_Int {lv : Int} {g : List Nat → Int × List Nat × Bool} (hg : ∀ l, By l → l.length ≤ 1000000000 → RC 107 [] iV lv l false (g l).1 (g l).2.1 (g l).2.2 ∧ I64 (g l).1 ∧ ∃ j, (g l).2.1 = l.drop j) (l : List Nat) (b : Bool) (n : Nat) (l1 : List Nat) (b1 : Bool)
    (hN : RC 106 [] (fun n : Nat => iV n) lv l b n l1 b1) (hn : n ≤ l1.length) (hb : By l1) (hl : l1.length ≤ 1000000000) : RC 110 [.bm 107 100 0] (fun vs : List Int => .sl (vs.map iV)) lv l b (runL g n l1 b1).1 (runL g n l1 b1).2.1 (runL g n l1 b1).2.2 := by
  have hN : PCM false Tryz.prog 106 [.ptr 100 0] (RR l b lv) true (.v (iV n)) (RR l1 b1 lv) := hN
  refine Zay Tryz.func110 rfl rfl rfl (Nat.le_of_ble_eq_true rfl) ?_
  refine goI ?_
  refine mcA hN ?_
  refine goI ?_
  refine T.loop (fun N s1 => ∃ (m : Nat) (vs : List Int) (q : List Nat) (c : Bool) (K : Nat) (Q : List AV) (z : Int), m = N ∧ z = (m : Int) ∧ K = vs.length ∧ Q = vs.map iV ∧ vs.length + m ≤ n ∧ By q ∧ q.length ≤ 1000000000 ∧ runL g n l1 b1 = (vs ++ (runL g m q c).1, (runL g m q c).2) ∧ s1 = mkP [(0, .ptr 100 0), (1, .bm 107 100 0), (5, .own 102 K), (6, .v (iV z))] (RR q c lv ++ [(102, .lst 1 3 Q)]) 26 true [100]) n
    (s' := mkP [(0, .ptr 100 0), (1, .bm 107 100 0), (5, .own 102 0), (6, .v (iV n))] (RR l1 b1 lv ++ [(102, .lst 1 3 [])]) 26 true [100]) (by exact Zak) ⟨n, [], l1, b1, 0, [], (n : Int), rfl, rfl, rfl, rfl, by simp, hb, hl, rfl, rfl⟩ ?_
  rintro _ _ ⟨m, vs, q, c, K, Q, z, rfl, hz, hK, hQ, hle, hbq, hq, hr, rfl⟩
  by_cases hgo : 0 < m ∧ c = false
  · obtain ⟨hm, rfl⟩ := hgo
    obtain ⟨k, rfl⟩ : ∃ k, m = k + 1 := ⟨m - 1, by omega⟩
    have t1 : decide (z > 0) = true := decide_eq_true (by omega)
    obtain ⟨hc, ho, hd⟩ := hg q hbq hq
    have e1 : runL g (k + 1) q false = ((g q).1 :: (runL g k (g q).2.1 (g q).2.2).1, (runL g k (g q).2.1 (g q).2.2).2) := rfl
    rw [e1] at hr
    have hlen := Zaw hd
    have hby := hbq.of_drop hd
    clear e1 hd hg
    generalize (g q).1 = x at *
    generalize (g q).2.1 = q2 at *
    generalize (g q).2.2 = c2 at *
    have hli : Q.length = K := by rw [hQ, hK, List.length_map]
    have fin : runL g n l1 b1 = ((vs ++ [x]) ++ (runL g k q2 c2).1, (runL g k q2 c2).2) := by rw [hr, List.append_assoc]; rfl
    have hQ2 : Q ++ [iV x] = (vs ++ [x]).map iV := by rw [hQ, List.map_append]; rfl
    clear hr
    have fin2 : ∀ N s1, N = k → s1 = mkP [(0, .ptr 100 0), (1, .bm 107 100 0), (5, .own 102 (K + 1)), (6, .v (iV (z - 1)))] (RR q2 c2 lv ++ [(102, .lst 1 3 (Q ++ [iV x]))]) 26 true [100] → ∃ (m : Nat) (vs : List Int) (q : List Nat) (c : Bool) (K : Nat) (Q : List AV) (z : Int), m = N ∧ z = (m : Int) ∧ K = vs.length ∧ Q = vs.map iV ∧ vs.length + m ≤ n ∧ By q ∧ q.length ≤ 1000000000 ∧ runL g n l1 b1 = (vs ++ (runL g m q c).1, (runL g m q c).2) ∧ s1 = mkP [(0, .ptr 100 0), (1, .bm 107 100 0), (5, .own 102 K), (6, .v (iV z))] (RR q c lv ++ [(102, .lst 1 3 Q)]) 26 true [100] := fun N s1 hN hs => ⟨k, vs ++ [x], q2, c2, K + 1, Q ++ [iV x], z - 1, hN.symm, by omega, by simp [hK], hQ2, by simp; omega, hby, by omega, fin, hs⟩
    have hc : PCM false Tryz.prog 107 [.ptr 100 0] (RR q false lv) true (.v (iV x)) (RR q2 c2 lv) := hc
    have hK9 : K + 1 ≤ 1000000000 := by omega
    clear fin hQ2 ho hQ hK
    skip
    refine goI ?_
    refine evM (Zcd [(100, 100)] hc rfl rfl rfl rfl rfl rfl rfl ⟨rfl, trivial⟩ ⟨.inl rfl, trivial⟩ ?_)
    refine goI ?_
    refine evG ggA (Zar (Zaa rfl) (Zaf rfl) rfl rfl rfl rfl (Zbo rfl rfl) (Nat.le_of_ble_eq_true rfl)) ?_
    refine evG ggA (Zbe (Zaa rfl) (Zaf rfl) rfl rfl hli rfl rfl (by decide) rfl (by omega) (Nat.le_of_ble_eq_true rfl) rfl) ?_
    refine goI ?_
    exact Zad (k := k) (s' := mkP [(0, .ptr 100 0), (1, .bm 107 100 0), (5, .own 102 (K + 1)), (6, .v (iV (z - 1)))] (RR q2 c2 lv ++ [(102, .lst 1 3 (Q ++ [_]))]) 26 true [100]) (by omega) (by exact Zak) (fin2 _ _ rfl rfl)
  · have hend : runL g m q c = ([], q, c) := by
      cases c with
      | true => exact Zch g m q
      | false =>
        have : m = 0 := by
          rcases Nat.eq_zero_or_pos m with h | h
          · exact h
          · exact absurd ⟨h, rfl⟩ hgo
        subst this; rfl
    rw [hend, List.append_nil] at hr
    rw [hr]
    subst hQ hK
    have hli : (vs.map iV).length = vs.length := List.length_map ..
    clear hg hend hr
    by_cases hm : 0 < m
    · have hc : c = true := by
        cases c with
        | true => rfl
        | false => exact absurd ⟨hm, rfl⟩ hgo
      subst hc
      have t1 : decide (z > 0) = true := decide_eq_true (by omega)
      refine goI ?_
      exact ⟨.inr rfl, by exact Zak⟩
    · have t1 : decide (z > 0) = false := decide_eq_false (by omega)
      refine goI ?_
      exact ⟨.inr rfl, by exact Zak⟩
theorem l_Series {lv : Int} {g : List Nat → PS × List Nat × Bool} (hg : ∀ l, By l → l.length ≤ 1000000000 → RC 67 [] PS.av lv l false (g l).1 (g l).2.1 (g l).2.2 ∧ PS.ok (g l).1 ∧ ∃ j, (g l).2.1 = l.drop j) (l : List Nat) (b : Bool) (n : Nat) (l1 : List Nat) (b1 : Bool)
    (hN : RC 106 [] (fun n : Nat => iV n) lv l b n l1 b1) (hn : n ≤ l1.length) (hb : By l1) (hl : l1.length ≤ 1000000000) : RC 66 [.bm 67 100 0] (fun vs : List PS => .sl (vs.map PS.av)) lv l b (runL g n l1 b1).1 (runL g n l1 b1).2.1 (runL g n l1 b1).2.2 := by
  have hN : PCM false Tryz.prog 106 [.ptr 100 0] (RR l b lv) true (.v (iV n)) (RR l1 b1 lv) := hN
  refine Zay Tryz.func66 rfl rfl rfl (Nat.le_of_ble_eq_true rfl) ?_
  refine goI ?_
  refine mcA hN ?_
  refine goI ?_
  refine T.loop (fun N s1 => ∃ (m : Nat) (vs : List PS) (q : List Nat) (c : Bool) (K : Nat) (Q : List AV) (z : Int), m = N ∧ z = (m : Int) ∧ K = vs.length ∧ Q = vs.map PS.av ∧ vs.length + m ≤ n ∧ By q ∧ q.length ≤ 1000000000 ∧ runL g n l1 b1 = (vs ++ (runL g m q c).1, (runL g m q c).2) ∧ s1 = mkP [(0, .ptr 100 0), (1, .bm 67 100 0), (5, .own 102 K), (6, .v (iV z))] (RR q c lv ++ [(102, .lst 2 49 Q)]) 26 true [100]) n
    (s' := mkP [(0, .ptr 100 0), (1, .bm 67 100 0), (5, .own 102 0), (6, .v (iV n))] (RR l1 b1 lv ++ [(102, .lst 2 49 [])]) 26 true [100]) (by exact Zak) ⟨n, [], l1, b1, 0, [], (n : Int), rfl, rfl, rfl, rfl, by simp, hb, hl, rfl, rfl⟩ ?_
  rintro _ _ ⟨m, vs, q, c, K, Q, z, rfl, hz, hK, hQ, hle, hbq, hq, hr, rfl⟩
  by_cases hgo : 0 < m ∧ c = false
  · obtain ⟨hm, rfl⟩ := hgo
    obtain ⟨k, rfl⟩ : ∃ k, m = k + 1 := ⟨m - 1, by omega⟩
    have t1 : decide (z > 0) = true := decide_eq_true (by omega)
    obtain ⟨hc, ho, hd⟩ := hg q hbq hq
    have e1 : runL g (k + 1) q false = ((g q).1 :: (runL g k (g q).2.1 (g q).2.2).1, (runL g k (g q).2.1 (g q).2.2).2) := rfl
    rw [e1] at hr
    have hlen := Zaw hd
    have hby := hbq.of_drop hd
    clear e1 hd hg
    generalize (g q).1 = x at *
    generalize (g q).2.1 = q2 at *
    generalize (g q).2.2 = c2 at *
    have hli : Q.length = K := by rw [hQ, hK, List.length_map]
    have fin : runL g n l1 b1 = ((vs ++ [x]) ++ (runL g k q2 c2).1, (runL g k q2 c2).2) := by rw [hr, List.append_assoc]; rfl
    have hQ2 : Q ++ [PS.av x] = (vs ++ [x]).map PS.av := by rw [hQ, List.map_append]; rfl
    clear hr
    have fin2 : ∀ N s1, N = k → s1 = mkP [(0, .ptr 100 0), (1, .bm 67 100 0), (5, .own 102 (K + 1)), (6, .v (iV (z - 1)))] (RR q2 c2 lv ++ [(102, .lst 2 49 (Q ++ [PS.av x]))]) 26 true [100] → ∃ (m : Nat) (vs : List PS) (q : List Nat) (c : Bool) (K : Nat) (Q : List AV) (z : Int), m = N ∧ z = (m : Int) ∧ K = vs.length ∧ Q = vs.map PS.av ∧ vs.length + m ≤ n ∧ By q ∧ q.length ≤ 1000000000 ∧ runL g n l1 b1 = (vs ++ (runL g m q c).1, (runL g m q c).2) ∧ s1 = mkP [(0, .ptr 100 0), (1, .bm 67 100 0), (5, .own 102 K), (6, .v (iV z))] (RR q c lv ++ [(102, .lst 2 49 Q)]) 26 true [100] := fun N s1 hN hs => ⟨k, vs ++ [x], q2, c2, K + 1, Q ++ [PS.av x], z - 1, hN.symm, by omega, by simp [hK], hQ2, by simp; omega, hby, by omega, fin, hs⟩
    have hc : PCM false Tryz.prog 67 [.ptr 100 0] (RR q false lv) true (.v (PS.av x)) (RR q2 c2 lv) := hc
    have hK9 : K + 1 ≤ 1000000000 := by omega
    clear fin hQ2 ho hQ hK
    obtain ⟨f, cs⟩ := x
    refine goI ?_
    refine evM (Zcd [(100, 100)] hc rfl rfl rfl rfl rfl rfl rfl ⟨rfl, trivial⟩ ⟨.inl rfl, trivial⟩ ?_)
    refine goI ?_
    refine evG ggA (Zar (Zaa rfl) (Zaf rfl) rfl rfl rfl rfl (Zbo rfl rfl) (Nat.le_of_ble_eq_true rfl)) ?_
    refine evG ggA (Zbe (Zaa rfl) (Zaf rfl) rfl rfl hli rfl rfl (by decide) rfl (by omega) (Nat.le_of_ble_eq_true rfl) rfl) ?_
    refine goI ?_
    exact Zad (k := k) (s' := mkP [(0, .ptr 100 0), (1, .bm 67 100 0), (5, .own 102 (K + 1)), (6, .v (iV (z - 1)))] (RR q2 c2 lv ++ [(102, .lst 2 49 (Q ++ [_]))]) 26 true [100]) (by omega) (by exact Zak) (fin2 _ _ rfl rfl)
  · have hend : runL g m q c = ([], q, c) := by
      cases c with
      | true => exact Zch g m q
      | false =>
        have : m = 0 := by
          rcases Nat.eq_zero_or_pos m with h | h
          · exact h
          · exact absurd ⟨h, rfl⟩ hgo
        subst this; rfl
    rw [hend, List.append_nil] at hr
    rw [hr]
    subst hQ hK
    have hli : (vs.map PS.av).length = vs.length := List.length_map ..
    clear hg hend hr
    by_cases hm : 0 < m
    · have hc : c = true := by
        cases c with
        | true => rfl
        | false => exact absurd ⟨hm, rfl⟩ hgo
      subst hc
      have t1 : decide (z > 0) = true := decide_eq_true (by omega)
      refine goI ?_
      exact ⟨.inr rfl, by exact Zak⟩
    · have t1 : decide (z > 0) = false := decide_eq_false (by omega)
      refine goI ?_
      exact ⟨.inr rfl, by exact Zak⟩
theorem l_Eta {lv : Int} {g : List Nat → PE × List Nat × Bool} (hg : ∀ l, By l → l.length ≤ 1000000000 → RC 69 [] PE.av lv l false (g l).1 (g l).2.1 (g l).2.2 ∧ PE.ok (g l).1 ∧ ∃ j, (g l).2.1 = l.drop j) (l : List Nat) (b : Bool) (n : Nat) (l1 : List Nat) (b1 : Bool)
    (hN : RC 106 [] (fun n : Nat => iV n) lv l b n l1 b1) (hn : n ≤ l1.length) (hb : By l1) (hl : l1.length ≤ 1000000000) : RC 68 [.bm 69 100 0] (fun vs : List PE => .sl (vs.map PE.av)) lv l b (runL g n l1 b1).1 (runL g n l1 b1).2.1 (runL g n l1 b1).2.2 := by
  have hN : PCM false Tryz.prog 106 [.ptr 100 0] (RR l b lv) true (.v (iV n)) (RR l1 b1 lv) := hN
  refine Zay Tryz.func68 rfl rfl rfl (Nat.le_of_ble_eq_true rfl) ?_
  refine goI ?_
  refine mcA hN ?_
  refine goI ?_
  refine T.loop (fun N s1 => ∃ (m : Nat) (vs : List PE) (q : List Nat) (c : Bool) (K : Nat) (Q : List AV) (z : Int), m = N ∧ z = (m : Int) ∧ K = vs.length ∧ Q = vs.map PE.av ∧ vs.length + m ≤ n ∧ By q ∧ q.length ≤ 1000000000 ∧ runL g n l1 b1 = (vs ++ (runL g m q c).1, (runL g m q c).2) ∧ s1 = mkP [(0, .ptr 100 0), (1, .bm 69 100 0), (5, .own 102 K), (6, .v (iV z))] (RR q c lv ++ [(102, .lst 2 67 Q)]) 26 true [100]) n
    (s' := mkP [(0, .ptr 100 0), (1, .bm 69 100 0), (5, .own 102 0), (6, .v (iV n))] (RR l1 b1 lv ++ [(102, .lst 2 67 [])]) 26 true [100]) (by exact Zak) ⟨n, [], l1, b1, 0, [], (n : Int), rfl, rfl, rfl, rfl, by simp, hb, hl, rfl, rfl⟩ ?_
  rintro _ _ ⟨m, vs, q, c, K, Q, z, rfl, hz, hK, hQ, hle, hbq, hq, hr, rfl⟩
  by_cases hgo : 0 < m ∧ c = false
  · obtain ⟨hm, rfl⟩ := hgo
    obtain ⟨k, rfl⟩ : ∃ k, m = k + 1 := ⟨m - 1, by omega⟩
    have t1 : decide (z > 0) = true := decide_eq_true (by omega)
    obtain ⟨hc, ho, hd⟩ := hg q hbq hq
    have e1 : runL g (k + 1) q false = ((g q).1 :: (runL g k (g q).2.1 (g q).2.2).1, (runL g k (g q).2.1 (g q).2.2).2) := rfl
    rw [e1] at hr
    have hlen := Zaw hd
    have hby := hbq.of_drop hd
    clear e1 hd hg
    generalize (g q).1 = x at *
    generalize (g q).2.1 = q2 at *
    generalize (g q).2.2 = c2 at *
    have hli : Q.length = K := by rw [hQ, hK, List.length_map]
    have fin : runL g n l1 b1 = ((vs ++ [x]) ++ (runL g k q2 c2).1, (runL g k q2 c2).2) := by rw [hr, List.append_assoc]; rfl
    have hQ2 : Q ++ [PE.av x] = (vs ++ [x]).map PE.av := by rw [hQ, List.map_append]; rfl
    clear hr
    have fin2 : ∀ N s1, N = k → s1 = mkP [(0, .ptr 100 0), (1, .bm 69 100 0), (5, .own 102 (K + 1)), (6, .v (iV (z - 1)))] (RR q2 c2 lv ++ [(102, .lst 2 67 (Q ++ [PE.av x]))]) 26 true [100] → ∃ (m : Nat) (vs : List PE) (q : List Nat) (c : Bool) (K : Nat) (Q : List AV) (z : Int), m = N ∧ z = (m : Int) ∧ K = vs.length ∧ Q = vs.map PE.av ∧ vs.length + m ≤ n ∧ By q ∧ q.length ≤ 1000000000 ∧ runL g n l1 b1 = (vs ++ (runL g m q c).1, (runL g m q c).2) ∧ s1 = mkP [(0, .ptr 100 0), (1, .bm 69 100 0), (5, .own 102 K), (6, .v (iV z))] (RR q c lv ++ [(102, .lst 2 67 Q)]) 26 true [100] := fun N s1 hN hs => ⟨k, vs ++ [x], q2, c2, K + 1, Q ++ [PE.av x], z - 1, hN.symm, by omega, by simp [hK], hQ2, by simp; omega, hby, by omega, fin, hs⟩
    have hc : PCM false Tryz.prog 69 [.ptr 100 0] (RR q false lv) true (.v (PE.av x)) (RR q2 c2 lv) := hc
    have hK9 : K + 1 ≤ 1000000000 := by omega
    clear fin hQ2 ho hQ hK
    obtain ⟨f, cs⟩ := x
    refine goI ?_
    refine evM (Zcd [(100, 100)] hc rfl rfl rfl rfl rfl rfl rfl ⟨rfl, trivial⟩ ⟨.inl rfl, trivial⟩ ?_)
    refine goI ?_
    refine evG ggA (Zar (Zaa rfl) (Zaf rfl) rfl rfl rfl rfl (Zbo rfl rfl) (Nat.le_of_ble_eq_true rfl)) ?_
    refine evG ggA (Zbe (Zaa rfl) (Zaf rfl) rfl rfl hli rfl rfl (by decide) rfl (by omega) (Nat.le_of_ble_eq_true rfl) rfl) ?_
    refine goI ?_
    exact Zad (k := k) (s' := mkP [(0, .ptr 100 0), (1, .bm 69 100 0), (5, .own 102 (K + 1)), (6, .v (iV (z - 1)))] (RR q2 c2 lv ++ [(102, .lst 2 67 (Q ++ [_]))]) 26 true [100]) (by omega) (by exact Zak) (fin2 _ _ rfl rfl)
  · have hend : runL g m q c = ([], q, c) := by
      cases c with
      | true => exact Zch g m q
      | false =>
        have : m = 0 := by
          rcases Nat.eq_zero_or_pos m with h | h
          · exact h
          · exact absurd ⟨h, rfl⟩ hgo
        subst this; rfl
    rw [hend, List.append_nil] at hr
    rw [hr]
    subst hQ hK
    have hli : (vs.map PE.av).length = vs.length := List.length_map ..
    clear hg hend hr
    by_cases hm : 0 < m
    · have hc : c = true := by
        cases c with
        | true => rfl
        | false => exact absurd ⟨hm, rfl⟩ hgo
      subst hc
      have t1 : decide (z > 0) = true := decide_eq_true (by omega)
      refine goI ?_
      exact ⟨.inr rfl, by exact Zak⟩
    · have t1 : decide (z > 0) = false := decide_eq_false (by omega)
      refine goI ?_
      exact ⟨.inr rfl, by exact Zak⟩
theorem l_Expr {lv : Int} {g : List Nat → PX × List Nat × Bool} (hg : ∀ l, By l → l.length ≤ 1000000000 → RC 112 [] PX.av lv l false (g l).1 (g l).2.1 (g l).2.2 ∧ PX.ok (g l).1 ∧ ∃ j, (g l).2.1 = l.drop j) (l : List Nat) (b : Bool) (n : Nat) (l1 : List Nat) (b1 : Bool)
    (hN : RC 106 [] (fun n : Nat => iV n) lv l b n l1 b1) (hn : n ≤ l1.length) (hb : By l1) (hl : l1.length ≤ 1000000000) : RC 132 [.bm 112 100 0] (fun vs : List PX => .sl (vs.map PX.av)) lv l b (runL g n l1 b1).1 (runL g n l1 b1).2.1 (runL g n l1 b1).2.2 := by
  have hN : PCM false Tryz.prog 106 [.ptr 100 0] (RR l b lv) true (.v (iV n)) (RR l1 b1 lv) := hN
  refine Zay Tryz.func132 rfl rfl rfl (Nat.le_of_ble_eq_true rfl) ?_
  refine goI ?_
  refine mcA hN ?_
  refine goI ?_
  refine T.loop (fun N s1 => ∃ (m : Nat) (vs : List PX) (q : List Nat) (c : Bool) (K : Nat) (Q : List AV) (z : Int), m = N ∧ z = (m : Int) ∧ K = vs.length ∧ Q = vs.map PX.av ∧ vs.length + m ≤ n ∧ By q ∧ q.length ≤ 1000000000 ∧ runL g n l1 b1 = (vs ++ (runL g m q c).1, (runL g m q c).2) ∧ s1 = mkP [(0, .ptr 100 0), (1, .bm 112 100 0), (5, .own 102 K), (6, .v (iV z))] (RR q c lv ++ [(102, .lst 8 59 Q)]) 26 true [100]) n
    (s' := mkP [(0, .ptr 100 0), (1, .bm 112 100 0), (5, .own 102 0), (6, .v (iV n))] (RR l1 b1 lv ++ [(102, .lst 8 59 [])]) 26 true [100]) (by exact Zak) ⟨n, [], l1, b1, 0, [], (n : Int), rfl, rfl, rfl, rfl, by simp, hb, hl, rfl, rfl⟩ ?_
  rintro _ _ ⟨m, vs, q, c, K, Q, z, rfl, hz, hK, hQ, hle, hbq, hq, hr, rfl⟩
  by_cases hgo : 0 < m ∧ c = false
  · obtain ⟨hm, rfl⟩ := hgo
    obtain ⟨k, rfl⟩ : ∃ k, m = k + 1 := ⟨m - 1, by omega⟩
    have t1 : decide (z > 0) = true := decide_eq_true (by omega)
    obtain ⟨hc, ho, hd⟩ := hg q hbq hq
    have e1 : runL g (k + 1) q false = ((g q).1 :: (runL g k (g q).2.1 (g q).2.2).1, (runL g k (g q).2.1 (g q).2.2).2) := rfl
    rw [e1] at hr
    have hlen := Zaw hd
    have hby := hbq.of_drop hd
    clear e1 hd hg
    generalize (g q).1 = x at *
    generalize (g q).2.1 = q2 at *
    generalize (g q).2.2 = c2 at *
    have hli : Q.length = K := by rw [hQ, hK, List.length_map]
    have fin : runL g n l1 b1 = ((vs ++ [x]) ++ (runL g k q2 c2).1, (runL g k q2 c2).2) := by rw [hr, List.append_assoc]; rfl
    have hQ2 : Q ++ [PX.av x] = (vs ++ [x]).map PX.av := by rw [hQ, List.map_append]; rfl
    clear hr
    have fin2 : ∀ N s1, N = k → s1 = mkP [(0, .ptr 100 0), (1, .bm 112 100 0), (5, .own 102 (K + 1)), (6, .v (iV (z - 1)))] (RR q2 c2 lv ++ [(102, .lst 8 59 (Q ++ [PX.av x]))]) 26 true [100] → ∃ (m : Nat) (vs : List PX) (q : List Nat) (c : Bool) (K : Nat) (Q : List AV) (z : Int), m = N ∧ z = (m : Int) ∧ K = vs.length ∧ Q = vs.map PX.av ∧ vs.length + m ≤ n ∧ By q ∧ q.length ≤ 1000000000 ∧ runL g n l1 b1 = (vs ++ (runL g m q c).1, (runL g m q c).2) ∧ s1 = mkP [(0, .ptr 100 0), (1, .bm 112 100 0), (5, .own 102 K), (6, .v (iV z))] (RR q c lv ++ [(102, .lst 8 59 Q)]) 26 true [100] := fun N s1 hN hs => ⟨k, vs ++ [x], q2, c2, K + 1, Q ++ [PX.av x], z - 1, hN.symm, by omega, by simp [hK], hQ2, by simp; omega, hby, by omega, fin, hs⟩
    have hc : PCM false Tryz.prog 112 [.ptr 100 0] (RR q false lv) true (.v (PX.av x)) (RR q2 c2 lv) := hc
    have hK9 : K + 1 ≤ 1000000000 := by omega
    clear fin hQ2 ho hQ hK
    obtain ⟨op, ns, ⟨⟨ga, da⟩, ⟨gb, db⟩⟩, nm, gs⟩ := x
    refine goI ?_
    refine evM (Zcd [(100, 100)] hc rfl rfl rfl rfl rfl rfl rfl ⟨rfl, trivial⟩ ⟨.inl rfl, trivial⟩ ?_)
    refine goI ?_
    refine evG ggA (Zar (Zaa rfl) (Zaf rfl) rfl rfl rfl rfl (Zbo rfl rfl) (Nat.le_of_ble_eq_true rfl)) ?_
    refine evG ggA (Zbe (Zaa rfl) (Zaf rfl) rfl rfl hli rfl rfl (by decide) rfl (by omega) (Nat.le_of_ble_eq_true rfl) rfl) ?_
    refine goI ?_
    exact Zad (k := k) (s' := mkP [(0, .ptr 100 0), (1, .bm 112 100 0), (5, .own 102 (K + 1)), (6, .v (iV (z - 1)))] (RR q2 c2 lv ++ [(102, .lst 8 59 (Q ++ [_]))]) 26 true [100]) (by omega) (by exact Zak) (fin2 _ _ rfl rfl)
  · have hend : runL g m q c = ([], q, c) := by
      cases c with
      | true => exact Zch g m q
      | false =>
        have : m = 0 := by
          rcases Nat.eq_zero_or_pos m with h | h
          · exact h
          · exact absurd ⟨h, rfl⟩ hgo
        subst this; rfl
    rw [hend, List.append_nil] at hr
    rw [hr]
    subst hQ hK
    have hli : (vs.map PX.av).length = vs.length := List.length_map ..
    clear hg hend hr
    by_cases hm : 0 < m
    · have hc : c = true := by
        cases c with
        | true => rfl
        | false => exact absurd ⟨hm, rfl⟩ hgo
      subst hc
      have t1 : decide (z > 0) = true := decide_eq_true (by omega)
      refine goI ?_
      exact ⟨.inr rfl, by exact Zak⟩
    · have t1 : decide (z > 0) = false := decide_eq_false (by omega)
      refine goI ?_
      exact ⟨.inr rfl, by exact Zak⟩
theorem l_Binding {lv : Int} {g : List Nat → PB × List Nat × Bool} (hg : ∀ l, By l → l.length ≤ 1000000000 → RC 71 [] PB.av lv l false (g l).1 (g l).2.1 (g l).2.2 ∧ PB.ok (g l).1 ∧ ∃ j, (g l).2.1 = l.drop j) (l : List Nat) (b : Bool) (n : Nat) (l1 : List Nat) (b1 : Bool)
    (hN : RC 106 [] (fun n : Nat => iV n) lv l b n l1 b1) (hn : n ≤ l1.length) (hb : By l1) (hl : l1.length ≤ 1000000000) : RC 70 [.bm 71 100 0] (fun vs : List PB => .sl (vs.map PB.av)) lv l b (runL g n l1 b1).1 (runL g n l1 b1).2.1 (runL g n l1 b1).2.2 := by
  have hN : PCM false Tryz.prog 106 [.ptr 100 0] (RR l b lv) true (.v (iV n)) (RR l1 b1 lv) := hN
  refine Zay Tryz.func70 rfl rfl rfl (Nat.le_of_ble_eq_true rfl) ?_
  refine goI ?_
  refine mcA hN ?_
  refine goI ?_
  refine T.loop (fun N s1 => ∃ (m : Nat) (vs : List PB) (q : List Nat) (c : Bool) (K : Nat) (Q : List AV) (z : Int), m = N ∧ z = (m : Int) ∧ K = vs.length ∧ Q = vs.map PB.av ∧ vs.length + m ≤ n ∧ By q ∧ q.length ≤ 1000000000 ∧ runL g n l1 b1 = (vs ++ (runL g m q c).1, (runL g m q c).2) ∧ s1 = mkP [(0, .ptr 100 0), (1, .bm 71 100 0), (5, .own 102 K), (6, .v (iV z))] (RR q c lv ++ [(102, .lst 9 61 Q)]) 26 true [100]) n
    (s' := mkP [(0, .ptr 100 0), (1, .bm 71 100 0), (5, .own 102 0), (6, .v (iV n))] (RR l1 b1 lv ++ [(102, .lst 9 61 [])]) 26 true [100]) (by exact Zak) ⟨n, [], l1, b1, 0, [], (n : Int), rfl, rfl, rfl, rfl, by simp, hb, hl, rfl, rfl⟩ ?_
  rintro _ _ ⟨m, vs, q, c, K, Q, z, rfl, hz, hK, hQ, hle, hbq, hq, hr, rfl⟩
  by_cases hgo : 0 < m ∧ c = false
  · obtain ⟨hm, rfl⟩ := hgo
    obtain ⟨k, rfl⟩ : ∃ k, m = k + 1 := ⟨m - 1, by omega⟩
    have t1 : decide (z > 0) = true := decide_eq_true (by omega)
    obtain ⟨hc, ho, hd⟩ := hg q hbq hq
    have e1 : runL g (k + 1) q false = ((g q).1 :: (runL g k (g q).2.1 (g q).2.2).1, (runL g k (g q).2.1 (g q).2.2).2) := rfl
    rw [e1] at hr
    have hlen := Zaw hd
    have hby := hbq.of_drop hd
    clear e1 hd hg
    generalize (g q).1 = x at *
    generalize (g q).2.1 = q2 at *
    generalize (g q).2.2 = c2 at *
    have hli : Q.length = K := by rw [hQ, hK, List.length_map]
    have fin : runL g n l1 b1 = ((vs ++ [x]) ++ (runL g k q2 c2).1, (runL g k q2 c2).2) := by rw [hr, List.append_assoc]; rfl
    have hQ2 : Q ++ [PB.av x] = (vs ++ [x]).map PB.av := by rw [hQ, List.map_append]; rfl
    clear hr
    have fin2 : ∀ N s1, N = k → s1 = mkP [(0, .ptr 100 0), (1, .bm 71 100 0), (5, .own 102 (K + 1)), (6, .v (iV (z - 1)))] (RR q2 c2 lv ++ [(102, .lst 9 61 (Q ++ [PB.av x]))]) 26 true [100] → ∃ (m : Nat) (vs : List PB) (q : List Nat) (c : Bool) (K : Nat) (Q : List AV) (z : Int), m = N ∧ z = (m : Int) ∧ K = vs.length ∧ Q = vs.map PB.av ∧ vs.length + m ≤ n ∧ By q ∧ q.length ≤ 1000000000 ∧ runL g n l1 b1 = (vs ++ (runL g m q c).1, (runL g m q c).2) ∧ s1 = mkP [(0, .ptr 100 0), (1, .bm 71 100 0), (5, .own 102 K), (6, .v (iV z))] (RR q c lv ++ [(102, .lst 9 61 Q)]) 26 true [100] := fun N s1 hN hs => ⟨k, vs ++ [x], q2, c2, K + 1, Q ++ [PB.av x], z - 1, hN.symm, by omega, by simp [hK], hQ2, by simp; omega, hby, by omega, fin, hs⟩
    have hc : PCM false Tryz.prog 71 [.ptr 100 0] (RR q false lv) true (.v (PB.av x)) (RR q2 c2 lv) := hc
    have hK9 : K + 1 ≤ 1000000000 := by omega
    clear fin hQ2 ho hQ hK
    obtain ⟨nb, ⟨op, ns, ⟨⟨ga, da⟩, ⟨gb, db⟩⟩, nm, gs⟩⟩ := x
    refine goI ?_
    refine evM (Zcd [(100, 100)] hc rfl rfl rfl rfl rfl rfl rfl ⟨rfl, trivial⟩ ⟨.inl rfl, trivial⟩ ?_)
    refine goI ?_
    refine evG ggA (Zar (Zaa rfl) (Zaf rfl) rfl rfl rfl rfl (Zbo rfl rfl) (Nat.le_of_ble_eq_true rfl)) ?_
    refine evG ggA (Zbe (Zaa rfl) (Zaf rfl) rfl rfl hli rfl rfl (by decide) rfl (by omega) (Nat.le_of_ble_eq_true rfl) rfl) ?_
    refine goI ?_
    exact Zad (k := k) (s' := mkP [(0, .ptr 100 0), (1, .bm 71 100 0), (5, .own 102 (K + 1)), (6, .v (iV (z - 1)))] (RR q2 c2 lv ++ [(102, .lst 9 61 (Q ++ [_]))]) 26 true [100]) (by omega) (by exact Zak) (fin2 _ _ rfl rfl)
  · have hend : runL g m q c = ([], q, c) := by
      cases c with
      | true => exact Zch g m q
      | false =>
        have : m = 0 := by
          rcases Nat.eq_zero_or_pos m with h | h
          · exact h
          · exact absurd ⟨h, rfl⟩ hgo
        subst this; rfl
    rw [hend, List.append_nil] at hr
    rw [hr]
    subst hQ hK
    have hli : (vs.map PB.av).length = vs.length := List.length_map ..
    clear hg hend hr
    by_cases hm : 0 < m
    · have hc : c = true := by
        cases c with
        | true => rfl
        | false => exact absurd ⟨hm, rfl⟩ hgo
      subst hc
      have t1 : decide (z > 0) = true := decide_eq_true (by omega)
      refine goI ?_
      exact ⟨.inr rfl, by exact Zak⟩
    · have t1 : decide (z > 0) = false := decide_eq_false (by omega)
      refine goI ?_
      exact ⟨.inr rfl, by exact Zak⟩
theorem l_Cert {lv : Int} {g : List Nat → PZ × List Nat × Bool} (hg : ∀ l, By l → l.length ≤ 1000000000 → RC 73 [] PZ.av lv l false (g l).1 (g l).2.1 (g l).2.2 ∧ PZ.ok (g l).1 ∧ ∃ j, (g l).2.1 = l.drop j) (l : List Nat) (b : Bool) (n : Nat) (l1 : List Nat) (b1 : Bool)
    (hN : RC 106 [] (fun n : Nat => iV n) lv l b n l1 b1) (hn : n ≤ l1.length) (hb : By l1) (hl : l1.length ≤ 1000000000) : RC 72 [.bm 73 100 0] (fun vs : List PZ => .sl (vs.map PZ.av)) lv l b (runL g n l1 b1).1 (runL g n l1 b1).2.1 (runL g n l1 b1).2.2 := by
  have hN : PCM false Tryz.prog 106 [.ptr 100 0] (RR l b lv) true (.v (iV n)) (RR l1 b1 lv) := hN
  refine Zay Tryz.func72 rfl rfl rfl (Nat.le_of_ble_eq_true rfl) ?_
  refine goI ?_
  refine mcA hN ?_
  refine goI ?_
  refine T.loop (fun N s1 => ∃ (m : Nat) (vs : List PZ) (q : List Nat) (c : Bool) (K : Nat) (Q : List AV) (z : Int), m = N ∧ z = (m : Int) ∧ K = vs.length ∧ Q = vs.map PZ.av ∧ vs.length + m ≤ n ∧ By q ∧ q.length ≤ 1000000000 ∧ runL g n l1 b1 = (vs ++ (runL g m q c).1, (runL g m q c).2) ∧ s1 = mkP [(0, .ptr 100 0), (1, .bm 73 100 0), (5, .own 102 K), (6, .v (iV z))] (RR q c lv ++ [(102, .lst 25 75 Q)]) 26 true [100]) n
    (s' := mkP [(0, .ptr 100 0), (1, .bm 73 100 0), (5, .own 102 0), (6, .v (iV n))] (RR l1 b1 lv ++ [(102, .lst 25 75 [])]) 26 true [100]) (by exact Zak) ⟨n, [], l1, b1, 0, [], (n : Int), rfl, rfl, rfl, rfl, by simp, hb, hl, rfl, rfl⟩ ?_
  rintro _ _ ⟨m, vs, q, c, K, Q, z, rfl, hz, hK, hQ, hle, hbq, hq, hr, rfl⟩
  by_cases hgo : 0 < m ∧ c = false
  · obtain ⟨hm, rfl⟩ := hgo
    obtain ⟨k, rfl⟩ : ∃ k, m = k + 1 := ⟨m - 1, by omega⟩
    have t1 : decide (z > 0) = true := decide_eq_true (by omega)
    obtain ⟨hc, ho, hd⟩ := hg q hbq hq
    have e1 : runL g (k + 1) q false = ((g q).1 :: (runL g k (g q).2.1 (g q).2.2).1, (runL g k (g q).2.1 (g q).2.2).2) := rfl
    rw [e1] at hr
    have hlen := Zaw hd
    have hby := hbq.of_drop hd
    clear e1 hd hg
    generalize (g q).1 = x at *
    generalize (g q).2.1 = q2 at *
    generalize (g q).2.2 = c2 at *
    have hli : Q.length = K := by rw [hQ, hK, List.length_map]
    have fin : runL g n l1 b1 = ((vs ++ [x]) ++ (runL g k q2 c2).1, (runL g k q2 c2).2) := by rw [hr, List.append_assoc]; rfl
    have hQ2 : Q ++ [PZ.av x] = (vs ++ [x]).map PZ.av := by rw [hQ, List.map_append]; rfl
    clear hr
    have fin2 : ∀ N s1, N = k → s1 = mkP [(0, .ptr 100 0), (1, .bm 73 100 0), (5, .own 102 (K + 1)), (6, .v (iV (z - 1)))] (RR q2 c2 lv ++ [(102, .lst 25 75 (Q ++ [PZ.av x]))]) 26 true [100] → ∃ (m : Nat) (vs : List PZ) (q : List Nat) (c : Bool) (K : Nat) (Q : List AV) (z : Int), m = N ∧ z = (m : Int) ∧ K = vs.length ∧ Q = vs.map PZ.av ∧ vs.length + m ≤ n ∧ By q ∧ q.length ≤ 1000000000 ∧ runL g n l1 b1 = (vs ++ (runL g m q c).1, (runL g m q c).2) ∧ s1 = mkP [(0, .ptr 100 0), (1, .bm 73 100 0), (5, .own 102 K), (6, .v (iV z))] (RR q c lv ++ [(102, .lst 25 75 Q)]) 26 true [100] := fun N s1 hN hs => ⟨k, vs ++ [x], q2, c2, K + 1, Q ++ [PZ.av x], z - 1, hN.symm, by omega, by simp [hK], hQ2, by simp; omega, hby, by omega, fin, hs⟩
    have hc : PCM false Tryz.prog 73 [.ptr 100 0] (RR q false lv) true (.v (PZ.av x)) (RR q2 c2 lv) := hc
    have hK9 : K + 1 ≤ 1000000000 := by omega
    clear fin hQ2 ho hQ hK
    obtain ⟨⟨op1, ns1, ⟨⟨ga1, da1⟩, ⟨gb1, db1⟩⟩, nm1, gs1⟩, ⟨op2, ns2, ⟨⟨ga2, da2⟩, ⟨gb2, db2⟩⟩, nm2, gs2⟩, ds, ⟨kw, kl, kd, kp, ku⟩, bo, ⟨f, cs⟩⟩ := x
    refine goI ?_
    refine evM (Zcd [(100, 100)] hc rfl rfl rfl rfl rfl rfl rfl ⟨rfl, trivial⟩ ⟨.inl rfl, trivial⟩ ?_)
    refine goI ?_
    refine evG ggA (Zar (Zaa rfl) (Zaf rfl) rfl rfl rfl rfl (Zbo rfl rfl) (Nat.le_of_ble_eq_true rfl)) ?_
    refine evG ggA (Zbe (Zaa rfl) (Zaf rfl) rfl rfl hli rfl rfl (by decide) rfl (by omega) (Nat.le_of_ble_eq_true rfl) rfl) ?_
    refine goI ?_
    exact Zad (k := k) (s' := mkP [(0, .ptr 100 0), (1, .bm 73 100 0), (5, .own 102 (K + 1)), (6, .v (iV (z - 1)))] (RR q2 c2 lv ++ [(102, .lst 25 75 (Q ++ [_]))]) 26 true [100]) (by omega) (by exact Zak) (fin2 _ _ rfl rfl)
  · have hend : runL g m q c = ([], q, c) := by
      cases c with
      | true => exact Zch g m q
      | false =>
        have : m = 0 := by
          rcases Nat.eq_zero_or_pos m with h | h
          · exact h
          · exact absurd ⟨h, rfl⟩ hgo
        subst this; rfl
    rw [hend, List.append_nil] at hr
    rw [hr]
    subst hQ hK
    have hli : (vs.map PZ.av).length = vs.length := List.length_map ..
    clear hg hend hr
    by_cases hm : 0 < m
    · have hc : c = true := by
        cases c with
        | true => rfl
        | false => exact absurd ⟨hm, rfl⟩ hgo
      subst hc
      have t1 : decide (z > 0) = true := decide_eq_true (by omega)
      refine goI ?_
      exact ⟨.inr rfl, by exact Zak⟩
    · have t1 : decide (z > 0) = false := decide_eq_false (by omega)
      refine goI ?_
      exact ⟨.inr rfl, by exact Zak⟩
theorem l_Space {lv : Int} {g : List Nat → PF × List Nat × Bool} (hg : ∀ l, By l → l.length ≤ 1000000000 → RC 75 [] PF.av lv l false (g l).1 (g l).2.1 (g l).2.2 ∧ PF.ok (g l).1 ∧ ∃ j, (g l).2.1 = l.drop j) (l : List Nat) (b : Bool) (n : Nat) (l1 : List Nat) (b1 : Bool)
    (hN : RC 106 [] (fun n : Nat => iV n) lv l b n l1 b1) (hn : n ≤ l1.length) (hb : By l1) (hl : l1.length ≤ 1000000000) : RC 74 [.bm 75 100 0] (fun vs : List PF => .sl (vs.map PF.av)) lv l b (runL g n l1 b1).1 (runL g n l1 b1).2.1 (runL g n l1 b1).2.2 := by
  have hN : PCM false Tryz.prog 106 [.ptr 100 0] (RR l b lv) true (.v (iV n)) (RR l1 b1 lv) := hN
  refine Zay Tryz.func74 rfl rfl rfl (Nat.le_of_ble_eq_true rfl) ?_
  refine goI ?_
  refine mcA hN ?_
  refine goI ?_
  refine T.loop (fun N s1 => ∃ (m : Nat) (vs : List PF) (q : List Nat) (c : Bool) (K : Nat) (Q : List AV) (z : Int), m = N ∧ z = (m : Int) ∧ K = vs.length ∧ Q = vs.map PF.av ∧ vs.length + m ≤ n ∧ By q ∧ q.length ≤ 1000000000 ∧ runL g n l1 b1 = (vs ++ (runL g m q c).1, (runL g m q c).2) ∧ s1 = mkP [(0, .ptr 100 0), (1, .bm 75 100 0), (5, .own 102 K), (6, .v (iV z))] (RR q c lv ++ [(102, .lst 5 71 Q)]) 26 true [100]) n
    (s' := mkP [(0, .ptr 100 0), (1, .bm 75 100 0), (5, .own 102 0), (6, .v (iV n))] (RR l1 b1 lv ++ [(102, .lst 5 71 [])]) 26 true [100]) (by exact Zak) ⟨n, [], l1, b1, 0, [], (n : Int), rfl, rfl, rfl, rfl, by simp, hb, hl, rfl, rfl⟩ ?_
  rintro _ _ ⟨m, vs, q, c, K, Q, z, rfl, hz, hK, hQ, hle, hbq, hq, hr, rfl⟩
  by_cases hgo : 0 < m ∧ c = false
  · obtain ⟨hm, rfl⟩ := hgo
    obtain ⟨k, rfl⟩ : ∃ k, m = k + 1 := ⟨m - 1, by omega⟩
    have t1 : decide (z > 0) = true := decide_eq_true (by omega)
    obtain ⟨hc, ho, hd⟩ := hg q hbq hq
    have e1 : runL g (k + 1) q false = ((g q).1 :: (runL g k (g q).2.1 (g q).2.2).1, (runL g k (g q).2.1 (g q).2.2).2) := rfl
    rw [e1] at hr
    have hlen := Zaw hd
    have hby := hbq.of_drop hd
    clear e1 hd hg
    generalize (g q).1 = x at *
    generalize (g q).2.1 = q2 at *
    generalize (g q).2.2 = c2 at *
    have hli : Q.length = K := by rw [hQ, hK, List.length_map]
    have fin : runL g n l1 b1 = ((vs ++ [x]) ++ (runL g k q2 c2).1, (runL g k q2 c2).2) := by rw [hr, List.append_assoc]; rfl
    have hQ2 : Q ++ [PF.av x] = (vs ++ [x]).map PF.av := by rw [hQ, List.map_append]; rfl
    clear hr
    have fin2 : ∀ N s1, N = k → s1 = mkP [(0, .ptr 100 0), (1, .bm 75 100 0), (5, .own 102 (K + 1)), (6, .v (iV (z - 1)))] (RR q2 c2 lv ++ [(102, .lst 5 71 (Q ++ [PF.av x]))]) 26 true [100] → ∃ (m : Nat) (vs : List PF) (q : List Nat) (c : Bool) (K : Nat) (Q : List AV) (z : Int), m = N ∧ z = (m : Int) ∧ K = vs.length ∧ Q = vs.map PF.av ∧ vs.length + m ≤ n ∧ By q ∧ q.length ≤ 1000000000 ∧ runL g n l1 b1 = (vs ++ (runL g m q c).1, (runL g m q c).2) ∧ s1 = mkP [(0, .ptr 100 0), (1, .bm 75 100 0), (5, .own 102 K), (6, .v (iV z))] (RR q c lv ++ [(102, .lst 5 71 Q)]) 26 true [100] := fun N s1 hN hs => ⟨k, vs ++ [x], q2, c2, K + 1, Q ++ [PF.av x], z - 1, hN.symm, by omega, by simp [hK], hQ2, by simp; omega, hby, by omega, fin, hs⟩
    have hc : PCM false Tryz.prog 75 [.ptr 100 0] (RR q false lv) true (.v (PF.av x)) (RR q2 c2 lv) := hc
    have hK9 : K + 1 ≤ 1000000000 := by omega
    clear fin hQ2 ho hQ hK
    obtain ⟨fl, fw, fd, fp, fb⟩ := x
    refine goI ?_
    refine evM (Zcd [(100, 100)] hc rfl rfl rfl rfl rfl rfl rfl ⟨rfl, trivial⟩ ⟨.inl rfl, trivial⟩ ?_)
    refine goI ?_
    refine evG ggA (Zar (Zaa rfl) (Zaf rfl) rfl rfl rfl rfl (Zbo rfl rfl) (Nat.le_of_ble_eq_true rfl)) ?_
    refine evG ggA (Zbe (Zaa rfl) (Zaf rfl) rfl rfl hli rfl rfl (by decide) rfl (by omega) (Nat.le_of_ble_eq_true rfl) rfl) ?_
    refine goI ?_
    exact Zad (k := k) (s' := mkP [(0, .ptr 100 0), (1, .bm 75 100 0), (5, .own 102 (K + 1)), (6, .v (iV (z - 1)))] (RR q2 c2 lv ++ [(102, .lst 5 71 (Q ++ [_]))]) 26 true [100]) (by omega) (by exact Zak) (fin2 _ _ rfl rfl)
  · have hend : runL g m q c = ([], q, c) := by
      cases c with
      | true => exact Zch g m q
      | false =>
        have : m = 0 := by
          rcases Nat.eq_zero_or_pos m with h | h
          · exact h
          · exact absurd ⟨h, rfl⟩ hgo
        subst this; rfl
    rw [hend, List.append_nil] at hr
    rw [hr]
    subst hQ hK
    have hli : (vs.map PF.av).length = vs.length := List.length_map ..
    clear hg hend hr
    by_cases hm : 0 < m
    · have hc : c = true := by
        cases c with
        | true => rfl
        | false => exact absurd ⟨hm, rfl⟩ hgo
      subst hc
      have t1 : decide (z > 0) = true := decide_eq_true (by omega)
      refine goI ?_
      exact ⟨.inr rfl, by exact Zak⟩
    · have t1 : decide (z > 0) = false := decide_eq_false (by omega)
      refine goI ?_
      exact ⟨.inr rfl, by exact Zak⟩
theorem l_Matrix {lv : Int} {g : List Nat → PM × List Nat × Bool} (hg : ∀ l, By l → l.length ≤ 1000000000 → RC 77 [] PM.av lv l false (g l).1 (g l).2.1 (g l).2.2 ∧ PM.ok (g l).1 ∧ ∃ j, (g l).2.1 = l.drop j) (l : List Nat) (b : Bool) (n : Nat) (l1 : List Nat) (b1 : Bool)
    (hN : RC 106 [] (fun n : Nat => iV n) lv l b n l1 b1) (hn : n ≤ l1.length) (hb : By l1) (hl : l1.length ≤ 1000000000) : RC 76 [.bm 77 100 0] (fun vs : List PM => .sl (vs.map PM.av)) lv l b (runL g n l1 b1).1 (runL g n l1 b1).2.1 (runL g n l1 b1).2.2 := by
  have hN : PCM false Tryz.prog 106 [.ptr 100 0] (RR l b lv) true (.v (iV n)) (RR l1 b1 lv) := hN
  refine Zay Tryz.func76 rfl rfl rfl (Nat.le_of_ble_eq_true rfl) ?_
  refine goI ?_
  refine mcA hN ?_
  refine goI ?_
  refine T.loop (fun N s1 => ∃ (m : Nat) (vs : List PM) (q : List Nat) (c : Bool) (K : Nat) (Q : List AV) (z : Int), m = N ∧ z = (m : Int) ∧ K = vs.length ∧ Q = vs.map PM.av ∧ vs.length + m ≤ n ∧ By q ∧ q.length ≤ 1000000000 ∧ runL g n l1 b1 = (vs ++ (runL g m q c).1, (runL g m q c).2) ∧ s1 = mkP [(0, .ptr 100 0), (1, .bm 77 100 0), (5, .own 102 K), (6, .v (iV z))] (RR q c lv ++ [(102, .lst 3 63 Q)]) 26 true [100]) n
    (s' := mkP [(0, .ptr 100 0), (1, .bm 77 100 0), (5, .own 102 0), (6, .v (iV n))] (RR l1 b1 lv ++ [(102, .lst 3 63 [])]) 26 true [100]) (by exact Zak) ⟨n, [], l1, b1, 0, [], (n : Int), rfl, rfl, rfl, rfl, by simp, hb, hl, rfl, rfl⟩ ?_
  rintro _ _ ⟨m, vs, q, c, K, Q, z, rfl, hz, hK, hQ, hle, hbq, hq, hr, rfl⟩
  by_cases hgo : 0 < m ∧ c = false
  · obtain ⟨hm, rfl⟩ := hgo
    obtain ⟨k, rfl⟩ : ∃ k, m = k + 1 := ⟨m - 1, by omega⟩
    have t1 : decide (z > 0) = true := decide_eq_true (by omega)
    obtain ⟨hc, ho, hd⟩ := hg q hbq hq
    have e1 : runL g (k + 1) q false = ((g q).1 :: (runL g k (g q).2.1 (g q).2.2).1, (runL g k (g q).2.1 (g q).2.2).2) := rfl
    rw [e1] at hr
    have hlen := Zaw hd
    have hby := hbq.of_drop hd
    clear e1 hd hg
    generalize (g q).1 = x at *
    generalize (g q).2.1 = q2 at *
    generalize (g q).2.2 = c2 at *
    have hli : Q.length = K := by rw [hQ, hK, List.length_map]
    have fin : runL g n l1 b1 = ((vs ++ [x]) ++ (runL g k q2 c2).1, (runL g k q2 c2).2) := by rw [hr, List.append_assoc]; rfl
    have hQ2 : Q ++ [PM.av x] = (vs ++ [x]).map PM.av := by rw [hQ, List.map_append]; rfl
    clear hr
    have fin2 : ∀ N s1, N = k → s1 = mkP [(0, .ptr 100 0), (1, .bm 77 100 0), (5, .own 102 (K + 1)), (6, .v (iV (z - 1)))] (RR q2 c2 lv ++ [(102, .lst 3 63 (Q ++ [PM.av x]))]) 26 true [100] → ∃ (m : Nat) (vs : List PM) (q : List Nat) (c : Bool) (K : Nat) (Q : List AV) (z : Int), m = N ∧ z = (m : Int) ∧ K = vs.length ∧ Q = vs.map PM.av ∧ vs.length + m ≤ n ∧ By q ∧ q.length ≤ 1000000000 ∧ runL g n l1 b1 = (vs ++ (runL g m q c).1, (runL g m q c).2) ∧ s1 = mkP [(0, .ptr 100 0), (1, .bm 77 100 0), (5, .own 102 K), (6, .v (iV z))] (RR q c lv ++ [(102, .lst 3 63 Q)]) 26 true [100] := fun N s1 hN hs => ⟨k, vs ++ [x], q2, c2, K + 1, Q ++ [PM.av x], z - 1, hN.symm, by omega, by simp [hK], hQ2, by simp; omega, hby, by omega, fin, hs⟩
    have hc : PCM false Tryz.prog 77 [.ptr 100 0] (RR q false lv) true (.v (PM.av x)) (RR q2 c2 lv) := hc
    have hK9 : K + 1 ≤ 1000000000 := by omega
    clear fin hQ2 ho hQ hK
    obtain ⟨mr, mc, ma⟩ := x
    refine goI ?_
    refine evM (Zcd [(100, 100)] hc rfl rfl rfl rfl rfl rfl rfl ⟨rfl, trivial⟩ ⟨.inl rfl, trivial⟩ ?_)
    refine goI ?_
    refine evG ggA (Zar (Zaa rfl) (Zaf rfl) rfl rfl rfl rfl (Zbo rfl rfl) (Nat.le_of_ble_eq_true rfl)) ?_
    refine evG ggA (Zbe (Zaa rfl) (Zaf rfl) rfl rfl hli rfl rfl (by decide) rfl (by omega) (Nat.le_of_ble_eq_true rfl) rfl) ?_
    refine goI ?_
    exact Zad (k := k) (s' := mkP [(0, .ptr 100 0), (1, .bm 77 100 0), (5, .own 102 (K + 1)), (6, .v (iV (z - 1)))] (RR q2 c2 lv ++ [(102, .lst 3 63 (Q ++ [_]))]) 26 true [100]) (by omega) (by exact Zak) (fin2 _ _ rfl rfl)
  · have hend : runL g m q c = ([], q, c) := by
      cases c with
      | true => exact Zch g m q
      | false =>
        have : m = 0 := by
          rcases Nat.eq_zero_or_pos m with h | h
          · exact h
          · exact absurd ⟨h, rfl⟩ hgo
        subst this; rfl
    rw [hend, List.append_nil] at hr
    rw [hr]
    subst hQ hK
    have hli : (vs.map PM.av).length = vs.length := List.length_map ..
    clear hg hend hr
    by_cases hm : 0 < m
    · have hc : c = true := by
        cases c with
        | true => rfl
        | false => exact absurd ⟨hm, rfl⟩ hgo
      subst hc
      have t1 : decide (z > 0) = true := decide_eq_true (by omega)
      refine goI ?_
      exact ⟨.inr rfl, by exact Zak⟩
    · have t1 : decide (z > 0) = false := decide_eq_false (by omega)
      refine goI ?_
      exact ⟨.inr rfl, by exact Zak⟩
end Ab
