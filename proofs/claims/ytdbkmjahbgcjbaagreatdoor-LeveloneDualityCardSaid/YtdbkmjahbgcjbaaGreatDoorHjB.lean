import Derived.Test.YtdbkmjahbgcjbaaGreatDoorHjA
set_option linter.all false
namespace Ab
open Go Go.RowKit Go.Proofs Hp
set_option maxRecDepth 100000
end Ab
namespace Ab
open Go Go.RowKit Go.Proofs Kr
set_option maxRecDepth 100000
def LFn (n : Nat) (es : List AV) : List (Nat × Blk) := [(0, .var [.own 1 n]), (1, .lst 2 228 es)]
set_option maxHeartbeats 1000000 in
theorem each2_p {p e : Nat} {es : List AV} (hl : es.length + 1 ≤ 1000000) :
  PCM true Tryz.prog 297 [.v (iV p), .v (iV e), .ptr 0 0] (LFn es.length es) true (.v (.tup [])) (LFn (es.length + 1) (es ++ [fP (p, e)])) := by
 refine pc_bodyM0 Tryz.func297 rfl rfl rfl (Nat.le_of_ble_eq_true rfl) ?_
 refine goA ?_
 refine evG ggA (ss_bslice (InB_of rfl) (make_tab rfl) rfl rfl rfl rfl (one_ok rfl rfl) (Nat.le_of_ble_eq_true rfl)) ?_
 refine evG ggA (ss_snocA (a := fP (p, e)) (InB_of rfl) (make_tab rfl) rfl rfl rfl rfl rfl (by decide) rfl hl (Nat.le_of_ble_eq_true rfl) rfl) ?_
 refine goA ?_
 exact ⟨.inl rfl, by (refine Ent.mkP rfl rfl rfl rfl ?_ ?_ <;> (repeat (first | exact trivial | exact ⟨_, rfl, .inl ⟨rfl, ⟨_, rfl⟩, ⟨_, rfl⟩, trivial⟩⟩ | exact ⟨_, rfl, .inl ⟨rfl, ⟨_, rfl⟩, trivial⟩⟩ | refine And.intro ?_ ?_ | exact ⟨_, rfl, .inl ⟨rfl, trivial⟩⟩ | exact ⟨_, rfl, .inl ⟨rfl, _, rfl⟩⟩ | exact .inl ⟨rfl, trivial⟩ | exact .inl ⟨rfl, _, rfl⟩ | exact ⟨_, rfl, .inr (.inl ⟨rfl, rfl⟩)⟩ | exact .inr (.inl ⟨rfl, rfl⟩) | exact ⟨_, rfl, .inr (.inr (.inl ⟨_, _, _, _, _, rfl, rfl, by first | rfl | assumption | simp, rfl, rfl⟩))⟩ | exact .inr (.inr (.inl ⟨_, _, _, _, _, rfl, rfl, by first | rfl | assumption | simp, rfl, rfl⟩)) | exact ⟨_, rfl, .inr (.inr (.inr ⟨_, _, _, rfl, rfl, rfl, rfl⟩))⟩ | exact .inr (.inr (.inr ⟨_, _, _, rfl, rfl, rfl, rfl⟩)) | rfl)))⟩
set_option maxHeartbeats 4000000 in
theorem factors2_p {k n : Nat} {es R : List AV} (hk : okA k 2 n = true) (hF : es ++ (facA k 2 n).map fP = R) (hN1 : 1 ≤ n) (hN2 : n ≤ 2147483648) (hRl : R.length ≤ 1000000) :
    PCM true Tryz.prog 225 [.v (iV n), .fn 297 [(0, 0)]] (LFn es.length es) true (.v (.tup [])) (LFn R.length R) := by
  refine pc_bodyM0 Tryz.func225 rfl rfl rfl (Nat.le_of_ble_eq_true rfl) ?_
  refine goA ?_
  refine T.loop (fun k s1 => ∃ (p n : Nat) (es : List AV), okA k p n = true ∧ es ++ (facA k p n).map fP = R ∧ 1 ≤ n ∧ n ≤ 2147483648 ∧ 2 ≤ p ∧ p ≤ 2147483649 ∧ s1 = mkP [(0, .v (iV n)), (1, .fn 297 [(0, 0)]), (4, .v (iV p))] (LFn es.length es) 31 true [0, 1]) k
    (s' := mkP [(0, .v (iV n)), (1, .fn 297 [(0, 0)]), (4, .v (iV (2 : Nat)))] (LFn es.length es) 31 true [0, 1]) (by (refine Ent.mkP rfl rfl rfl rfl ?_ ?_ <;> (repeat (first | exact trivial | exact ⟨_, rfl, .inl ⟨rfl, ⟨_, rfl⟩, ⟨_, rfl⟩, trivial⟩⟩ | exact ⟨_, rfl, .inl ⟨rfl, ⟨_, rfl⟩, trivial⟩⟩ | refine And.intro ?_ ?_ | exact ⟨_, rfl, .inl ⟨rfl, trivial⟩⟩ | exact ⟨_, rfl, .inl ⟨rfl, _, rfl⟩⟩ | exact .inl ⟨rfl, trivial⟩ | exact .inl ⟨rfl, _, rfl⟩ | exact ⟨_, rfl, .inr (.inl ⟨rfl, rfl⟩)⟩ | exact .inr (.inl ⟨rfl, rfl⟩) | exact ⟨_, rfl, .inr (.inr (.inl ⟨_, _, _, _, _, rfl, rfl, by first | rfl | assumption | simp, rfl, rfl⟩))⟩ | exact .inr (.inr (.inl ⟨_, _, _, _, _, rfl, rfl, by first | rfl | assumption | simp, rfl, rfl⟩)) | exact ⟨_, rfl, .inr (.inr (.inr ⟨_, _, _, rfl, rfl, rfl, rfl⟩))⟩ | exact .inr (.inr (.inr ⟨_, _, _, rfl, rfl, rfl, rfl⟩)) | rfl)))) ⟨2, n, es, hk, hF, hN1, hN2, by decide, by decide, rfl⟩ ?_
  clear hk hF hN1 hN2
  rintro k _ ⟨p, n, es, hk, hF, hn1, hnN, hp, hp2, rfl⟩
  by_cases c : n ≤ 1
  · have k1 : decide ((n : Int) > 1) = false := by simp; omega
    have e1 : Nat.ble n 1 = true := Nat.ble_eq_true_of_le c
    have e2 : facA k p n = [] := by
      cases k with
      | zero => rfl
      | succ k => unfold facA; rw [e1]; rfl
    rw [e2, List.map_nil, List.append_nil] at hF
    subst hF
    refine goA ?_
    exact ⟨.inl rfl, by (refine Ent.mkP rfl rfl rfl rfl ?_ ?_ <;> (repeat (first | exact trivial | exact ⟨_, rfl, .inl ⟨rfl, ⟨_, rfl⟩, ⟨_, rfl⟩, trivial⟩⟩ | exact ⟨_, rfl, .inl ⟨rfl, ⟨_, rfl⟩, trivial⟩⟩ | refine And.intro ?_ ?_ | exact ⟨_, rfl, .inl ⟨rfl, trivial⟩⟩ | exact ⟨_, rfl, .inl ⟨rfl, _, rfl⟩⟩ | exact .inl ⟨rfl, trivial⟩ | exact .inl ⟨rfl, _, rfl⟩ | exact ⟨_, rfl, .inr (.inl ⟨rfl, rfl⟩)⟩ | exact .inr (.inl ⟨rfl, rfl⟩) | exact ⟨_, rfl, .inr (.inr (.inl ⟨_, _, _, _, _, rfl, rfl, by first | rfl | assumption | simp, rfl, rfl⟩))⟩ | exact .inr (.inr (.inl ⟨_, _, _, _, _, rfl, rfl, by first | rfl | assumption | simp, rfl, rfl⟩)) | exact ⟨_, rfl, .inr (.inr (.inr ⟨_, _, _, rfl, rfl, rfl, rfl⟩))⟩ | exact .inr (.inr (.inr ⟨_, _, _, rfl, rfl, rfl, rfl⟩)) | rfl)))⟩
  · have k1 : decide ((n : Int) > 1) = true := by simp; omega
    have e1 : Nat.ble n 1 = false := by
      cases h : Nat.ble n 1 with
      | false => rfl
      | true => exact absurd (Nat.le_of_ble_eq_true h) c
    cases k with
    | zero => unfold okA at hk; rw [e1] at hk; cases hk
    | succ k =>
      unfold okA at hk
      unfold facA at hF
      rw [e1] at hk hF
      simp only [cond_false] at hk hF
      have hq2 : 2 ≤ (bif Nat.ble (p * p) n then p else n) ∧ (bif Nat.ble (p * p) n then p else n) ≤ 2147483648 := by
        cases hb : Nat.ble (p * p) n with
        | true =>
          have := Nat.le_of_ble_eq_true hb
          have : p * 1 ≤ p * p := Nat.mul_le_mul_left p (by omega)
          simp only [cond_true]; omega
        | false => simp only [cond_false]; omega
      have hpp : p * p ≤ 2147483649 * 2147483649 := Nat.mul_le_mul hp2 hp2
      have epp : ((p * p : Nat) : Int) = (p : Int) * p := Int.natCast_mul p p
      have hcase : decide ((p : Int) * p > n) = !Nat.ble (p * p) n := by
        rw [← epp]
        cases hb : Nat.ble (p * p) n with
        | true => have := Nat.le_of_ble_eq_true hb; simp; omega
        | false =>
          have : ¬ p * p ≤ n := fun h => by rw [Nat.ble_eq_true_of_le h] at hb; cases hb
          simp; omega
      refine T.seq ?_
      refine r1A ?_
      refine T.condT rfl k1 ?_
      refine T.skip ?_
      refine seqQ_n ?_
      refine T.seq ?_
      refine T.block ?_
      refine T.seqI (fun s1 => s1 = mkP [(0, .v (iV n)), (1, .fn 297 [(0, 0)]), (4, .v (iV ((bif Nat.ble (p * p) n then p else n : Nat) : Int)))] (LFn es.length es) 31 true [0, 1]) ?_ ?_
      · cases hb : Nat.ble (p * p) n with
        | true =>
          rw [hb] at hcase
          have hcase : decide ((p : Int) * p > n) = false := hcase
          refine goA ?_
          exact midQ_intro (by (refine Ent.mkP rfl rfl rfl rfl ?_ ?_ <;> (repeat (first | exact trivial | exact ⟨_, rfl, .inl ⟨rfl, ⟨_, rfl⟩, ⟨_, rfl⟩, trivial⟩⟩ | exact ⟨_, rfl, .inl ⟨rfl, ⟨_, rfl⟩, trivial⟩⟩ | refine And.intro ?_ ?_ | exact ⟨_, rfl, .inl ⟨rfl, trivial⟩⟩ | exact ⟨_, rfl, .inl ⟨rfl, _, rfl⟩⟩ | exact .inl ⟨rfl, trivial⟩ | exact .inl ⟨rfl, _, rfl⟩ | exact ⟨_, rfl, .inr (.inl ⟨rfl, rfl⟩)⟩ | exact .inr (.inl ⟨rfl, rfl⟩) | exact ⟨_, rfl, .inr (.inr (.inl ⟨_, _, _, _, _, rfl, rfl, by first | rfl | assumption | simp, rfl, rfl⟩))⟩ | exact .inr (.inr (.inl ⟨_, _, _, _, _, rfl, rfl, by first | rfl | assumption | simp, rfl, rfl⟩)) | exact ⟨_, rfl, .inr (.inr (.inr ⟨_, _, _, rfl, rfl, rfl, rfl⟩))⟩ | exact .inr (.inr (.inr ⟨_, _, _, rfl, rfl, rfl, rfl⟩)) | rfl)))) rfl
        | false =>
          rw [hb] at hcase
          have hcase : decide ((p : Int) * p > n) = true := hcase
          refine goA ?_
          exact midQ_intro (by (refine Ent.mkP rfl rfl rfl rfl ?_ ?_ <;> (repeat (first | exact trivial | exact ⟨_, rfl, .inl ⟨rfl, ⟨_, rfl⟩, ⟨_, rfl⟩, trivial⟩⟩ | exact ⟨_, rfl, .inl ⟨rfl, ⟨_, rfl⟩, trivial⟩⟩ | refine And.intro ?_ ?_ | exact ⟨_, rfl, .inl ⟨rfl, trivial⟩⟩ | exact ⟨_, rfl, .inl ⟨rfl, _, rfl⟩⟩ | exact .inl ⟨rfl, trivial⟩ | exact .inl ⟨rfl, _, rfl⟩ | exact ⟨_, rfl, .inr (.inl ⟨rfl, rfl⟩)⟩ | exact .inr (.inl ⟨rfl, rfl⟩) | exact ⟨_, rfl, .inr (.inr (.inl ⟨_, _, _, _, _, rfl, rfl, by first | rfl | assumption | simp, rfl, rfl⟩))⟩ | exact .inr (.inr (.inl ⟨_, _, _, _, _, rfl, rfl, by first | rfl | assumption | simp, rfl, rfl⟩)) | exact ⟨_, rfl, .inr (.inr (.inr ⟨_, _, _, rfl, rfl, rfl, rfl⟩))⟩ | exact .inr (.inr (.inr ⟨_, _, _, rfl, rfl, rfl, rfl⟩)) | rfl)))) rfl
      · rintro _ rfl
        clear hcase epp hpp
        generalize (bif Nat.ble (p * p) n then p else n) = q at *
        obtain ⟨hq2, hq3⟩ := hq2
        obtain ⟨g1, g2, g3⟩ := pull_eq 63 n q hn1
        have g0 : pull 63 n q = ((pull 63 n q).1, (pull 63 n q).2) := rfl
        have hpl : (pull 63 n q).1 = (pull 63 n q).1 ∧ (pull 63 n q).2 = (pull 63 n q).2 := ⟨rfl, rfl⟩
        rw [g0] at hF
        generalize hE : (pull 63 n q).1 = E at *
        generalize hM : (pull 63 n q).2 = M at *
        have hMn : M ≤ n := by rw [g1]; exact Nat.le_mul_of_pos_left _ (Nat.pow_pos (by omega))
        have ceach : es.length + 1 ≤ 1000000 → PCM true Tryz.prog 297 [.v (iV q), .v (iV E), .ptr 0 0] (LFn es.length es) true (.v (.tup [])) (LFn (es.length + 1) (es ++ [fP (q, E)])) := fun h => each2_p h
        refine goA ?_
        refine T.loop (fun kk s1 => ∃ n' e' : Nat, (pull kk n' q).1 + e' = E ∧ (pull kk n' q).2 = M ∧ 1 ≤ n' ∧ n' < 2 ^ kk ∧ n' ≤ n ∧ e' + kk ≤ 63 ∧ s1 = mkP [(0, .v (iV n')), (1, .fn 297 [(0, 0)]), (4, .v (iV q)), (5, .v (iV e'))] (LFn es.length es) 31 true [0, 1]) 63
          (s' := mkP [(0, .v (iV n)), (1, .fn 297 [(0, 0)]), (4, .v (iV q)), (5, .v (iV (0 : Nat)))] (LFn es.length es) 31 true [0, 1]) (by (refine Ent.mkP rfl rfl rfl rfl ?_ ?_ <;> (repeat (first | exact trivial | exact ⟨_, rfl, .inl ⟨rfl, ⟨_, rfl⟩, ⟨_, rfl⟩, trivial⟩⟩ | exact ⟨_, rfl, .inl ⟨rfl, ⟨_, rfl⟩, trivial⟩⟩ | refine And.intro ?_ ?_ | exact ⟨_, rfl, .inl ⟨rfl, trivial⟩⟩ | exact ⟨_, rfl, .inl ⟨rfl, _, rfl⟩⟩ | exact .inl ⟨rfl, trivial⟩ | exact .inl ⟨rfl, _, rfl⟩ | exact ⟨_, rfl, .inr (.inl ⟨rfl, rfl⟩)⟩ | exact .inr (.inl ⟨rfl, rfl⟩) | exact ⟨_, rfl, .inr (.inr (.inl ⟨_, _, _, _, _, rfl, rfl, by first | rfl | assumption | simp, rfl, rfl⟩))⟩ | exact .inr (.inr (.inl ⟨_, _, _, _, _, rfl, rfl, by first | rfl | assumption | simp, rfl, rfl⟩)) | exact ⟨_, rfl, .inr (.inr (.inr ⟨_, _, _, rfl, rfl, rfl, rfl⟩))⟩ | exact .inr (.inr (.inr ⟨_, _, _, rfl, rfl, rfl, rfl⟩)) | rfl)))) ⟨n, 0, by omega, hM, hn1, by omega, by omega, by omega, rfl⟩ ?_
        rintro kk _ ⟨n', e', i1, i2, i3, i4, i5, i6, rfl⟩
        cases kk with
        | zero => simp at i4; omega
        | succ kk =>
          unfold pull at i1 i2
          cases hb : Nat.beq (n' % q) 0 with
          | true =>
            rw [hb] at i1 i2
            simp only [cond_true] at i1 i2
            have hd := Nat.eq_of_beq_eq_true hb
            have k2 : ((n' : Int).tmod q == 0) = true := by show (((n' % q : Nat) : Int) == 0) = true; rw [hd]; rfl
            have e3 : n' = q * (n' / q) := by have := Nat.mod_add_div n' q; omega
            have h1 : 1 ≤ n' / q := by
              rcases Nat.eq_zero_or_pos (n' / q) with h0 | h0
              · rw [h0] at e3; omega
              · exact h0
            have h2 : n' / q ≤ n' := Nat.div_le_self _ _
            have h3 : n' / q < 2 ^ kk := by
              have h4 : 2 * (n' / q) ≤ q * (n' / q) := Nat.mul_le_mul_right _ hq2
              have h5 : 2 ^ (kk + 1) = 2 ^ kk * 2 := Nat.pow_succ ..
              omega
            have e4 : (n' : Int).tdiv q = ((n' / q : Nat) : Int) := rfl
            refine goA ?_
            refine evG ggA (ss_div (op := .rem) (InB_of rfl) rfl rfl (by omega) rfl) ?_
            refine goA ?_
            refine evG ggA (ss_div (InB_of rfl) rfl rfl (by omega) (w64 (by omega) (by omega))) ?_
            refine goA ?_
            exact loopQ_intro (k := kk) (s' := mkP [(0, .v (iV ((n' / q : Nat) : Int))), (1, .fn 297 [(0, 0)]), (4, .v (iV q)), (5, .v (iV ((e' + 1 : Nat) : Int)))] (LFn es.length es) 31 true [0, 1]) (by omega) (by (refine Ent.mkP rfl rfl rfl rfl ?_ ?_ <;> (repeat (first | exact trivial | exact ⟨_, rfl, .inl ⟨rfl, ⟨_, rfl⟩, ⟨_, rfl⟩, trivial⟩⟩ | exact ⟨_, rfl, .inl ⟨rfl, ⟨_, rfl⟩, trivial⟩⟩ | refine And.intro ?_ ?_ | exact ⟨_, rfl, .inl ⟨rfl, trivial⟩⟩ | exact ⟨_, rfl, .inl ⟨rfl, _, rfl⟩⟩ | exact .inl ⟨rfl, trivial⟩ | exact .inl ⟨rfl, _, rfl⟩ | exact ⟨_, rfl, .inr (.inl ⟨rfl, rfl⟩)⟩ | exact .inr (.inl ⟨rfl, rfl⟩) | exact ⟨_, rfl, .inr (.inr (.inl ⟨_, _, _, _, _, rfl, rfl, by first | rfl | assumption | simp, rfl, rfl⟩))⟩ | exact .inr (.inr (.inl ⟨_, _, _, _, _, rfl, rfl, by first | rfl | assumption | simp, rfl, rfl⟩)) | exact ⟨_, rfl, .inr (.inr (.inr ⟨_, _, _, rfl, rfl, rfl, rfl⟩))⟩ | exact .inr (.inr (.inr ⟨_, _, _, rfl, rfl, rfl, rfl⟩)) | rfl)))) ⟨n' / q, e' + 1, by omega, i2, h1, h3, by omega, by omega, rfl⟩
          | false =>
            rw [hb] at i1 i2
            simp only [cond_false, Nat.zero_add] at i1 i2
            subst i1 i2
            have k2 : ((n' : Int).tmod q == 0) = false := by
              show (((n' % q : Nat) : Int) == 0) = false
              have : n' % q ≠ 0 := fun h => by rw [h] at hb; cases hb
              simp; omega
            clear hE hM hpl g0
            refine goA ?_
            refine evG ggA (ss_div (op := .rem) (InB_of rfl) rfl rfl (by omega) rfl) ?_
            refine goA ?_
            cases e' with
            | zero =>
              have k3 : decide (((0 : Nat) : Int) > 0) = false := rfl
              refine goA ?_
              exact loopQ_intro (k := k) (s' := mkP [(0, .v (iV n')), (1, .fn 297 [(0, 0)]), (4, .v (iV ((q + 1 : Nat) : Int)))] (LFn es.length es) 31 true [0, 1]) (by omega) (by (refine Ent.mkP rfl rfl rfl rfl ?_ ?_ <;> (repeat (first | exact trivial | exact ⟨_, rfl, .inl ⟨rfl, ⟨_, rfl⟩, ⟨_, rfl⟩, trivial⟩⟩ | exact ⟨_, rfl, .inl ⟨rfl, ⟨_, rfl⟩, trivial⟩⟩ | refine And.intro ?_ ?_ | exact ⟨_, rfl, .inl ⟨rfl, trivial⟩⟩ | exact ⟨_, rfl, .inl ⟨rfl, _, rfl⟩⟩ | exact .inl ⟨rfl, trivial⟩ | exact .inl ⟨rfl, _, rfl⟩ | exact ⟨_, rfl, .inr (.inl ⟨rfl, rfl⟩)⟩ | exact .inr (.inl ⟨rfl, rfl⟩) | exact ⟨_, rfl, .inr (.inr (.inl ⟨_, _, _, _, _, rfl, rfl, by first | rfl | assumption | simp, rfl, rfl⟩))⟩ | exact .inr (.inr (.inl ⟨_, _, _, _, _, rfl, rfl, by first | rfl | assumption | simp, rfl, rfl⟩)) | exact ⟨_, rfl, .inr (.inr (.inr ⟨_, _, _, rfl, rfl, rfl, rfl⟩))⟩ | exact .inr (.inr (.inr ⟨_, _, _, rfl, rfl, rfl, rfl⟩)) | rfl)))) ⟨q + 1, n', es, hk, hF, i3, by omega, by omega, by omega, rfl⟩
            | succ e' =>
              have k3 : decide (((e' + 1 : Nat) : Int) > 0) = true := decide_eq_true (by omega)
              have hF : (es ++ [fP (q, e' + 1)]) ++ (facA k (q + 1) n').map fP = R := by rw [← hF, List.append_assoc]; rfl
              have hel : es.length + 1 ≤ 1000000 := by
                have := congrArg List.length hF
                rw [List.length_append, List.length_append] at this
                simp only [List.length_cons, List.length_nil] at this
                omega
              have ceach := ceach hel
              refine goA ?_
              refine evM (ms_callF [(0, 0), (1, 1)] ceach rfl rfl rfl rfl rfl rfl rfl ⟨rfl, rfl, trivial⟩ ⟨.inl rfl, .inl rfl, trivial⟩ ?_)
              refine goA ?_
              exact loopQ_intro (k := k) (s' := mkP [(0, .v (iV n')), (1, .fn 297 [(0, 0)]), (4, .v (iV ((q + 1 : Nat) : Int)))] (LFn (es.length + 1) (es ++ [fP (q, e' + 1)])) 31 true [0, 1]) (by omega) (by (refine Ent.mkP rfl rfl rfl rfl ?_ ?_ <;> (repeat (first | exact trivial | exact ⟨_, rfl, .inl ⟨rfl, ⟨_, rfl⟩, ⟨_, rfl⟩, trivial⟩⟩ | exact ⟨_, rfl, .inl ⟨rfl, ⟨_, rfl⟩, trivial⟩⟩ | refine And.intro ?_ ?_ | exact ⟨_, rfl, .inl ⟨rfl, trivial⟩⟩ | exact ⟨_, rfl, .inl ⟨rfl, _, rfl⟩⟩ | exact .inl ⟨rfl, trivial⟩ | exact .inl ⟨rfl, _, rfl⟩ | exact ⟨_, rfl, .inr (.inl ⟨rfl, rfl⟩)⟩ | exact .inr (.inl ⟨rfl, rfl⟩) | exact ⟨_, rfl, .inr (.inr (.inl ⟨_, _, _, _, _, rfl, rfl, by first | rfl | assumption | simp, rfl, rfl⟩))⟩ | exact .inr (.inr (.inl ⟨_, _, _, _, _, rfl, rfl, by first | rfl | assumption | simp, rfl, rfl⟩)) | exact ⟨_, rfl, .inr (.inr (.inr ⟨_, _, _, rfl, rfl, rfl, rfl⟩))⟩ | exact .inr (.inr (.inr ⟨_, _, _, rfl, rfl, rfl, rfl⟩)) | rfl)))) ⟨q + 1, n', _, hk, hF, i3, by omega, by omega, by omega, by rw [List.length_append]; rfl⟩
end Ab
namespace Ab
open Go Go.RowKit Go.Proofs Kr
set_option maxRecDepth 100000
theorem zero_pps : ZeroT Tryz.prog 225 [.slice none 0 0] := zeroT_of (v := .slice none 0 0) (by kernel_rfl) rfl
set_option maxHeartbeats 1000000 in
theorem factorP_p {n k : Nat} (hk : okA k 2 n = true) (h1 : 1 ≤ n) (h2 : n ≤ 2147483647) (hl : (facA k 2 n).length ≤ 1000000) : PC Tryz.prog 293 [iV n] (.tup [.sl ((facA k 2 n).map fP), iV 0]) := by
 have ci := inRange_p (n : Int)
 rw [decide_eq_true ⟨by omega, by omega⟩] at ci
 have cf := factors2_p (es := []) (R := (facA k 2 n).map fP) hk rfl h1 (by omega) (by rw [List.length_map]; exact hl)
 generalize (facA k 2 n).map fP = R at *
 refine pc_body2 true Tryz.func293 rfl rfl rfl (Nat.le_of_ble_eq_true rfl) CellT.tmp CellT.tmp ?_
 refine goA ?_
 refine evG ggA (ss_call (InB_of rfl) rfl rfl ci) ?_
 refine goA ?_
 refine evG ggA (ss_alloc_d (InB_of rfl) zero_pps rfl rfl rfl) ?_
 refine runA ?_
 refine ev_nil ?_
 (repeat (first | with_reducible refine seqQ_n ?_ | with_reducible refine seqQ_e ?_ | with_reducible refine seqQ_r ?_ | with_reducible refine blockQ_n ?_ | with_reducible refine blockQ_r ?_ | with_reducible refine blockQ_e rfl ?_ | with_reducible refine blockQ_o rfl ?_ | with_reducible refine loopQ_e ?_ | with_reducible refine loopQ_r ?_ | with_reducible refine midQ_e ?_ | with_reducible refine midQ_r ?_ | with_reducible refine roundQ_n ?_ | with_reducible refine roundQ_e ?_ | with_reducible refine roundQ_r ?_))
 refine T.weak (s' := mkS [(0, .v (iV n)), (4, .ptr 4 0)] [(4, .var [.own 100 0]), (100, .lst 2 228 [])] 12 true) (by exact entA) ?_
 refine T.seqI (fun s1 => s1 = mkS [(4, .ptr 4 0)] [(4, .var [.v (.sl R)])] 12 true) ?_ ?_
 ·refine goA ?_
  refine evG ggA (ss_makefn (cs := [(4, 0)]) (InB_of rfl) rfl) ?_
  refine evM (ms_call [(0, 4), (1, 100)] cf rfl rfl rfl rfl rfl rfl ⟨rfl, rfl, trivial⟩ ⟨.inl rfl, .inl rfl, trivial⟩ ?_)
  refine goA ?_
  exact midQ_intro (s' := mkS [(4, .ptr 4 0)] [(4, .var [.v (.sl R)])] 12 true) (by exact entA) rfl
 rintro _ rfl
 refine goA ?_
 exact rfl
end Ab
namespace Ab
open Go Go.RowKit Go.Proofs Kr
set_option maxRecDepth 100000
end Ab
