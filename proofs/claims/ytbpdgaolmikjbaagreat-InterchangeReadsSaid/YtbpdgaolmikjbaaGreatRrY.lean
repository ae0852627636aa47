/- The document's reader: expressions (printed by tools/gen_rr.py). The document's reader: the laws of its parts (printed by tools/gen_rr.py). The document's reader: what follows the definitions (printed by tools/gen_rr.py). -/
import Derived.Test.YtbpdgaolmikjbaaGreatRrX
import Derived.Test.YtbpdgaolmikjbaaGreatRdN
set_option linter.all false
namespace Ab
open Go Go.RowKit Go.Proofs Hp
set_option maxRecDepth 100000
set_option maxHeartbeats 4000000
theorem dexpr_no (l : List Nat) (b : Bool) : DC 117 [.v (iV ((0 : Nat) : Int))] PX.av l b zX l true := by
 intro B hs hB
 show PCM _ _ _ _ _ _ (.v (.agg ZXA)) _
 refine Zbz Tryz.func117 rfl rfl rfl (Nat.le_of_ble_eq_true rfl) (Za1 rfl) ?_
 refine goI ?_
 exact ⟨.inr rfl, rfl, rfl, by exact Zak⟩
theorem dexpr_w {k' : Nat} (hk : k' < 100) {l y1 y2 y3 y4 : List Nat} {b z1 z2 z3 z4 : Bool} {op : Int} {ns : List Int} {cf : BR} {nm : ByteArray} (s1 : ∃ j, y1 = l.drop j) (s2 : ∃ j, y2 = y1.drop j) (s3 : ∃ j, y3 = y2.drop j) (s4 : ∃ j, y4 = y3.drop j)
    (c1 : DC 81 [] iV l b op y1 z1) (c2 : DC 82 [] (fun vs : List Int => .sl (vs.map iV)) y1 z1 ns y2 z2) (c3 : DC 133 [] BR.av y2 z2 cf y3 z3) (c4 : DC 116 [] tV y3 z3 nm y4 z4)
    {g : List Nat → PX × List Nat × Bool} (hg : ∀ l, By l → l.length ≤ 1000000000 → DC 117 [.v (iV ((k' : Nat) : Int))] PX.av l false (g l).1 (g l).2.1 (g l).2.2 ∧ PX.ok (g l).1 ∧ ∃ j, (g l).2.1 = l.drop j) (n : Nat) (l1 : List Nat) (b1 : Bool) (hN : DC 80 [.v (iV 6)] (fun n : Nat => iV n) y4 z4 n l1 b1) (hsuf : ∃ j, l1 = y4.drop j) (hn : n ≤ l1.length) (hb : By l1) (hl : l1.length ≤ 1000000000) : DC 117 [.v (iV ((k' + 1 : Nat) : Int))] PX.av l b (.mk op ns cf nm (runL g n l1 b1).1) (runL g n l1 b1).2.1 (runL g n l1 b1).2.2 := by
  intro B hs hB
  have t1 := Zaj hs s1
  have t2 := Zaj t1 s2
  have t3 := Zaj t2 s3
  have t4 := Zaj t3 s4
  have hs1 := Zaj t4 hsuf
  have c1 := c1 B hs hB
  have c2 := c2 B t1 hB
  have c3 := c3 B t2 hB
  have c4 := c4 B t3 hB
  have hN := hN B t4 hB
  have hw : IntKind.i64.wrap (((k' + 1 : Nat) : Int) - 1) = ((k' : Nat) : Int) := by rw [w64 (by omega) (by omega)]; omega
  have dz : (((k' + 1 : Nat) : Int) == 0) = false := beq_eq_false_iff_ne.2 (by omega)
  obtain ⟨⟨g1, d1⟩, ⟨g2, d2⟩⟩ := cf
  rw [px_av]
  show PCM _ _ _ _ _ _ (.v (.agg [iV op, .sl (ns.map iV), boV g1, .sl (d1.map u32), boV g2, .sl (d2.map u32), tV nm, .sl (((runL g n l1 b1).1).map PX.av)])) _
  refine Zbz Tryz.func117 rfl rfl rfl (Nat.le_of_ble_eq_true rfl) (Za1 rfl) ?_
  refine goJ ?_
  refine mcA c1 ?_
  refine evG ggA (Zc1 (Zaa rfl) (Zb0 rfl) rfl rfl rfl) ?_
  refine goJ ?_
  refine mcA c2 ?_
  refine goJ ?_
  refine mcA c3 ?_
  refine goJ ?_
  refine mcA c4 ?_
  refine goJ ?_
  refine mcA hN ?_
  refine goJ ?_
  refine T.loop (fun N s1 => ∃ (m i : Nat) (vs : List PX) (q : List Nat) (c : Bool) (Q : List AV), m = N ∧ i + m = n ∧ i = vs.length ∧ Q = vs.map PX.av ∧ By q ∧ q.length ≤ 1000000000 ∧ (∃ j, q = B.drop j) ∧ runL g n l1 b1 = (vs ++ (runL g m q c).1, (runL g m q c).2) ∧ s1 = mkP [(0, .ptr 100 0), (1, .v (iV ((k' + 1 : Nat) : Int))), (4, .ptr 4 0), (5, .ptr 5 0), (6, .v (iV n)), (7, .v (iV i))] (DS B q c ++ [(4, .var ZXN), (5, .var [.v (iV op), .v (.sl (ns.map iV)), .v (boV g1), .v (.sl (d1.map u32)), .v (boV g2), .v (.sl (d2.map u32)), .v (tV nm), .own 102 i]), (102, .lst 8 59 Q)]) 50 true [100]) n
    (s' := mkP [(0, .ptr 100 0), (1, .v (iV ((k' + 1 : Nat) : Int))), (4, .ptr 4 0), (5, .ptr 5 0), (6, .v (iV n)), (7, .v (iV ((0 : Nat) : Int)))] (DS B l1 b1 ++ [(4, .var ZXN), (5, .var [.v (iV op), .v (.sl (ns.map iV)), .v (boV g1), .v (.sl (d1.map u32)), .v (boV g2), .v (.sl (d2.map u32)), .v (tV nm), .own 102 0]), (102, .lst 8 59 [])]) 50 true [100]) (by exact Zak) ⟨n, 0, [], l1, b1, [], rfl, by omega, rfl, rfl, hb, hl, hs1, rfl, rfl⟩ ?_
  rintro _ _ ⟨m, i, vs, q, c, Q, rfl, him, hi, hQ, hbq, hq, hsq, hr, rfl⟩
  by_cases hgo : 0 < m ∧ c = false
  · obtain ⟨hm, rfl⟩ := hgo
    obtain ⟨k, rfl⟩ : ∃ k, m = k + 1 := ⟨m - 1, by omega⟩
    have dd1 : decide ((i : Int) < (n : Int)) = true := decide_eq_true (by omega)
    obtain ⟨hc, ho, hd⟩ := hg q hbq hq
    have e1 : runL g (k + 1) q false = ((g q).1 :: (runL g k (g q).2.1 (g q).2.2).1, (runL g k (g q).2.1 (g q).2.2).2) := rfl
    rw [e1] at hr
    have hlen := Zaw hd
    have hby := hbq.of_drop hd
    have hsq2 := Zaj hsq hd
    clear e1 hg
    generalize (g q).1 = x at *
    generalize (g q).2.1 = q2 at *
    generalize (g q).2.2 = c2 at *
    have hli : Q.length = i := by rw [hQ, hi, List.length_map]
    have fin : runL g n l1 b1 = ((vs ++ [x]) ++ (runL g k q2 c2).1, (runL g k q2 c2).2) := by rw [hr, List.append_assoc]; rfl
    have hQ2 : Q ++ [PX.av x] = (vs ++ [x]).map PX.av := by rw [hQ, List.map_append]; rfl
    clear hr
    have fin2 : ∀ N s1, N = k → s1 = mkP [(0, .ptr 100 0), (1, .v (iV ((k' + 1 : Nat) : Int))), (4, .ptr 4 0), (5, .ptr 5 0), (6, .v (iV n)), (7, .v (iV (i + 1)))] (DS B q2 c2 ++ [(4, .var ZXN), (5, .var [.v (iV op), .v (.sl (ns.map iV)), .v (boV g1), .v (.sl (d1.map u32)), .v (boV g2), .v (.sl (d2.map u32)), .v (tV nm), .own 102 (i + 1)]), (102, .lst 8 59 (Q ++ [PX.av x]))]) 50 true [100] → ∃ (m i : Nat) (vs : List PX) (q : List Nat) (c : Bool) (Q : List AV), m = N ∧ i + m = n ∧ i = vs.length ∧ Q = vs.map PX.av ∧ By q ∧ q.length ≤ 1000000000 ∧ (∃ j, q = B.drop j) ∧ runL g n l1 b1 = (vs ++ (runL g m q c).1, (runL g m q c).2) ∧ s1 = mkP [(0, .ptr 100 0), (1, .v (iV ((k' + 1 : Nat) : Int))), (4, .ptr 4 0), (5, .ptr 5 0), (6, .v (iV n)), (7, .v (iV i))] (DS B q c ++ [(4, .var ZXN), (5, .var [.v (iV op), .v (.sl (ns.map iV)), .v (boV g1), .v (.sl (d1.map u32)), .v (boV g2), .v (.sl (d2.map u32)), .v (tV nm), .own 102 i]), (102, .lst 8 59 Q)]) 50 true [100] := fun N s1 hN hs => ⟨k, i + 1, vs ++ [x], q2, c2, Q ++ [PX.av x], hN.symm, by omega, by simp [hi], hQ2, hby, by omega, hsq2, fin, hs⟩
    have hin : i ≤ 1000000000 := by omega
    clear fin hQ2 ho hQ hi
    skip
    obtain ⟨op', ns', ⟨⟨ga', da'⟩, ⟨gb', db'⟩⟩, nm', gs'⟩ := x
    have hc : PCM false Tryz.prog 117 [.ptr 100 0, .v (iV ((k' : Nat) : Int))] (DS B q false) true (.v (PX.av ⟨op', ns', ⟨⟨ga', da'⟩, ⟨gb', db'⟩⟩, nm', gs'⟩)) (DS B q2 c2) := hc B hsq hB
    refine goJ ?_
    refine T.drawC mixed ?_
    refine Zal (Zai (Zaa rfl) (Zan rfl) rfl) rfl rfl ?_
    refine Zbc (Zah (Zaa rfl) (Za8 rfl) rfl rfl rfl) rfl ?_
    refine Zal (Zbj (Zaa rfl) rfl) rfl rfl ?_
    refine Zal (Zbj (Zaa rfl) rfl) rfl rfl ?_
    refine Zal (Zbk (Zaa rfl) rfl rfl hw) rfl rfl ?_
    refine Zbm [(100, 100)] hc rfl rfl rfl rfl rfl rfl rfl ⟨rfl, trivial⟩ ⟨.inl rfl, trivial⟩ ?_
    refine Zal (Zar (Zaa rfl) (Zaf rfl) rfl rfl rfl rfl (Zbo rfl rfl) (Nat.le_of_ble_eq_true rfl)) rfl rfl ?_
    refine Ze2 (Zbe (Zaa rfl) (Zaf rfl) rfl rfl hli rfl rfl (by decide) rfl (by omega) (Nat.le_of_ble_eq_true rfl) rfl) rfl rfl rfl (fun i h => h) ?_
    refine Zal (Zai (Zaa rfl) (Zan rfl) rfl) rfl rfl ?_
    refine Ze2 (Zbi rfl (Zcg rfl) rfl rfl rfl rfl rfl (Nat.le_of_ble_eq_true rfl) rfl) rfl rfl rfl (fun i h => h) ?_
    refine ⟨by kernel_rfl, ?_⟩
    refine goJ ?_
    exact Zad (k := k) (s' := mkP [(0, .ptr 100 0), (1, .v (iV ((k' + 1 : Nat) : Int))), (4, .ptr 4 0), (5, .ptr 5 0), (6, .v (iV n)), (7, .v (iV ((i : Int) + 1)))] (DS B q2 c2 ++ [(4, .var ZXN), (5, .var [.v (iV op), .v (.sl (ns.map iV)), .v (boV g1), .v (.sl (d1.map u32)), .v (boV g2), .v (.sl (d2.map u32)), .v (tV nm), .own 102 (i + 1)]), (102, .lst 8 59 (Q ++ [_]))]) 50 true [100]) (by omega) (by exact Zak) (fin2 _ _ rfl rfl)
  · have hend : runL g m q c = ([], q, c) := by
      cases c with
      | true => exact Zch g m q
      | false =>
        have : m = 0 := by
          rcases Nat.eq_zero_or_pos m with h | h
          · exact h
          · exact absurd ⟨h, rfl⟩ hgo
        subst this; rfl
    rw [hend, List.append_nil] at hr
    rw [hr]
    subst hQ hi
    have hli : (vs.map PX.av).length = vs.length := List.length_map ..
    clear hg hend
    by_cases hm : 0 < m
    · have hc : c = true := by
        cases c with
        | true => rfl
        | false => exact absurd ⟨hm, rfl⟩ hgo
      subst hc
      have dd1 : decide ((vs.length : Int) < (n : Int)) = true := decide_eq_true (by omega)
      refine T.seq ?_
      refine T.seq ?_
      refine T.region ?_
      refine runA ?_
      refine evG ggA (Zct (Zaa rfl) rfl) ?_
      refine runA ?_
      refine Zbs ?_
      refine Zbr ?_
      refine T.condF rfl (by first | rfl | assumption) ?_
      refine T.exit ?_
      refine osA ?_
      refine T.weak (s' := mkP [(4, .ptr 4 0), (5, .ptr 5 0)] (DS B q true ++ [(4, .var ZXN), (5, .var [.v (iV op), .v (.sl (ns.map iV)), .v (boV g1), .v (.sl (d1.map u32)), .v (boV g2), .v (.sl (d2.map u32)), .v (tV nm), .v (.sl (vs.map PX.av))])]) 50 true [100]) (by exact Zak) ?_
      refine goI ?_
      exact ⟨.inr rfl, rfl, rfl, by exact Zak⟩
    · have dd1 : decide ((vs.length : Int) < (n : Int)) = false := decide_eq_false (by omega)
      refine T.seq ?_
      refine T.seq ?_
      refine T.region ?_
      refine runA ?_
      refine Zbs ?_
      refine Zbr ?_
      refine T.condF rfl (by first | rfl | assumption) ?_
      refine T.exit ?_
      refine osA ?_
      refine T.weak (s' := mkP [(4, .ptr 4 0), (5, .ptr 5 0)] (DS B q c ++ [(4, .var ZXN), (5, .var [.v (iV op), .v (.sl (ns.map iV)), .v (boV g1), .v (.sl (d1.map u32)), .v (boV g2), .v (.sl (d2.map u32)), .v (tV nm), .v (.sl (vs.map PX.av))])]) 50 true [100]) (by exact Zak) ?_
      refine goI ?_
      exact ⟨.inr rfl, rfl, rfl, by exact Zak⟩
end Ab
namespace Ab
open Go Go.RowKit Go.Proofs Hp
set_option maxRecDepth 100000
set_option maxHeartbeats 4000000
theorem eX_six (w : PX) : 6 ≤ (eX w).length := by
 obtain ⟨op, ns, c, nm, gs⟩ := w
 rw [eX_mk]
 unfold eL eT
 simp only [List.length_append]
 have h1 := eI_one op
 have h2 := Zcu ns.length
 have h3 := eR_two c
 have h4 := Zcu nm.size
 have h5 := Zcu gs.length
 omega
theorem rd_dexpr : ∀ k : Nat, k ≤ 100 → Rd (DC 117 [.v (iV ((k : Nat) : Int))] PX.av) PX.ok eX PX.can (Zdr k) := by
  intro k
  induction k with
  | zero =>
    intro _
    exact ⟨fun l hl hn b => ⟨zX, l, true, dexpr_no l b, zX_ok, ⟨0, rfl⟩, fun _ => rfl, fun h => (by cases h), fun w tail _ hg => (goodX_zero hg).elim⟩, eX_pos⟩
  | succ k ih =>
    intro hk
    have hx := Zax (Zco Zdc) (Zax (Zco rd_dints) (Zax (Zco rd_drat) (Zax (Zco rd_dtext) (Zfa 6 (ih (by omega)) eX_six (Zf4 6 (by omega) (by omega))))))
    refine ⟨fun l hl hn b => ?_, eX_pos⟩
    obtain ⟨⟨op, ns, c, nm, gs⟩, l', b', ⟨y1, z1, ⟨s1, c1⟩, y2, z2, ⟨s2, c2⟩, y3, z3, ⟨s3, c3⟩, y4, z4, ⟨s4, c4⟩, g, n, l5, b5, hg, hN, hnl, hsuf, hrun⟩, ⟨o1, o2, o3, o4, o5⟩, d, m, s, r⟩ := hx.law l hl hn b
    have hd5 := Zaj (Zaj (Zaj (Zaj s1 s2) s3) s4) hsuf
    have := Zaw hd5
    have hw := dexpr_w (by omega) s1 s2 s3 s4 c1 c2 c3 c4 hg n l5 b5 hN hsuf hnl (hl.of_drop hd5) (by omega)
    rw [hrun] at hw
    refine ⟨.mk op ns c nm gs, l', b', hw, ⟨o1, o2, o3, o4, (PX.oks_iff gs).2 o5.1, o5.2⟩, d, m, fun h => ?_, fun w tail wo wg hb he => ?_⟩
    · obtain ⟨s1, s2⟩ := s h
      refine ⟨s1, ?_⟩
      rw [PX.can, PX.cans_map, eX_mk]
      have s2 : (eI op ++ (eL eI (ns.map id) ++ (eR c.can ++ (eT nm ++ eL eX (gs.map PX.can))))).length ≤ _ := s2
      rw [List.map_id] at s2
      exact s2
    · obtain ⟨op', ns', c', nm', gs'⟩ := w
      rw [eX_mk] at he
      obtain ⟨w1, w2, w3, w4, w5, w6⟩ := wo
      obtain ⟨e1, e2, e3⟩ := r (op', ns', c', nm', gs') tail ⟨w1, w2, w3, w4, (PX.oks_iff gs').1 w5, w6⟩ ⟨trivial, fun _ _ => trivial, trivial, trivial, goodX_args wg⟩ hb he
      injection e1 with f1 e1
      injection e1 with f2 e1
      injection e1 with f3 e1
      injection e1 with f4 f5
      subst f1 f2 f3 f4 f5
      exact ⟨rfl, e2, e3⟩
theorem rd_dexpr0 : Rd (DC 117 [.v (iV 100)] PX.av) PX.ok eX PX.can (Zdr 100) := rd_dexpr 100 (Nat.le_refl _)
def CB (l : List Nat) (b : Bool) (v : PB) (l' : List Nat) (b' : Bool) : Prop := ∃ l1 b1, ((∃ j, l1 = l.drop j) ∧ DC 116 [] tV l b v.nm l1 b1) ∧ (DC 117 [.v (iV 100)] PX.av) l1 b1 v.e l' b'
theorem rd_dbind : Rd CB PB.ok eD PB.can (fun w => Zdr 100 w.e) :=
 Zfl (Zax (Zco rd_dtext) rd_dexpr0) (fun p => ⟨p.1, p.2⟩) (fun w => (w.nm, w.e)) (fun w => rfl) (fun v h => h) (fun w h => h) (fun w h => ⟨trivial, h⟩) (fun w => rfl) (fun v _ => Nat.le_refl _) (fun l b v l' b' _ _ _ _ _ h => h)
theorem eD_seven (w : PB) : 7 ≤ (eD w).length := by
 have h1 := eX_six w.e
 have h2 := Zcu w.nm.size
 show 7 ≤ (eT w.nm ++ eX w.e).length
 unfold eT
 rw [List.length_append, List.length_append]
 omega
theorem d_lBind {g : List Nat → PB × List Nat × Bool} (hg : ∀ l, By l → l.length ≤ 1000000000 → CB l false (g l).1 (g l).2.1 (g l).2.2 ∧ PB.ok (g l).1 ∧ ∃ j, (g l).2.1 = l.drop j) (l : List Nat) (b : Bool) (n : Nat) (l1 : List Nat) (b1 : Bool) (hN : DC 80 [.v (iV 7)] (fun n : Nat => iV n) l b n l1 b1) (hsuf : ∃ j, l1 = l.drop j) (hn : n ≤ l1.length) (hb : By l1) (hl : l1.length ≤ 1000000000) : DC 83 [] (fun vs : List PB => .sl (vs.map PB.av)) l b (runL g n l1 b1).1 (runL g n l1 b1).2.1 (runL g n l1 b1).2.2 := by
  intro B hs hB
  have hs1 := Zaj hs hsuf
  have hN := hN B hs hB
  refine Zay Tryz.func83 rfl rfl rfl (Nat.le_of_ble_eq_true rfl) ?_
  refine goI ?_
  refine mcA hN ?_
  refine goI ?_
  refine T.loop (fun N s1 => ∃ (m i : Nat) (vs : List PB) (q : List Nat) (c : Bool) (Q : List AV), m = N ∧ i + m = n ∧ i = vs.length ∧ Q = vs.map PB.av ∧ By q ∧ q.length ≤ 1000000000 ∧ (∃ j, q = B.drop j) ∧ runL g n l1 b1 = (vs ++ (runL g m q c).1, (runL g m q c).2) ∧ s1 = mkP [(0, .ptr 100 0), (3, .own 102 i), (4, .v (iV n)), (5, .v (iV i))] (DS B q c ++ [(102, .lst 9 61 Q)]) 31 true [100]) n
    (s' := mkP [(0, .ptr 100 0), (3, .own 102 0), (4, .v (iV n)), (5, .v (iV ((0 : Nat) : Int)))] (DS B l1 b1 ++ [(102, .lst 9 61 [])]) 31 true [100]) (by exact Zak) ⟨n, 0, [], l1, b1, [], rfl, by omega, rfl, rfl, hb, hl, hs1, rfl, rfl⟩ ?_
  rintro _ _ ⟨m, i, vs, q, c, Q, rfl, him, hi, hQ, hbq, hq, hsq, hr, rfl⟩
  by_cases hgo : 0 < m ∧ c = false
  · obtain ⟨hm, rfl⟩ := hgo
    obtain ⟨k, rfl⟩ : ∃ k, m = k + 1 := ⟨m - 1, by omega⟩
    have dd1 : decide ((i : Int) < (n : Int)) = true := decide_eq_true (by omega)
    obtain ⟨hc, ho, hd⟩ := hg q hbq hq
    have e1 : runL g (k + 1) q false = ((g q).1 :: (runL g k (g q).2.1 (g q).2.2).1, (runL g k (g q).2.1 (g q).2.2).2) := rfl
    rw [e1] at hr
    have hlen := Zaw hd
    have hby := hbq.of_drop hd
    have hsq2 := Zaj hsq hd
    clear e1 hg
    generalize (g q).1 = x at *
    generalize (g q).2.1 = q2 at *
    generalize (g q).2.2 = c2 at *
    have hli : Q.length = i := by rw [hQ, hi, List.length_map]
    have fin : runL g n l1 b1 = ((vs ++ [x]) ++ (runL g k q2 c2).1, (runL g k q2 c2).2) := by rw [hr, List.append_assoc]; rfl
    have hQ2 : Q ++ [PB.av x] = (vs ++ [x]).map PB.av := by rw [hQ, List.map_append]; rfl
    clear hr
    have fin2 : ∀ N s1, N = k → s1 = mkP [(0, .ptr 100 0), (3, .own 102 (i + 1)), (4, .v (iV n)), (5, .v (iV (i + 1)))] (DS B q2 c2 ++ [(102, .lst 9 61 (Q ++ [PB.av x]))]) 31 true [100] → ∃ (m i : Nat) (vs : List PB) (q : List Nat) (c : Bool) (Q : List AV), m = N ∧ i + m = n ∧ i = vs.length ∧ Q = vs.map PB.av ∧ By q ∧ q.length ≤ 1000000000 ∧ (∃ j, q = B.drop j) ∧ runL g n l1 b1 = (vs ++ (runL g m q c).1, (runL g m q c).2) ∧ s1 = mkP [(0, .ptr 100 0), (3, .own 102 i), (4, .v (iV n)), (5, .v (iV i))] (DS B q c ++ [(102, .lst 9 61 Q)]) 31 true [100] := fun N s1 hN hs => ⟨k, i + 1, vs ++ [x], q2, c2, Q ++ [PB.av x], hN.symm, by omega, by simp [hi], hQ2, hby, by omega, hsq2, fin, hs⟩
    have hin : i ≤ 1000000000 := by omega
    clear fin hQ2 ho hQ hi
    skip
    obtain ⟨nb, ⟨op, ns, ⟨⟨ga, da⟩, ⟨gb, db⟩⟩, nm, gs⟩⟩ := x
    obtain ⟨y, z, ⟨sy, h1⟩, h2⟩ := hc
    have h1 := h1 B hsq hB
    have h2 := h2 B (Zaj hsq sy) hB
    refine goJ ?_
    refine mcA h1 ?_
    refine goJ ?_
    refine mcA h2 ?_
    refine goJ ?_
    refine evG ggA (Zar (Zaa rfl) (Zaf rfl) rfl rfl rfl rfl (Zbo rfl rfl) (Nat.le_of_ble_eq_true rfl)) ?_
    refine evG ggA (Zbe (Zaa rfl) (Zaf rfl) rfl rfl hli rfl rfl (by decide) rfl (by omega) (Nat.le_of_ble_eq_true rfl) rfl) ?_
    refine goJ ?_
    exact Zad (k := k) (s' := mkP [(0, .ptr 100 0), (3, .own 102 (i + 1)), (4, .v (iV n)), (5, .v (iV ((i : Int) + 1)))] (DS B q2 c2 ++ [(102, .lst 9 61 (Q ++ [_]))]) 31 true [100]) (by omega) (by exact Zak) (fin2 _ _ rfl rfl)
  · have hend : runL g m q c = ([], q, c) := by
      cases c with
      | true => exact Zch g m q
      | false =>
        have : m = 0 := by
          rcases Nat.eq_zero_or_pos m with h | h
          · exact h
          · exact absurd ⟨h, rfl⟩ hgo
        subst this; rfl
    rw [hend, List.append_nil] at hr
    rw [hr]
    subst hQ hi
    have hli : (vs.map PB.av).length = vs.length := List.length_map ..
    clear hg hend
    by_cases hm : 0 < m
    · have hc : c = true := by
        cases c with
        | true => rfl
        | false => exact absurd ⟨hm, rfl⟩ hgo
      subst hc
      have dd1 : decide ((vs.length : Int) < (n : Int)) = true := decide_eq_true (by omega)
      refine goI ?_
      exact ⟨.inr rfl, by exact Zak⟩
    · have dd1 : decide ((vs.length : Int) < (n : Int)) = false := decide_eq_false (by omega)
      refine goI ?_
      exact ⟨.inr rfl, by exact Zak⟩
theorem rd_ddefs : Rd (DC 83 [] (fun vs : List PB => .sl (vs.map PB.av))) (fun vs => (∀ v, v ∈ vs → v.ok) ∧ vs.length ≤ 1000000000) (eL eD) (fun vs => vs.map PB.can) (fun vs => ∀ v, v ∈ vs → Zdr 100 v.e) := rd_dlist (K := 7) (by omega) (by omega) rd_dbind eD_seven fun g hg l b n l1 b1 hN hs hn hb hl => d_lBind hg l b n l1 b1 hN hs hn hb hl
def CZ (l : List Nat) (b : Bool) (v : PZ) (l' : List Nat) (b' : Bool) : Prop := ∃ l1 b1, ((∃ j, l1 = l.drop j) ∧ (DC 117 [.v (iV 100)] PX.av) l b v.a l1 b1) ∧ ∃ l2 b2, ((∃ j, l2 = l1.drop j) ∧ (DC 117 [.v (iV 100)] PX.av) l1 b1 v.b l2 b2) ∧ ∃ l3 b3, ((∃ j, l3 = l2.drop j) ∧ (DC 83 [] (fun vs : List PB => .sl (vs.map PB.av))) l2 b2 v.ds l3 b3) ∧ ∃ l4 b4, ((∃ j, l4 = l3.drop j) ∧ (DC 118 [] PK.av) l3 b3 v.k l4 b4) ∧ ∃ l5 b5, ((∃ j, l5 = l4.drop j) ∧ (DC 81 [] iV) l4 b4 v.bo l5 b5) ∧ (DC 114 [] PS.av) l5 b5 v.c l' b'
def CF (l : List Nat) (b : Bool) (v : PF) (l' : List Nat) (b' : Bool) : Prop := ∃ l1 b1, ((∃ j, l1 = l.drop j) ∧ (DC 81 [] iV) l b v.l l1 b1) ∧ ∃ l2 b2, ((∃ j, l2 = l1.drop j) ∧ (DC 81 [] iV) l1 b1 v.w l2 b2) ∧ ∃ l3 b3, ((∃ j, l3 = l2.drop j) ∧ (DC 81 [] iV) l2 b2 v.d l3 b3) ∧ ∃ l4 b4, ((∃ j, l4 = l3.drop j) ∧ (DC 81 [] iV) l3 b3 v.pr l4 b4) ∧ (DC 79 [] (fun vs : List PS => .sl (vs.map PS.av))) l4 b4 v.b l' b'
def CM (l : List Nat) (b : Bool) (v : PM) (l' : List Nat) (b' : Bool) : Prop := ∃ l1 b1, ((∃ j, l1 = l.drop j) ∧ (DC 81 [] iV) l b v.r l1 b1) ∧ ∃ l2 b2, ((∃ j, l2 = l1.drop j) ∧ (DC 81 [] iV) l1 b1 v.c l2 b2) ∧ (DC 119 [] (fun vs : List BR => .sl (vs.map BR.av))) l2 b2 v.a l' b'
def CE (l : List Nat) (b : Bool) (v : PE) (l' : List Nat) (b' : Bool) : Prop := ∃ l1 b1, ((∃ j, l1 = l.drop j) ∧ (DC 81 [] iV) l b v.l l1 b1) ∧ (DC 82 [] (fun vs : List Int => .sl (vs.map iV))) l1 b1 v.e l' b'
theorem rd_dcert : Rd CZ PZ.ok eC PZ.can (fun w => Zdr 100 w.a ∧ Zdr 100 w.b ∧ ∀ v, v ∈ w.ds → Zdr 100 v.e) :=
 Zfl (Zax (Zco rd_dexpr0) (Zax (Zco rd_dexpr0) (Zax (Zco rd_ddefs) (Zax (Zco rd_dkind) (Zax (Zco Zdc) rd_dseries))))) (fun p => ⟨p.1, p.2.1, p.2.2.1, p.2.2.2.1, p.2.2.2.2.1, p.2.2.2.2.2⟩) (fun w => (w.a, w.b, w.ds, w.k, w.bo, w.c)) (fun w => rfl) (fun v h => h) (fun w h => h) (fun w h => ⟨h.1, h.2.1, h.2.2, trivial, trivial, trivial⟩) (fun w => rfl) (fun v _ => Nat.le_refl _) (fun l b v l' b' _ _ _ _ _ h => h)
theorem rd_dspace : Rd CF PF.ok eF PF.can (fun _ => True) :=
 Zfl (Zax (Zco Zdc) (Zax (Zco Zdc) (Zax (Zco Zdc) (Zax (Zco Zdc) rd_dsers)))) (fun p => ⟨p.1, p.2.1, p.2.2.1, p.2.2.2.1, p.2.2.2.2⟩) (fun w => (w.l, w.w, w.d, w.pr, w.b)) (fun w => rfl) (fun v h => h) (fun w h => h) (fun w h => ⟨trivial, trivial, trivial, trivial, fun _ _ => trivial⟩) (fun w => rfl) (fun v _ => Nat.le_refl _) (fun l b v l' b' _ _ _ _ _ h => h)
theorem rd_dmat : Rd CM PM.ok eM PM.can (fun _ => True) :=
 Zfl (Zax (Zco Zdc) (Zax (Zco Zdc) rd_drats)) (fun p => ⟨p.1, p.2.1, p.2.2⟩) (fun w => (w.r, w.c, w.a)) (fun w => by cases w; rfl) (fun v h => h) (fun w h => h) (fun w h => ⟨trivial, trivial, fun _ _ => trivial⟩) (fun w => rfl) (fun v _ => Nat.le_refl _) (fun l b v l' b' _ _ _ _ _ h => h)
theorem rd_deta : Rd CE PE.ok eE id (fun _ => True) :=
 Zfl (Zax (Zco Zdc) rd_dints) (fun p => ⟨p.1, p.2⟩) (fun w => (w.l, w.e)) (fun w => by cases w; rfl) (fun v h => h) (fun w h => h) (fun w h => ⟨trivial, fun _ _ => trivial⟩) (fun w => rfl) (fun v _ => by rw [List.map_id]; exact Nat.le_refl _) (fun l b v l' b' _ _ _ _ _ h => h)
theorem eE_two (w : PE) : 2 ≤ (eE w).length := by
 have h1 := eI_one w.l
 have h2 := Zcu w.e.length
 show 2 ≤ (eI w.l ++ (eN w.e.length ++ _)).length
 rw [List.length_append, List.length_append]; omega
end Ab
namespace Ab
open Go Go.RowKit Go.Proofs Hp
set_option maxRecDepth 100000
set_option maxHeartbeats 4000000
theorem drest_w {B l m1 m2 m3 : List Nat} {b d1 d2 d3 : Bool} {ce : List PZ} {sp : List PF} {ma : List PM} {a0 a1 a2 : AV} (s0 : ∃ j, l = B.drop j) (hB : B.length ≤ 1000000000) (hby0 : By l) (hl0 : l.length ≤ 1000000000) (u1 : ∃ j, m1 = l.drop j) (u2 : ∃ j, m2 = m1.drop j)
    (k1 : LD CZ (DC 80 [.v (iV 1)] (fun n : Nat => iV n)) PZ.ok l b ce m1 d1) (k2 : LD CF (DC 80 [.v (iV 1)] (fun n : Nat => iV n)) PF.ok m1 d1 sp m2 d2) (k3 : LD CM (DC 80 [.v (iV 1)] (fun n : Nat => iV n)) PM.ok m2 d2 ma m3 d3) : PCM false Tryz.prog 84 [.ptr 100 0, .ptr 110 0] (DS B l b ++ [(110, .var [.v a0, .v a1, .v a2, .v (.p nilV), .v (.p nilV), .v (.p nilV)])]) true (.v (.tup [])) (DS B m3 d3 ++ [(110, .var [.v a0, .v a1, .v a2, .v (.sl (ce.map PZ.av)), .v (.sl (sp.map PF.av)), .v (.sl (ma.map PM.av))])]) := by
  have s1 := Zaj s0 u1
  have s2 := Zaj s1 u2
  have hby1 := hby0.of_drop u1
  have hby2 := hby1.of_drop u2
  have hl1 : m1.length ≤ 1000000000 := by have := Zaw u1; omega
  have hl2 : m2.length ≤ 1000000000 := by have := Zaw u2; omega
  refine Zbl Tryz.func84 rfl rfl rfl (Nat.le_of_ble_eq_true rfl) ?_
  obtain ⟨g, n, l1, b1, hg, hN, hn, hsuf, hrun⟩ := k1
  have hs1 := Zaj s0 hsuf
  have hb : By l1 := hby0.of_drop hsuf
  have hl : l1.length ≤ 1000000000 := by have := Zaw hsuf; omega
  have hN := hN B s0 hB
  refine goJ ?_
  refine mcA hN ?_
  refine runA ?_
  refine Zbs ?_
  refine Zbr ?_
  refine T.seqI (fun s1 => s1 = mkP [(0, .ptr 100 0), (1, .ptr 110 0)] (DS B m1 d1 ++ [(110, .var [.v a0, .v a1, .v a2, .v (.sl (ce.map PZ.av)), .v (.p nilV), .v (.p nilV)])]) 128 true [100, 110]) ?_ ?_
  · clear k2 k3
    refine goJ ?_
    refine T.loop (fun N s1 => ∃ (m i : Nat) (vs : List PZ) (q : List Nat) (c : Bool) (Q : List AV), m = N ∧ i + m = n ∧ i = vs.length ∧ Q = vs.map PZ.av ∧ By q ∧ q.length ≤ 1000000000 ∧ (∃ j, q = B.drop j) ∧ runL g n l1 b1 = (vs ++ (runL g m q c).1, (runL g m q c).2) ∧ s1 = mkP [(0, .ptr 100 0), (1, .ptr 110 0), (4, .v (iV n)), (5, .v (iV i))] (DS B q c ++ [(110, .var [.v a0, .v a1, .v a2, .own 102 i, .v (.p nilV), .v (.p nilV)]), (102, .lst 25 75 Q)]) 128 true [100, 110]) n
      (s' := mkP [(0, .ptr 100 0), (1, .ptr 110 0), (4, .v (iV n)), (5, .v (iV ((0 : Nat) : Int)))] (DS B l1 b1 ++ [(110, .var [.v a0, .v a1, .v a2, .own 102 0, .v (.p nilV), .v (.p nilV)]), (102, .lst 25 75 [])]) 128 true [100, 110]) (by exact Zak) ⟨n, 0, [], l1, b1, [], rfl, by omega, rfl, rfl, hb, hl, hs1, rfl, rfl⟩ ?_
    rintro _ _ ⟨m, i, vs, q, c, Q, rfl, him, hi, hQ, hbq, hq, hsq, hr, rfl⟩
    by_cases hgo : 0 < m ∧ c = false
    · obtain ⟨hm, rfl⟩ := hgo
      obtain ⟨k, rfl⟩ : ∃ k, m = k + 1 := ⟨m - 1, by omega⟩
      have dd1 : decide ((i : Int) < (n : Int)) = true := decide_eq_true (by omega)
      obtain ⟨hc, ho, hd⟩ := hg q hbq hq
      have e1 : runL g (k + 1) q false = ((g q).1 :: (runL g k (g q).2.1 (g q).2.2).1, (runL g k (g q).2.1 (g q).2.2).2) := rfl
      rw [e1] at hr
      have hlen := Zaw hd
      have hby := hbq.of_drop hd
      have hsq2 := Zaj hsq hd
      clear e1 hg
      generalize (g q).1 = x at *
      generalize (g q).2.1 = q2 at *
      generalize (g q).2.2 = c2 at *
      have hli : Q.length = i := by rw [hQ, hi, List.length_map]
      have fin : runL g n l1 b1 = ((vs ++ [x]) ++ (runL g k q2 c2).1, (runL g k q2 c2).2) := by rw [hr, List.append_assoc]; rfl
      have hQ2 : Q ++ [PZ.av x] = (vs ++ [x]).map PZ.av := by rw [hQ, List.map_append]; rfl
      clear hr
      have fin2 : ∀ N s1, N = k → s1 = mkP [(0, .ptr 100 0), (1, .ptr 110 0), (4, .v (iV n)), (5, .v (iV (i + 1)))] (DS B q2 c2 ++ [(110, .var [.v a0, .v a1, .v a2, .own 102 (i + 1), .v (.p nilV), .v (.p nilV)]), (102, .lst 25 75 (Q ++ [PZ.av x]))]) 128 true [100, 110] → ∃ (m i : Nat) (vs : List PZ) (q : List Nat) (c : Bool) (Q : List AV), m = N ∧ i + m = n ∧ i = vs.length ∧ Q = vs.map PZ.av ∧ By q ∧ q.length ≤ 1000000000 ∧ (∃ j, q = B.drop j) ∧ runL g n l1 b1 = (vs ++ (runL g m q c).1, (runL g m q c).2) ∧ s1 = mkP [(0, .ptr 100 0), (1, .ptr 110 0), (4, .v (iV n)), (5, .v (iV i))] (DS B q c ++ [(110, .var [.v a0, .v a1, .v a2, .own 102 i, .v (.p nilV), .v (.p nilV)]), (102, .lst 25 75 Q)]) 128 true [100, 110] := fun N s1 hN hs => ⟨k, i + 1, vs ++ [x], q2, c2, Q ++ [PZ.av x], hN.symm, by omega, by simp [hi], hQ2, hby, by omega, hsq2, fin, hs⟩
      have hin : i ≤ 1000000000 := by omega
      clear fin hQ2 ho hQ hi
      skip
      obtain ⟨⟨op1, ns1, ⟨⟨ga1, da1⟩, ⟨gb1, db1⟩⟩, nm1, gs1⟩, ⟨op2, ns2, ⟨⟨ga2, da2⟩, ⟨gb2, db2⟩⟩, nm2, gs2⟩, ds, ⟨f1, f2, f3, f4, cu⟩, bo, ⟨f, cs⟩⟩ := x
      obtain ⟨y1, z1, ⟨t1, h1⟩, y2, z2, ⟨t2, h2⟩, y3, z3, ⟨t3, h3⟩, y4, z4, ⟨t4, h4⟩, y5, z5, ⟨t5, h5⟩, h6⟩ := hc
      have w0 := hsq
      have w1 := Zaj w0 t1
      have w2 := Zaj w1 t2
      have w3 := Zaj w2 t3
      have w4 := Zaj w3 t4
      have w5 := Zaj w4 t5
      have h1 := h1 B w0 hB
      have h2 := h2 B w1 hB
      have h3 := h3 B w2 hB
      have h4 := h4 B w3 hB
      have h5 := h5 B w4 hB
      have h6 := h6 B w5 hB
      refine goJ ?_
      refine mcA h1 ?_
      refine goJ ?_
      refine mcA h2 ?_
      refine goJ ?_
      refine mcA h3 ?_
      refine goJ ?_
      refine mcA h4 ?_
      refine goJ ?_
      refine mcA h5 ?_
      refine goJ ?_
      refine mcA h6 ?_
      refine goJ ?_
      refine T.drawC mixed ?_
      refine Zal (Zbj (Zaa rfl) rfl) rfl rfl ?_
      refine Zal (Zbj (Zaa rfl) rfl) rfl rfl ?_
      refine Zal (Zct (Zaa rfl) rfl) rfl rfl ?_
      refine Zal (Zai (Zaa rfl) (Zan rfl) rfl) rfl rfl ?_
      refine Zbc (Zah (Zaa rfl) (Za8 rfl) rfl rfl rfl) rfl ?_
      refine Zbc (Zba (Zaa rfl) (Za1 rfl) rfl rfl rfl rfl) rfl ?_
      refine Zal (Zar (Zaa rfl) (Zaf rfl) rfl rfl rfl rfl (Zbo rfl rfl) (Nat.le_of_ble_eq_true rfl)) rfl rfl ?_
      refine Ze2 (Zbe (Zaa rfl) (Zaf rfl) rfl rfl hli rfl rfl (by decide) rfl (by omega) (Nat.le_of_ble_eq_true rfl) rfl) rfl rfl rfl (fun i h => h) ?_
      refine Zal (Zct (Zaa rfl) rfl) rfl rfl ?_
      refine Zal (Zai (Zaa rfl) (Zan rfl) rfl) rfl rfl ?_
      refine Ze2 (Zbi rfl (Zcg rfl) rfl rfl rfl rfl rfl (Nat.le_of_ble_eq_true rfl) rfl) rfl rfl rfl (fun i h => h) ?_
      refine ⟨by kernel_rfl, ?_⟩
      refine goJ ?_
      exact Zad (k := k) (s' := mkP [(0, .ptr 100 0), (1, .ptr 110 0), (4, .v (iV n)), (5, .v (iV ((i : Int) + 1)))] (DS B q2 c2 ++ [(110, .var [.v a0, .v a1, .v a2, .own 102 (i + 1), .v (.p nilV), .v (.p nilV)]), (102, .lst 25 75 (Q ++ [_]))]) 128 true [100, 110]) (by omega) (by exact Zak) (fin2 _ _ rfl rfl)
    · have hend : runL g m q c = ([], q, c) := by
        cases c with
        | true => exact Zch g m q
        | false =>
          have : m = 0 := by
            rcases Nat.eq_zero_or_pos m with h | h
            · exact h
            · exact absurd ⟨h, rfl⟩ hgo
          subst this; rfl
      rw [hend, List.append_nil] at hr
      rw [hr]
      subst hQ hi
      have hli : (vs.map PZ.av).length = vs.length := List.length_map ..
      clear hg hend
      by_cases hm : 0 < m
      · have hc : c = true := by
          cases c with
          | true => rfl
          | false => exact absurd ⟨hm, rfl⟩ hgo
        subst hc
        have dd1 : decide ((vs.length : Int) < (n : Int)) = true := decide_eq_true (by omega)
        rw [hrun] at hr
        injection hr with e1 e2
        injection e2 with e2 e3
        subst e1 e2
        subst e3
        refine T.seq ?_
        refine T.seq ?_
        refine T.region ?_
        refine runA ?_
        refine evG ggA (Zct (Zaa rfl) rfl) ?_
        refine runA ?_
        refine Zbs ?_
        refine Zbr ?_
        refine T.condF rfl (by first | rfl | assumption) ?_
        refine T.exit ?_
        refine osA ?_
        exact Zao (s' := mkP [(0, .ptr 100 0), (1, .ptr 110 0)] (DS B m1 true ++ [(110, .var [.v a0, .v a1, .v a2, .v (.sl (ce.map PZ.av)), .v (.p nilV), .v (.p nilV)])]) 128 true [100, 110]) (by exact Zak) rfl
      · have dd1 : decide ((vs.length : Int) < (n : Int)) = false := decide_eq_false (by omega)
        rw [hrun] at hr
        injection hr with e1 e2
        injection e2 with e2 e3
        subst e1 e2
        subst e3
        refine T.seq ?_
        refine T.seq ?_
        refine T.region ?_
        refine runA ?_
        refine Zbs ?_
        refine Zbr ?_
        refine T.condF rfl (by first | rfl | assumption) ?_
        refine T.exit ?_
        refine osA ?_
        exact Zao (s' := mkP [(0, .ptr 100 0), (1, .ptr 110 0)] (DS B m1 d1 ++ [(110, .var [.v a0, .v a1, .v a2, .v (.sl (ce.map PZ.av)), .v (.p nilV), .v (.p nilV)])]) 128 true [100, 110]) (by exact Zak) rfl
  clear hg hN hrun hb hl hs1 hsuf hn
  rintro _ rfl
  obtain ⟨g, n, l1, b1, hg, hN, hn, hsuf, hrun⟩ := k2
  have hs1 := Zaj s1 hsuf
  have hb : By l1 := hby1.of_drop hsuf
  have hl : l1.length ≤ 1000000000 := by have := Zaw hsuf; omega
  have hN := hN B s1 hB
  refine goJ ?_
  refine mcA hN ?_
  refine runA ?_
  refine Zbs ?_
  refine Zbr ?_
  refine T.seqI (fun s1 => s1 = mkP [(0, .ptr 100 0), (1, .ptr 110 0)] (DS B m2 d2 ++ [(110, .var [.v a0, .v a1, .v a2, .v (.sl (ce.map PZ.av)), .v (.sl (sp.map PF.av)), .v (.p nilV)])]) 128 true [100, 110]) ?_ ?_
  · clear k3
    refine goJ ?_
    refine T.loop (fun N s1 => ∃ (m i : Nat) (vs : List PF) (q : List Nat) (c : Bool) (Q : List AV), m = N ∧ i + m = n ∧ i = vs.length ∧ Q = vs.map PF.av ∧ By q ∧ q.length ≤ 1000000000 ∧ (∃ j, q = B.drop j) ∧ runL g n l1 b1 = (vs ++ (runL g m q c).1, (runL g m q c).2) ∧ s1 = mkP [(0, .ptr 100 0), (1, .ptr 110 0), (4, .v (iV n)), (7, .v (iV i))] (DS B q c ++ [(110, .var [.v a0, .v a1, .v a2, .v (.sl (ce.map PZ.av)), .own 102 i, .v (.p nilV)]), (102, .lst 5 71 Q)]) 128 true [100, 110]) n
      (s' := mkP [(0, .ptr 100 0), (1, .ptr 110 0), (4, .v (iV n)), (7, .v (iV ((0 : Nat) : Int)))] (DS B l1 b1 ++ [(110, .var [.v a0, .v a1, .v a2, .v (.sl (ce.map PZ.av)), .own 102 0, .v (.p nilV)]), (102, .lst 5 71 [])]) 128 true [100, 110]) (by exact Zak) ⟨n, 0, [], l1, b1, [], rfl, by omega, rfl, rfl, hb, hl, hs1, rfl, rfl⟩ ?_
    rintro _ _ ⟨m, i, vs, q, c, Q, rfl, him, hi, hQ, hbq, hq, hsq, hr, rfl⟩
    by_cases hgo : 0 < m ∧ c = false
    · obtain ⟨hm, rfl⟩ := hgo
      obtain ⟨k, rfl⟩ : ∃ k, m = k + 1 := ⟨m - 1, by omega⟩
      have dd1 : decide ((i : Int) < (n : Int)) = true := decide_eq_true (by omega)
      obtain ⟨hc, ho, hd⟩ := hg q hbq hq
      have e1 : runL g (k + 1) q false = ((g q).1 :: (runL g k (g q).2.1 (g q).2.2).1, (runL g k (g q).2.1 (g q).2.2).2) := rfl
      rw [e1] at hr
      have hlen := Zaw hd
      have hby := hbq.of_drop hd
      have hsq2 := Zaj hsq hd
      clear e1 hg
      generalize (g q).1 = x at *
      generalize (g q).2.1 = q2 at *
      generalize (g q).2.2 = c2 at *
      have hli : Q.length = i := by rw [hQ, hi, List.length_map]
      have fin : runL g n l1 b1 = ((vs ++ [x]) ++ (runL g k q2 c2).1, (runL g k q2 c2).2) := by rw [hr, List.append_assoc]; rfl
      have hQ2 : Q ++ [PF.av x] = (vs ++ [x]).map PF.av := by rw [hQ, List.map_append]; rfl
      clear hr
      have fin2 : ∀ N s1, N = k → s1 = mkP [(0, .ptr 100 0), (1, .ptr 110 0), (4, .v (iV n)), (7, .v (iV (i + 1)))] (DS B q2 c2 ++ [(110, .var [.v a0, .v a1, .v a2, .v (.sl (ce.map PZ.av)), .own 102 (i + 1), .v (.p nilV)]), (102, .lst 5 71 (Q ++ [PF.av x]))]) 128 true [100, 110] → ∃ (m i : Nat) (vs : List PF) (q : List Nat) (c : Bool) (Q : List AV), m = N ∧ i + m = n ∧ i = vs.length ∧ Q = vs.map PF.av ∧ By q ∧ q.length ≤ 1000000000 ∧ (∃ j, q = B.drop j) ∧ runL g n l1 b1 = (vs ++ (runL g m q c).1, (runL g m q c).2) ∧ s1 = mkP [(0, .ptr 100 0), (1, .ptr 110 0), (4, .v (iV n)), (7, .v (iV i))] (DS B q c ++ [(110, .var [.v a0, .v a1, .v a2, .v (.sl (ce.map PZ.av)), .own 102 i, .v (.p nilV)]), (102, .lst 5 71 Q)]) 128 true [100, 110] := fun N s1 hN hs => ⟨k, i + 1, vs ++ [x], q2, c2, Q ++ [PF.av x], hN.symm, by omega, by simp [hi], hQ2, hby, by omega, hsq2, fin, hs⟩
      have hin : i ≤ 1000000000 := by omega
      clear fin hQ2 ho hQ hi
      skip
      obtain ⟨f1, f2, f3, f4, fb⟩ := x
      obtain ⟨y1, z1, ⟨t1, h1⟩, y2, z2, ⟨t2, h2⟩, y3, z3, ⟨t3, h3⟩, y4, z4, ⟨t4, h4⟩, h5⟩ := hc
      have w0 := hsq
      have w1 := Zaj w0 t1
      have w2 := Zaj w1 t2
      have w3 := Zaj w2 t3
      have w4 := Zaj w3 t4
      have h1 := h1 B w0 hB
      have h2 := h2 B w1 hB
      have h3 := h3 B w2 hB
      have h4 := h4 B w3 hB
      have h5 := h5 B w4 hB
      refine goJ ?_
      refine mcA h1 ?_
      refine goJ ?_
      refine mcA h2 ?_
      refine goJ ?_
      refine mcA h3 ?_
      refine goJ ?_
      refine mcA h4 ?_
      refine goJ ?_
      refine mcA h5 ?_
      refine goJ ?_
      refine T.drawC mixed ?_
      refine Zal (Zbj (Zaa rfl) rfl) rfl rfl ?_
      refine Zal (Zbj (Zaa rfl) rfl) rfl rfl ?_
      refine Zal (Zct (Zaa rfl) rfl) rfl rfl ?_
      refine Zal (Zai (Zaa rfl) (Zan rfl) rfl) rfl rfl ?_
      refine Zbc (Zah (Zaa rfl) (Za8 rfl) rfl rfl rfl) rfl ?_
      refine Zbc (Zba (Zaa rfl) (Za1 rfl) rfl rfl rfl rfl) rfl ?_
      refine Zal (Zar (Zaa rfl) (Zaf rfl) rfl rfl rfl rfl (Zbo rfl rfl) (Nat.le_of_ble_eq_true rfl)) rfl rfl ?_
      refine Ze2 (Zbe (Zaa rfl) (Zaf rfl) rfl rfl hli rfl rfl (by decide) rfl (by omega) (Nat.le_of_ble_eq_true rfl) rfl) rfl rfl rfl (fun i h => h) ?_
      refine Zal (Zct (Zaa rfl) rfl) rfl rfl ?_
      refine Zal (Zai (Zaa rfl) (Zan rfl) rfl) rfl rfl ?_
      refine Ze2 (Zbi rfl (Zcg rfl) rfl rfl rfl rfl rfl (Nat.le_of_ble_eq_true rfl) rfl) rfl rfl rfl (fun i h => h) ?_
      refine ⟨by kernel_rfl, ?_⟩
      refine goJ ?_
      exact Zad (k := k) (s' := mkP [(0, .ptr 100 0), (1, .ptr 110 0), (4, .v (iV n)), (7, .v (iV ((i : Int) + 1)))] (DS B q2 c2 ++ [(110, .var [.v a0, .v a1, .v a2, .v (.sl (ce.map PZ.av)), .own 102 (i + 1), .v (.p nilV)]), (102, .lst 5 71 (Q ++ [_]))]) 128 true [100, 110]) (by omega) (by exact Zak) (fin2 _ _ rfl rfl)
    · have hend : runL g m q c = ([], q, c) := by
        cases c with
        | true => exact Zch g m q
        | false =>
          have : m = 0 := by
            rcases Nat.eq_zero_or_pos m with h | h
            · exact h
            · exact absurd ⟨h, rfl⟩ hgo
          subst this; rfl
      rw [hend, List.append_nil] at hr
      rw [hr]
      subst hQ hi
      have hli : (vs.map PF.av).length = vs.length := List.length_map ..
      clear hg hend
      by_cases hm : 0 < m
      · have hc : c = true := by
          cases c with
          | true => rfl
          | false => exact absurd ⟨hm, rfl⟩ hgo
        subst hc
        have dd1 : decide ((vs.length : Int) < (n : Int)) = true := decide_eq_true (by omega)
        rw [hrun] at hr
        injection hr with e1 e2
        injection e2 with e2 e3
        subst e1 e2
        subst e3
        refine T.seq ?_
        refine T.seq ?_
        refine T.region ?_
        refine runA ?_
        refine evG ggA (Zct (Zaa rfl) rfl) ?_
        refine runA ?_
        refine Zbs ?_
        refine Zbr ?_
        refine T.condF rfl (by first | rfl | assumption) ?_
        refine T.exit ?_
        refine osA ?_
        exact Zao (s' := mkP [(0, .ptr 100 0), (1, .ptr 110 0)] (DS B m2 true ++ [(110, .var [.v a0, .v a1, .v a2, .v (.sl (ce.map PZ.av)), .v (.sl (sp.map PF.av)), .v (.p nilV)])]) 128 true [100, 110]) (by exact Zak) rfl
      · have dd1 : decide ((vs.length : Int) < (n : Int)) = false := decide_eq_false (by omega)
        rw [hrun] at hr
        injection hr with e1 e2
        injection e2 with e2 e3
        subst e1 e2
        subst e3
        refine T.seq ?_
        refine T.seq ?_
        refine T.region ?_
        refine runA ?_
        refine Zbs ?_
        refine Zbr ?_
        refine T.condF rfl (by first | rfl | assumption) ?_
        refine T.exit ?_
        refine osA ?_
        exact Zao (s' := mkP [(0, .ptr 100 0), (1, .ptr 110 0)] (DS B m2 d2 ++ [(110, .var [.v a0, .v a1, .v a2, .v (.sl (ce.map PZ.av)), .v (.sl (sp.map PF.av)), .v (.p nilV)])]) 128 true [100, 110]) (by exact Zak) rfl
  clear hg hN hrun hb hl hs1 hsuf hn
  rintro _ rfl
  obtain ⟨g, n, l1, b1, hg, hN, hn, hsuf, hrun⟩ := k3
  have hs1 := Zaj s2 hsuf
  have hb : By l1 := hby2.of_drop hsuf
  have hl : l1.length ≤ 1000000000 := by have := Zaw hsuf; omega
  have hN := hN B s2 hB
  refine goJ ?_
  refine mcA hN ?_
  refine goJ ?_
  refine T.loop (fun N s1 => ∃ (m i : Nat) (vs : List PM) (q : List Nat) (c : Bool) (Q : List AV), m = N ∧ i + m = n ∧ i = vs.length ∧ Q = vs.map PM.av ∧ By q ∧ q.length ≤ 1000000000 ∧ (∃ j, q = B.drop j) ∧ runL g n l1 b1 = (vs ++ (runL g m q c).1, (runL g m q c).2) ∧ s1 = mkP [(0, .ptr 100 0), (1, .ptr 110 0), (4, .v (iV n)), (9, .v (iV i))] (DS B q c ++ [(110, .var [.v a0, .v a1, .v a2, .v (.sl (ce.map PZ.av)), .v (.sl (sp.map PF.av)), .own 102 i]), (102, .lst 3 63 Q)]) 128 true [100, 110]) n
    (s' := mkP [(0, .ptr 100 0), (1, .ptr 110 0), (4, .v (iV n)), (9, .v (iV ((0 : Nat) : Int)))] (DS B l1 b1 ++ [(110, .var [.v a0, .v a1, .v a2, .v (.sl (ce.map PZ.av)), .v (.sl (sp.map PF.av)), .own 102 0]), (102, .lst 3 63 [])]) 128 true [100, 110]) (by exact Zak) ⟨n, 0, [], l1, b1, [], rfl, by omega, rfl, rfl, hb, hl, hs1, rfl, rfl⟩ ?_
  rintro _ _ ⟨m, i, vs, q, c, Q, rfl, him, hi, hQ, hbq, hq, hsq, hr, rfl⟩
  by_cases hgo : 0 < m ∧ c = false
  · obtain ⟨hm, rfl⟩ := hgo
    obtain ⟨k, rfl⟩ : ∃ k, m = k + 1 := ⟨m - 1, by omega⟩
    have dd1 : decide ((i : Int) < (n : Int)) = true := decide_eq_true (by omega)
    obtain ⟨hc, ho, hd⟩ := hg q hbq hq
    have e1 : runL g (k + 1) q false = ((g q).1 :: (runL g k (g q).2.1 (g q).2.2).1, (runL g k (g q).2.1 (g q).2.2).2) := rfl
    rw [e1] at hr
    have hlen := Zaw hd
    have hby := hbq.of_drop hd
    have hsq2 := Zaj hsq hd
    clear e1 hg
    generalize (g q).1 = x at *
    generalize (g q).2.1 = q2 at *
    generalize (g q).2.2 = c2 at *
    have hli : Q.length = i := by rw [hQ, hi, List.length_map]
    have fin : runL g n l1 b1 = ((vs ++ [x]) ++ (runL g k q2 c2).1, (runL g k q2 c2).2) := by rw [hr, List.append_assoc]; rfl
    have hQ2 : Q ++ [PM.av x] = (vs ++ [x]).map PM.av := by rw [hQ, List.map_append]; rfl
    clear hr
    have fin2 : ∀ N s1, N = k → s1 = mkP [(0, .ptr 100 0), (1, .ptr 110 0), (4, .v (iV n)), (9, .v (iV (i + 1)))] (DS B q2 c2 ++ [(110, .var [.v a0, .v a1, .v a2, .v (.sl (ce.map PZ.av)), .v (.sl (sp.map PF.av)), .own 102 (i + 1)]), (102, .lst 3 63 (Q ++ [PM.av x]))]) 128 true [100, 110] → ∃ (m i : Nat) (vs : List PM) (q : List Nat) (c : Bool) (Q : List AV), m = N ∧ i + m = n ∧ i = vs.length ∧ Q = vs.map PM.av ∧ By q ∧ q.length ≤ 1000000000 ∧ (∃ j, q = B.drop j) ∧ runL g n l1 b1 = (vs ++ (runL g m q c).1, (runL g m q c).2) ∧ s1 = mkP [(0, .ptr 100 0), (1, .ptr 110 0), (4, .v (iV n)), (9, .v (iV i))] (DS B q c ++ [(110, .var [.v a0, .v a1, .v a2, .v (.sl (ce.map PZ.av)), .v (.sl (sp.map PF.av)), .own 102 i]), (102, .lst 3 63 Q)]) 128 true [100, 110] := fun N s1 hN hs => ⟨k, i + 1, vs ++ [x], q2, c2, Q ++ [PM.av x], hN.symm, by omega, by simp [hi], hQ2, hby, by omega, hsq2, fin, hs⟩
    have hin : i ≤ 1000000000 := by omega
    clear fin hQ2 ho hQ hi
    skip
    obtain ⟨mr, mc, ma'⟩ := x
    obtain ⟨y1, z1, ⟨t1, h1⟩, y2, z2, ⟨t2, h2⟩, h3⟩ := hc
    have w0 := hsq
    have w1 := Zaj w0 t1
    have w2 := Zaj w1 t2
    have h1 := h1 B w0 hB
    have h2 := h2 B w1 hB
    have h3 := h3 B w2 hB
    refine goJ ?_
    refine mcA h1 ?_
    refine goJ ?_
    refine mcA h2 ?_
    refine goJ ?_
    refine mcA h3 ?_
    refine goJ ?_
    refine T.drawC mixed ?_
    refine Zal (Zbj (Zaa rfl) rfl) rfl rfl ?_
    refine Zal (Zbj (Zaa rfl) rfl) rfl rfl ?_
    refine Zal (Zct (Zaa rfl) rfl) rfl rfl ?_
    refine Zal (Zai (Zaa rfl) (Zan rfl) rfl) rfl rfl ?_
    refine Zbc (Zah (Zaa rfl) (Za8 rfl) rfl rfl rfl) rfl ?_
    refine Zbc (Zba (Zaa rfl) (Za1 rfl) rfl rfl rfl rfl) rfl ?_
    refine Zal (Zar (Zaa rfl) (Zaf rfl) rfl rfl rfl rfl (Zbo rfl rfl) (Nat.le_of_ble_eq_true rfl)) rfl rfl ?_
    refine Ze2 (Zbe (Zaa rfl) (Zaf rfl) rfl rfl hli rfl rfl (by decide) rfl (by omega) (Nat.le_of_ble_eq_true rfl) rfl) rfl rfl rfl (fun i h => h) ?_
    refine Zal (Zct (Zaa rfl) rfl) rfl rfl ?_
    refine Zal (Zai (Zaa rfl) (Zan rfl) rfl) rfl rfl ?_
    refine Ze2 (Zbi rfl (Zcg rfl) rfl rfl rfl rfl rfl (Nat.le_of_ble_eq_true rfl) rfl) rfl rfl rfl (fun i h => h) ?_
    refine ⟨by kernel_rfl, ?_⟩
    refine goJ ?_
    exact Zad (k := k) (s' := mkP [(0, .ptr 100 0), (1, .ptr 110 0), (4, .v (iV n)), (9, .v (iV ((i : Int) + 1)))] (DS B q2 c2 ++ [(110, .var [.v a0, .v a1, .v a2, .v (.sl (ce.map PZ.av)), .v (.sl (sp.map PF.av)), .own 102 (i + 1)]), (102, .lst 3 63 (Q ++ [_]))]) 128 true [100, 110]) (by omega) (by exact Zak) (fin2 _ _ rfl rfl)
  · have hend : runL g m q c = ([], q, c) := by
      cases c with
      | true => exact Zch g m q
      | false =>
        have : m = 0 := by
          rcases Nat.eq_zero_or_pos m with h | h
          · exact h
          · exact absurd ⟨h, rfl⟩ hgo
        subst this; rfl
    rw [hend, List.append_nil] at hr
    rw [hr]
    subst hQ hi
    have hli : (vs.map PM.av).length = vs.length := List.length_map ..
    clear hg hend
    by_cases hm : 0 < m
    · have hc : c = true := by
        cases c with
        | true => rfl
        | false => exact absurd ⟨hm, rfl⟩ hgo
      subst hc
      have dd1 : decide ((vs.length : Int) < (n : Int)) = true := decide_eq_true (by omega)
      rw [hrun] at hr
      injection hr with e1 e2
      injection e2 with e2 e3
      subst e1 e2
      subst e3
      refine goJ ?_
      exact ⟨.inl rfl, by exact Zak⟩
    · have dd1 : decide ((vs.length : Int) < (n : Int)) = false := decide_eq_false (by omega)
      rw [hrun] at hr
      injection hr with e1 e2
      injection e2 with e2 e3
      subst e1 e2
      subst e3
      refine goJ ?_
      exact ⟨.inl rfl, by exact Zak⟩
end Ab
