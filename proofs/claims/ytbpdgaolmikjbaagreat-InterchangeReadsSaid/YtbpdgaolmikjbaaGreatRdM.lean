/- Expressions read: the deferred closure counts the levels down. -/
import Derived.Test.YtbpdgaolmikjbaaGreatRdL
import Derived.Test.YtbpdgaolmikjbaaGreatDfr
import Derived.Test.YtbpdgaolmikjbaaGreatEnP
set_option linter.all false
namespace Ab
open Go Go.RowKit Go.Proofs Hp
set_option maxRecDepth 100000
set_option maxHeartbeats 4000000
def zX : PX := .mk 0 [] ⟨⟨false, []⟩, ⟨false, []⟩⟩ ByteArray.empty []
abbrev ZXN : List TV := [.v (iV 0), .v (.p nilV), .v (boV false), .v (.p nilV), .v (boV false), .v (.p nilV), .v (tV ByteArray.empty), .v (.p nilV)]
abbrev ZXS : List TV := [.v (iV 0), .v (.sl []), .v (boV false), .v (.sl []), .v (boV false), .v (.sl []), .v (tV ByteArray.empty), .v (.sl [])]
abbrev ZXA : List AV := [iV 0, .sl [], boV false, .sl [], boV false, .sl [], tV ByteArray.empty, .sl []]
theorem Zcx : OneT Tryz.prog 121 := Zca (by kernel_rfl)
abbrev RB (l : List Nat) (b : Bool) (lv : Int) : Nat × Blk := (100, .var [.v (.sl (l.map nV)), .v (boV b), .v (iV lv)])
theorem expr_no {l : List Nat} {b : Bool} {lv : Int} (h0 : 0 ≤ lv) (h1 : lv ≤ 100) (h : b = true ∨ lv = 100) : PCM false Tryz.prog 112 [.ptr 100 0] (RR l b lv) true (.v (.agg ZXA)) (RR l true lv) := by
 have e : lv + 1 - 1 = lv := by omega
 suffices g : PCM false Tryz.prog 112 [.ptr 100 0] (RR l b lv) true (.v (.agg ZXA)) (RR l true (lv + 1 - 1)) by rw [e] at g; exact g
 refine pc_bodyD (S1 := [(100, 100), (1, 1), (2, 2)]) (Sc := [(100, 100), (1, 1)]) (T1 := [(1, .ptr 1 0), (2, .ptr 2 0)]) (L1 := [RB l b (lv + 1), (1, .var [.ptr 100 0]), (2, .var ZXN)]) (L2 := [RB l true (lv + 1), (1, .var [.ptr 100 0]), (2, .var ZXS)]) (Lc := [RB l true (lv + 1), (1, .var [.ptr 100 0])]) (Lc' := [RB l true (lv + 1 - 1), (1, .var [.ptr 100 0])]) (L3 := [RB l true (lv + 1 - 1), (1, .var [.ptr 100 0]), (2, .var ZXS)]) (sr := 2) (sb := 1)
  Tryz.func112 rfl rfl rfl (Nat.le_of_ble_eq_true rfl) (Za1 rfl) rfl Tryz.func131 rfl rfl rfl (Nat.le_of_ble_eq_true rfl) (Nat.le_of_ble_eq_true rfl) rfl ?_ rfl ⟨rfl, rfl, rfl, trivial⟩ ⟨.inl rfl, .inl rfl, .inl rfl, trivial⟩ ⟨⟨rfl, rfl, rfl⟩, ⟨rfl, rfl, rfl⟩, trivial⟩ ?_ rfl ⟨rfl, rfl, trivial⟩ ⟨.inl rfl, .inl rfl, trivial⟩ rfl rfl ?_ (by exact Zak) rfl (by exact Zak)
 ·refine goI ?_
  refine ⟨rfl, ?_⟩
  refine goI ?_
  refine evG ggA (Zah (Zaa rfl) Zcx rfl rfl rfl) ?_
  refine goI ?_
  exact ⟨rfl, by exact Zak⟩
 ·by_cases hl : lv = 100
  ·have t1 : decide (lv + 1 > 100) = true := decide_eq_true (by omega)
   refine goJ ?_
   refine evG ggA (Zah (Zaa rfl) Zcx rfl rfl rfl) ?_
   refine goJ ?_
   refine evG ggA (Zah (Zaa rfl) Zcx rfl rfl rfl) ?_
   refine goJ ?_
   refine evG ggA (Zah (Zaa rfl) Zcx rfl rfl rfl) ?_
   refine goJ ?_
   exact ⟨.inr rfl, by exact Zak⟩
  ·have t1 : decide (lv + 1 > 100) = false := decide_eq_false (by omega)
   obtain rfl : b = true := by
    rcases h with h | h
    ·exact h
    ·exact absurd h hl
   refine goJ ?_
   refine evG ggA (Zah (Zaa rfl) Zcx rfl rfl rfl) ?_
   refine goJ ?_
   refine evG ggA (Zah (Zaa rfl) Zcx rfl rfl rfl) ?_
   refine goJ ?_
   exact ⟨.inr rfl, by exact Zak⟩
 ·refine goI ?_
  refine evG ggA (Zah (Zaa rfl) Zcx rfl rfl rfl) ?_
  refine goI ?_
  exact ⟨.inl rfl, by exact Zak⟩
theorem expr_ok {l l1 l2 l3 l4 l5 : List Nat} {b1 b2 b3 b4 b5 : Bool} {lv : Int} {op : Int} {ns : List Int} {c : BR} {nm : ByteArray} {gs : List PX} (h0 : 0 ≤ lv) (h1 : lv < 100)
  (c1 : PCM false Tryz.prog 107 [.ptr 100 0] (RR l false (lv + 1)) true (.v (iV op)) (RR l1 b1 (lv + 1)))
  (c2 : PCM false Tryz.prog 110 [.ptr 100 0, .bm 107 100 0] (RR l1 b1 (lv + 1)) true (.v (.sl (ns.map iV))) (RR l2 b2 (lv + 1)))
  (c3 : PCM false Tryz.prog 109 [.ptr 100 0] (RR l2 b2 (lv + 1)) true (.v c.av) (RR l3 b3 (lv + 1)))
  (c4 : PCM false Tryz.prog 111 [.ptr 100 0] (RR l3 b3 (lv + 1)) true (.v (tV nm)) (RR l4 b4 (lv + 1)))
  (c5 : PCM false Tryz.prog 132 [.ptr 100 0, .bm 112 100 0] (RR l4 b4 (lv + 1)) true (.v (.sl (gs.map PX.av))) (RR l5 b5 (lv + 1))) :
  PCM false Tryz.prog 112 [.ptr 100 0] (RR l false lv) true (.v (PX.av (.mk op ns c nm gs))) (RR l5 b5 lv) := by
 have e : lv + 1 - 1 = lv := by omega
 obtain ⟨⟨g1, d1⟩, ⟨g2, d2⟩⟩ := c
 suffices g : PCM false Tryz.prog 112 [.ptr 100 0] (RR l false lv) true (.v (.agg [iV op, .sl (ns.map iV), boV g1, .sl (d1.map u32), boV g2, .sl (d2.map u32), tV nm, .sl (gs.map PX.av)])) (RR l5 b5 (lv + 1 - 1)) by
  rw [e] at g
  rw [px_av]
  exact g
 refine pc_bodyD (S1 := [(100, 100), (1, 1), (2, 2)]) (Sc := [(100, 100), (1, 1)]) (T1 := [(1, .ptr 1 0), (2, .ptr 2 0)]) (L1 := [RB l false (lv + 1), (1, .var [.ptr 100 0]), (2, .var ZXN)]) (L2 := [RB l5 b5 (lv + 1), (1, .var [.ptr 100 0]), (2, .var [.v (iV op), .v (.sl (ns.map iV)), .v (boV g1), .v (.sl (d1.map u32)), .v (boV g2), .v (.sl (d2.map u32)), .v (tV nm), .v (.sl (gs.map PX.av))])]) (Lc := [RB l5 b5 (lv + 1), (1, .var [.ptr 100 0])]) (Lc' := [RB l5 b5 (lv + 1 - 1), (1, .var [.ptr 100 0])]) (L3 := [RB l5 b5 (lv + 1 - 1), (1, .var [.ptr 100 0]), (2, .var [.v (iV op), .v (.sl (ns.map iV)), .v (boV g1), .v (.sl (d1.map u32)), .v (boV g2), .v (.sl (d2.map u32)), .v (tV nm), .v (.sl (gs.map PX.av))])]) (sr := 2) (sb := 1)
  Tryz.func112 rfl rfl rfl (Nat.le_of_ble_eq_true rfl) (Za1 rfl) rfl Tryz.func131 rfl rfl rfl (Nat.le_of_ble_eq_true rfl) (Nat.le_of_ble_eq_true rfl) rfl ?_ rfl ⟨rfl, rfl, rfl, trivial⟩ ⟨.inl rfl, .inl rfl, .inl rfl, trivial⟩ ⟨⟨rfl, rfl, rfl⟩, ⟨rfl, rfl, rfl⟩, trivial⟩ ?_ rfl ⟨rfl, rfl, trivial⟩ ⟨.inl rfl, .inl rfl, trivial⟩ rfl rfl ?_ (by exact Zak) rfl (by exact Zak)
 ·refine goI ?_
  refine ⟨rfl, ?_⟩
  refine goI ?_
  refine evG ggA (Zah (Zaa rfl) Zcx rfl rfl rfl) ?_
  refine goI ?_
  exact ⟨rfl, by exact Zak⟩
 ·have t1 : decide (lv + 1 > 100) = false := decide_eq_false (by omega)
  refine goJ ?_
  refine evG ggA (Zah (Zaa rfl) Zcx rfl rfl rfl) ?_
  refine goJ ?_
  refine evG ggA (Zah (Zaa rfl) Zcx rfl rfl rfl) ?_
  refine goJ ?_
  refine T.drawC mixed ?_
  refine Zbc (Zah (Zaa rfl) Zcx rfl rfl rfl) rfl ?_
  refine Zbm [(100, 100)] c1 rfl rfl rfl rfl rfl rfl rfl ⟨rfl, trivial⟩ ⟨.inl rfl, trivial⟩ ?_
  refine Zbc (Zah (Zaa rfl) Zcx rfl rfl rfl) rfl ?_
  refine Zbc (Zah (Zaa rfl) Zcx rfl rfl rfl) rfl ?_
  refine Zal (ss_makebm (Zaa rfl) rfl) rfl rfl ?_
  refine Zbm [(100, 100)] c2 rfl rfl rfl rfl rfl rfl rfl ⟨rfl, trivial⟩ ⟨.inl rfl, trivial⟩ ?_
  refine Zbc (Zah (Zaa rfl) Zcx rfl rfl rfl) rfl ?_
  refine Zbm [(100, 100)] c3 rfl rfl rfl rfl rfl rfl rfl ⟨rfl, trivial⟩ ⟨.inl rfl, trivial⟩ ?_
  refine Zbc (Zah (Zaa rfl) Zcx rfl rfl rfl) rfl ?_
  refine Zbm [(100, 100)] c4 rfl rfl rfl rfl rfl rfl rfl ⟨rfl, trivial⟩ ⟨.inl rfl, trivial⟩ ?_
  refine Zal (Zdv (Zaa rfl) (Zb0 rfl) rfl rfl rfl) rfl rfl ?_
  refine ec_new (Zcv (Zaa rfl) (Zd7 rfl) rfl rfl rfl) rfl rfl ?_
  refine Ze2 (Zbi rfl (Zcg rfl) rfl rfl rfl rfl rfl (Nat.le_of_ble_eq_true rfl) rfl) rfl rfl rfl (fun i h => h) ?_
  refine ⟨by kernel_rfl, ?_⟩
  refine goJ ?_
  refine evG ggA (Zah (Zaa rfl) Zcx rfl rfl rfl) ?_
  refine evG ggA (Zah (Zaa rfl) Zcx rfl rfl rfl) ?_
  refine goJ ?_
  refine mcA c5 ?_
  refine goJ ?_
  exact ⟨.inr rfl, by exact Zak⟩
 ·refine goI ?_
  refine evG ggA (Zah (Zaa rfl) Zcx rfl rfl rfl) ?_
  refine goI ?_
  exact ⟨.inl rfl, by exact Zak⟩
end Ab
