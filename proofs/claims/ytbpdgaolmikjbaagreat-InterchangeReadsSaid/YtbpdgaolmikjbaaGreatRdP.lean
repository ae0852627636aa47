/- The program's Decode (printed by tools/gen_de.py). -/
import Derived.Test.YtbpdgaolmikjbaaGreatRdN
import Derived.Test.YtbpdgaolmikjbaaGreatRdO
set_option linter.all false
namespace Ab
open Go Go.RowKit Go.Proofs Hp
set_option maxRecDepth 100000
set_option maxHeartbeats 4000000
theorem three : ∀ l : List Nat, 7 ≤ l.length → ∃ a b c t, l = a :: b :: c :: t
 | a :: b :: c :: t, _ => ⟨a, b, c, t, rfl⟩
 | [], h => by simp at h
 | [_], h => by simp at h
 | [_, _], h => by simp at h
theorem last4 (t : List Nat) (h : 4 ≤ t.length) : ∃ m y0 y1 y2 y3, t = m ++ [y0, y1, y2, y3] := by
 have := List.take_append_drop (t.length - 4) t
 have hd : (t.drop (t.length - 4)).length = 4 := by rw [List.length_drop]; omega
 match hq : t.drop (t.length - 4) with
 | [y0, y1, y2, y3] => exact ⟨_, y0, y1, y2, y3, by rw [← hq]; exact this.symm⟩
 | [] => rw [hq] at hd; simp at hd
 | [_] => rw [hq] at hd; simp at hd
 | [_, _] => rw [hq] at hd; simp at hd
 | [_, _, _] => rw [hq] at hd; simp at hd
 | _ :: _ :: _ :: _ :: _ :: _ => rw [hq] at hd; simp at hd
theorem Zg5 (bd : List Nat) (y0 y1 y2 y3 : Nat) : ((bd ++ [y0, y1, y2, y3]).map nV).length = bd.length + 4 ∧ ((bd ++ [y0, y1, y2, y3]).map nV).take ((((bd ++ [y0, y1, y2, y3]).map nV).length : Int) - 4).toNat = bd.map nV ∧ ((bd ++ [y0, y1, y2, y3]).map nV)[((((bd ++ [y0, y1, y2, y3]).map nV).length : Int) - 4).toNat]? = some (nV y0) ∧
  ((bd ++ [y0, y1, y2, y3]).map nV)[((((bd ++ [y0, y1, y2, y3]).map nV).length : Int) - 4 + 1).toNat]? = some (nV y1) ∧ ((bd ++ [y0, y1, y2, y3]).map nV)[((((bd ++ [y0, y1, y2, y3]).map nV).length : Int) - 4 + 2).toNat]? = some (nV y2) ∧ ((bd ++ [y0, y1, y2, y3]).map nV)[((((bd ++ [y0, y1, y2, y3]).map nV).length : Int) - 4 + 3).toNat]? = some (nV y3) := by
 have e : ((bd ++ [y0, y1, y2, y3]).map nV).length = bd.length + 4 := by rw [List.length_map, List.length_append]; rfl
 have k0 : (((bd.length + 4 : Nat) : Int) - 4).toNat = bd.length := by omega
 have k1 : (((bd.length + 4 : Nat) : Int) - 4 + 1).toNat = bd.length + 1 := by omega
 have k2 : (((bd.length + 4 : Nat) : Int) - 4 + 2).toNat = bd.length + 2 := by omega
 have k3 : (((bd.length + 4 : Nat) : Int) - 4 + 3).toNat = bd.length + 3 := by omega
 rw [e, k0, k1, k2, k3]
 refine ⟨rfl, ?_, ?_, ?_, ?_, ?_⟩
 ·rw [← List.map_take, List.take_left]
 all_goals
  rw [List.getElem?_map, List.getElem?_append_right (by omega)]
  first
   | rw [Nat.sub_self]; rfl
   | rw [Nat.add_sub_cancel_left]; rfl
theorem dec_hdr {l : List Nat} (hn : l.length ≤ 16000000) (h : ¬ (7 ≤ l.length ∧ l.take 3 = [72, 80, 1])) : PC Tryz.prog 17 [.sl (l.map nV)] (.tup [PP.av ⟨[], [], [], [], [], []⟩, iV 3]) := by
 have eml : (l.map nV).length = l.length := List.length_map ..
 have t0 : decide (((l.map nV).length : Int) > 16777216) = false := decide_eq_false (by omega)
 by_cases h7 : l.length < 7
 ·have t1 : decide (((l.map nV).length : Int) < 7) = true := decide_eq_true (by omega)
  refine Zb7 true Tryz.func17 rfl rfl rfl (Nat.le_of_ble_eq_true rfl) (Za4.agg (Za1 rfl)) Za4.tmp ?_
  refine goJ ?_
  exact rfl
 ·have t1 : decide (((l.map nV).length : Int) < 7) = false := decide_eq_false (by omega)
  obtain ⟨a, b, c, t, rfl⟩ := three l (by omega)
  have x0 : ((a :: b :: c :: t).map nV)[(0 : Int).toNat]? = some (nV a) := rfl
  have x1 : ((a :: b :: c :: t).map nV)[(1 : Int).toNat]? = some (nV b) := rfl
  have x2 : ((a :: b :: c :: t).map nV)[(2 : Int).toNat]? = some (nV c) := rfl
  have q0 := neq_nat a 72
  have q1 := neq_nat b 80
  have q2 := neq_nat c 1
  generalize ((a :: b :: c :: t).map nV) = X at *
  refine Zb7 true Tryz.func17 rfl rfl rfl (Nat.le_of_ble_eq_true rfl) (Za4.agg (Za1 rfl)) Za4.tmp ?_
  refine goJ ?_
  by_cases ka : a = 72
  ·have q0 : ((a : Int) != 72) = false := by rw [ka]; rfl
   refine evG ggA (Zab (Zaa rfl) (Zac rfl) rfl rfl (by decide) x0 rfl) ?_
   refine goJ ?_
   by_cases kb : b = 80
   ·have q1 : ((b : Int) != 80) = false := by rw [kb]; rfl
    have kc : c ≠ 1 := fun e => h ⟨by omega, by subst ka kb e; rfl⟩
    have q2 : ((c : Int) != 1) = true := by
     have q2 : ((c : Int) != 1) = _ := q2
     rw [q2]; simp [kc]
    refine evG ggA (Zab (Zaa rfl) (Zac rfl) rfl rfl (by decide) x1 rfl) ?_
    refine goJ ?_
    refine evG ggA (Zab (Zaa rfl) (Zac rfl) rfl rfl (by decide) x2 rfl) ?_
    refine goJ ?_
    exact rfl
   ·have q1 : ((b : Int) != 80) = true := by
     have q1 : ((b : Int) != 80) = _ := q1
     rw [q1]; simp [kb]
    refine evG ggA (Zab (Zaa rfl) (Zac rfl) rfl rfl (by decide) x1 rfl) ?_
    refine goJ ?_
    exact rfl
  ·have q0 : ((a : Int) != 72) = true := by
    have q0 : ((a : Int) != 72) = _ := q0
    rw [q0]; simp [ka]
   refine evG ggA (Zab (Zaa rfl) (Zac rfl) rfl rfl (by decide) x0 rfl) ?_
   refine goJ ?_
   exact rfl
theorem dec_sum {mid : List Nat} {y0 y1 y2 y3 : Nat} (hby : By (72 :: 80 :: 1 :: mid)) (hn : mid.length ≤ 15000000) (h : Zc5 (fnv (72 :: 80 :: 1 :: mid)) ≠ [y0, y1, y2, y3]) : PC Tryz.prog 17 [.sl (((72 :: 80 :: 1 :: mid) ++ [y0, y1, y2, y3]).map nV)] (.tup [PP.av ⟨[], [], [], [], [], []⟩, iV 26]) := by
 obtain ⟨eX, hs, v0, v1, v2, v3⟩ := Zg5 (72 :: 80 :: 1 :: mid) y0 y1 y2 y3
 have eb : (72 :: 80 :: 1 :: mid).length = mid.length + 3 := rfl
 have hc := Zdw ((72 :: 80 :: 1 :: mid) ++ [y0, y1, y2, y3])
 have x0 : (((72 :: 80 :: 1 :: mid) ++ [y0, y1, y2, y3]).map nV)[(0 : Int).toNat]? = some (nV 72) := rfl
 have x1 : (((72 :: 80 :: 1 :: mid) ++ [y0, y1, y2, y3]).map nV)[(1 : Int).toNat]? = some (nV 80) := rfl
 have x2 : (((72 :: 80 :: 1 :: mid) ++ [y0, y1, y2, y3]).map nV)[(2 : Int).toNat]? = some (nV 1) := rfl
 have hm : ((((72 :: 80 :: 1 :: mid) ++ [y0, y1, y2, y3]).map nV).take (((((72 :: 80 :: 1 :: mid) ++ [y0, y1, y2, y3]).map nV).length : Int) - 4).toNat).drop (3 : Int).toNat = mid.map nV := by rw [hs]; rfl
 have csum := sum_p (l := 72 :: 80 :: 1 :: mid) hby (by rw [eb]; omega)
 have hH := Zf1 (72 :: 80 :: 1 :: mid)
 generalize ((72 :: 80 :: 1 :: mid) ++ [y0, y1, y2, y3]).map nV = X at *
 generalize fnv (72 :: 80 :: 1 :: mid) = H at *
 have t0 : decide ((X.length : Int) > 16777216) = false := decide_eq_false (by omega)
 have t1 : decide ((X.length : Int) < 7) = false := decide_eq_false (by omega)
 have w1 : (H : Int).fdiv (2 ^ (min (24 : Int).toNat 32)) = ((H / 16777216 : Nat) : Int) := by rw [Int.fdiv_eq_ediv_of_nonneg _ (by decide)]; rfl
 have w2 : (H : Int).fdiv (2 ^ (min (16 : Int).toNat 32)) = ((H / 65536 : Nat) : Int) := by rw [Int.fdiv_eq_ediv_of_nonneg _ (by decide)]; rfl
 have w3 : (H : Int).fdiv (2 ^ (min (8 : Int).toNat 32)) = ((H / 256 : Nat) : Int) := by rw [Int.fdiv_eq_ediv_of_nonneg _ (by decide)]; rfl
 have s1 : IntKind.u8.wrap ((H / 16777216 : Nat) : Int) = ((H / 16777216 : Nat) : Int) := by rw [u8m]; omega
 have s2 : IntKind.u8.wrap ((H / 65536 : Nat) : Int) = ((H / 65536 % 256 : Nat) : Int) := by rw [u8m]; omega
 have s3 : IntKind.u8.wrap ((H / 256 : Nat) : Int) = ((H / 256 % 256 : Nat) : Int) := by rw [u8m]; omega
 have s4 : IntKind.u8.wrap (H : Int) = ((H % 256 : Nat) : Int) := by rw [u8m]; omega
 have p0 := neq_nat (H / 16777216) y0
 have p1 := neq_nat (H / 65536 % 256) y1
 have p2 := neq_nat (H / 256 % 256) y2
 have p3 := neq_nat (H % 256) y3
 refine Zb7 true Tryz.func17 rfl rfl rfl (Nat.le_of_ble_eq_true rfl) (Za4.agg (Za1 rfl)) Za4.tmp ?_
 refine goJ ?_
 refine evG ggA (Zab (Zaa rfl) (Zac rfl) rfl rfl (by decide) x0 rfl) ?_
 refine goJ ?_
 refine evG ggA (Zab (Zaa rfl) (Zac rfl) rfl rfl (by decide) x1 rfl) ?_
 refine goJ ?_
 refine evG ggA (Zab (Zaa rfl) (Zac rfl) rfl rfl (by decide) x2 rfl) ?_
 refine goJ ?_
 refine evG ggA (Zde (Zaa rfl) (Zac rfl) rfl hc rfl (by omega) (by omega)) ?_
 rw [hs]
 refine evG ggA (Zae (Zaa rfl) rfl rfl csum) ?_
 refine goJ ?_
 by_cases k0 : H / 16777216 = y0
 rotate_left
 ·have r0 : (((H / 16777216 : Nat) : Int) != (y0 : Int)) = true := by rw [p0]; simp [k0]
  refine evG ggA (Zbx (Zaa rfl) rfl rfl (by decide) w1) ?_
  refine evG ggA (Zag (Zaa rfl) Za2 Za3 rfl s1) ?_
  refine goJ ?_
  refine evG ggA (Zab (Zaa rfl) (Zac rfl) rfl rfl (by omega) v0 rfl) ?_
  refine goJ ?_
  exact rfl
 have r0 : (((H / 16777216 : Nat) : Int) != (y0 : Int)) = false := by rw [p0, k0]; simp
 refine evG ggA (Zbx (Zaa rfl) rfl rfl (by decide) w1) ?_
 refine evG ggA (Zag (Zaa rfl) Za2 Za3 rfl s1) ?_
 refine goJ ?_
 refine evG ggA (Zab (Zaa rfl) (Zac rfl) rfl rfl (by omega) v0 rfl) ?_
 refine goJ ?_
 by_cases k1 : H / 65536 % 256 = y1
 rotate_left
 ·have r1 : (((H / 65536 % 256 : Nat) : Int) != (y1 : Int)) = true := by rw [p1]; simp [k1]
  refine evG ggA (Zbx (Zaa rfl) rfl rfl (by decide) w2) ?_
  refine evG ggA (Zag (Zaa rfl) Za2 Za3 rfl s2) ?_
  refine goJ ?_
  refine evG ggA (Zab (Zaa rfl) (Zac rfl) rfl rfl (by omega) v1 rfl) ?_
  refine goJ ?_
  exact rfl
 have r1 : (((H / 65536 % 256 : Nat) : Int) != (y1 : Int)) = false := by rw [p1, k1]; simp
 refine evG ggA (Zbx (Zaa rfl) rfl rfl (by decide) w2) ?_
 refine evG ggA (Zag (Zaa rfl) Za2 Za3 rfl s2) ?_
 refine goJ ?_
 refine evG ggA (Zab (Zaa rfl) (Zac rfl) rfl rfl (by omega) v1 rfl) ?_
 refine goJ ?_
 by_cases k2 : H / 256 % 256 = y2
 rotate_left
 ·have r2 : (((H / 256 % 256 : Nat) : Int) != (y2 : Int)) = true := by rw [p2]; simp [k2]
  refine evG ggA (Zbx (Zaa rfl) rfl rfl (by decide) w3) ?_
  refine evG ggA (Zag (Zaa rfl) Za2 Za3 rfl s3) ?_
  refine goJ ?_
  refine evG ggA (Zab (Zaa rfl) (Zac rfl) rfl rfl (by omega) v2 rfl) ?_
  refine goJ ?_
  exact rfl
 have r2 : (((H / 256 % 256 : Nat) : Int) != (y2 : Int)) = false := by rw [p2, k2]; simp
 refine evG ggA (Zbx (Zaa rfl) rfl rfl (by decide) w3) ?_
 refine evG ggA (Zag (Zaa rfl) Za2 Za3 rfl s3) ?_
 refine goJ ?_
 refine evG ggA (Zab (Zaa rfl) (Zac rfl) rfl rfl (by omega) v2 rfl) ?_
 refine goJ ?_
 by_cases k3 : H % 256 = y3
 rotate_left
 ·have r3 : (((H % 256 : Nat) : Int) != (y3 : Int)) = true := by rw [p3]; simp [k3]
  refine evG ggA (Zag (Zaa rfl) Za2 Za3 rfl s4) ?_
  refine goJ ?_
  refine evG ggA (Zab (Zaa rfl) (Zac rfl) rfl rfl (by omega) v3 rfl) ?_
  refine goJ ?_
  exact rfl
 have r3 : (((H % 256 : Nat) : Int) != (y3 : Int)) = false := by rw [p3, k3]; simp
 exact absurd (by unfold Zc5; rw [k0, k1, k2, k3]) h
theorem dec_p {mid l1 l2 l3 l4 l5 l6 : List Nat} {b1 b2 b3 b4 b5 b6 : Bool} {sr : List PS} {et : List PE} {df : List PB} {ce : List PZ} {sp : List PF} {ma : List PM} (hby : By (72 :: 80 :: 1 :: mid)) (hn : mid.length ≤ 15000000)
  (c1 : PCM false Tryz.prog 66 [.ptr 100 0, .bm 67 100 0] (RR mid false 0) true (.v (.sl (sr.map PS.av))) (RR l1 b1 0))
  (c2 : PCM false Tryz.prog 68 [.ptr 100 0, .bm 69 100 0] (RR l1 b1 0) true (.v (.sl (et.map PE.av))) (RR l2 b2 0))
  (c3 : PCM false Tryz.prog 70 [.ptr 100 0, .bm 71 100 0] (RR l2 b2 0) true (.v (.sl (df.map PB.av))) (RR l3 b3 0))
  (c4 : PCM false Tryz.prog 72 [.ptr 100 0, .bm 73 100 0] (RR l3 b3 0) true (.v (.sl (ce.map PZ.av))) (RR l4 b4 0))
  (c5 : PCM false Tryz.prog 74 [.ptr 100 0, .bm 75 100 0] (RR l4 b4 0) true (.v (.sl (sp.map PF.av))) (RR l5 b5 0))
  (c6 : PCM false Tryz.prog 76 [.ptr 100 0, .bm 77 100 0] (RR l5 b5 0) true (.v (.sl (ma.map PM.av))) (RR l6 b6 0))
  {w : PP} {e : Int} (ho : (b6 = true ∧ w = (⟨[], [], [], [], [], []⟩ : PP) ∧ e = 3) ∨ (b6 = false ∧ ((0 < l6.length ∧ w = (⟨[], [], [], [], [], []⟩ : PP) ∧ e = 3) ∨ (l6 = [] ∧ ∃ (L : List Nat) (ee : Int), PC Tryz.prog 12 [(PP.mk sr et df ce sp ma).av] (.tup [.sl (L.map nV), iV ee]) ∧ (((ee != 0) = true ∧ w = (⟨[], [], [], [], [], []⟩ : PP) ∧ e = 3) ∨ ((ee != 0) = false ∧ ∃ cb, PC Tryz.prog 78 [.sl (L.map nV), .sl (((72 :: 80 :: 1 :: mid) ++ Zc5 (fnv (72 :: 80 :: 1 :: mid))).map nV)] (boV cb) ∧ ((cb = false ∧ w = (⟨[], [], [], [], [], []⟩ : PP) ∧ e = 3) ∨ (cb = true ∧ w = PP.mk sr et df ce sp ma ∧ e = 0)))))))) : PC Tryz.prog 17 [.sl (((72 :: 80 :: 1 :: mid) ++ Zc5 (fnv (72 :: 80 :: 1 :: mid))).map nV)] (.tup [w.av, iV e]) := by
 unfold Zc5 at *
 obtain ⟨eX, hs, v0, v1, v2, v3⟩ := Zg5 (72 :: 80 :: 1 :: mid) (fnv (72 :: 80 :: 1 :: mid) / 16777216) (fnv (72 :: 80 :: 1 :: mid) / 65536 % 256) (fnv (72 :: 80 :: 1 :: mid) / 256 % 256) (fnv (72 :: 80 :: 1 :: mid) % 256)
 have eb : (72 :: 80 :: 1 :: mid).length = mid.length + 3 := rfl
 have hc := Zdw ((72 :: 80 :: 1 :: mid) ++ [(fnv (72 :: 80 :: 1 :: mid) / 16777216), (fnv (72 :: 80 :: 1 :: mid) / 65536 % 256), (fnv (72 :: 80 :: 1 :: mid) / 256 % 256), (fnv (72 :: 80 :: 1 :: mid) % 256)])
 have x0 : (((72 :: 80 :: 1 :: mid) ++ [(fnv (72 :: 80 :: 1 :: mid) / 16777216), (fnv (72 :: 80 :: 1 :: mid) / 65536 % 256), (fnv (72 :: 80 :: 1 :: mid) / 256 % 256), (fnv (72 :: 80 :: 1 :: mid) % 256)]).map nV)[(0 : Int).toNat]? = some (nV 72) := rfl
 have x1 : (((72 :: 80 :: 1 :: mid) ++ [(fnv (72 :: 80 :: 1 :: mid) / 16777216), (fnv (72 :: 80 :: 1 :: mid) / 65536 % 256), (fnv (72 :: 80 :: 1 :: mid) / 256 % 256), (fnv (72 :: 80 :: 1 :: mid) % 256)]).map nV)[(1 : Int).toNat]? = some (nV 80) := rfl
 have x2 : (((72 :: 80 :: 1 :: mid) ++ [(fnv (72 :: 80 :: 1 :: mid) / 16777216), (fnv (72 :: 80 :: 1 :: mid) / 65536 % 256), (fnv (72 :: 80 :: 1 :: mid) / 256 % 256), (fnv (72 :: 80 :: 1 :: mid) % 256)]).map nV)[(2 : Int).toNat]? = some (nV 1) := rfl
 have hm : ((((72 :: 80 :: 1 :: mid) ++ [(fnv (72 :: 80 :: 1 :: mid) / 16777216), (fnv (72 :: 80 :: 1 :: mid) / 65536 % 256), (fnv (72 :: 80 :: 1 :: mid) / 256 % 256), (fnv (72 :: 80 :: 1 :: mid) % 256)]).map nV).take (((((72 :: 80 :: 1 :: mid) ++ [(fnv (72 :: 80 :: 1 :: mid) / 16777216), (fnv (72 :: 80 :: 1 :: mid) / 65536 % 256), (fnv (72 :: 80 :: 1 :: mid) / 256 % 256), (fnv (72 :: 80 :: 1 :: mid) % 256)]).map nV).length : Int) - 4).toNat).drop (3 : Int).toNat = mid.map nV := by rw [hs]; rfl
 have csum := sum_p (l := 72 :: 80 :: 1 :: mid) hby (by rw [eb]; omega)
 have hH := Zf1 (72 :: 80 :: 1 :: mid)
 generalize ((72 :: 80 :: 1 :: mid) ++ [fnv (72 :: 80 :: 1 :: mid) / 16777216, fnv (72 :: 80 :: 1 :: mid) / 65536 % 256, fnv (72 :: 80 :: 1 :: mid) / 256 % 256, fnv (72 :: 80 :: 1 :: mid) % 256]).map nV = X at *
 generalize fnv (72 :: 80 :: 1 :: mid) = H at *
 have t0 : decide ((X.length : Int) > 16777216) = false := decide_eq_false (by omega)
 have t1 : decide ((X.length : Int) < 7) = false := decide_eq_false (by omega)
 have w1 : (H : Int).fdiv (2 ^ (min (24 : Int).toNat 32)) = ((H / 16777216 : Nat) : Int) := by rw [Int.fdiv_eq_ediv_of_nonneg _ (by decide)]; rfl
 have w2 : (H : Int).fdiv (2 ^ (min (16 : Int).toNat 32)) = ((H / 65536 : Nat) : Int) := by rw [Int.fdiv_eq_ediv_of_nonneg _ (by decide)]; rfl
 have w3 : (H : Int).fdiv (2 ^ (min (8 : Int).toNat 32)) = ((H / 256 : Nat) : Int) := by rw [Int.fdiv_eq_ediv_of_nonneg _ (by decide)]; rfl
 have s1 : IntKind.u8.wrap ((H / 16777216 : Nat) : Int) = ((H / 16777216 : Nat) : Int) := by rw [u8m]; omega
 have s2 : IntKind.u8.wrap ((H / 65536 : Nat) : Int) = ((H / 65536 % 256 : Nat) : Int) := by rw [u8m]; omega
 have s3 : IntKind.u8.wrap ((H / 256 : Nat) : Int) = ((H / 256 % 256 : Nat) : Int) := by rw [u8m]; omega
 have s4 : IntKind.u8.wrap (H : Int) = ((H % 256 : Nat) : Int) := by rw [u8m]; omega
 have r0 : (((H / 16777216 : Nat) : Int) != ((H / 16777216 : Nat) : Int)) = false := by rw [neq_nat]; simp
 have r1 : (((H / 65536 % 256 : Nat) : Int) != ((H / 65536 % 256 : Nat) : Int)) = false := by rw [neq_nat]; simp
 have r2 : (((H / 256 % 256 : Nat) : Int) != ((H / 256 % 256 : Nat) : Int)) = false := by rw [neq_nat]; simp
 have r3 : (((H % 256 : Nat) : Int) != ((H % 256 : Nat) : Int)) = false := by rw [neq_nat]; simp
 refine Zb7 true Tryz.func17 rfl rfl rfl (Nat.le_of_ble_eq_true rfl) (Za4.agg (Za1 rfl)) Za4.tmp ?_
 refine goJ ?_
 refine evG ggA (Zab (Zaa rfl) (Zac rfl) rfl rfl (by decide) x0 rfl) ?_
 refine goJ ?_
 refine evG ggA (Zab (Zaa rfl) (Zac rfl) rfl rfl (by decide) x1 rfl) ?_
 refine goJ ?_
 refine evG ggA (Zab (Zaa rfl) (Zac rfl) rfl rfl (by decide) x2 rfl) ?_
 refine goJ ?_
 refine evG ggA (Zde (Zaa rfl) (Zac rfl) rfl hc rfl (by omega) (by omega)) ?_
 rw [hs]
 refine evG ggA (Zae (Zaa rfl) rfl rfl csum) ?_
 refine goJ ?_
 refine evG ggA (Zbx (Zaa rfl) rfl rfl (by decide) w1) ?_
 refine evG ggA (Zag (Zaa rfl) Za2 Za3 rfl s1) ?_
 refine goJ ?_
 refine evG ggA (Zab (Zaa rfl) (Zac rfl) rfl rfl (by omega) v0 rfl) ?_
 refine goJ ?_
 refine evG ggA (Zbx (Zaa rfl) rfl rfl (by decide) w2) ?_
 refine evG ggA (Zag (Zaa rfl) Za2 Za3 rfl s2) ?_
 refine goJ ?_
 refine evG ggA (Zab (Zaa rfl) (Zac rfl) rfl rfl (by omega) v1 rfl) ?_
 refine goJ ?_
 refine evG ggA (Zbx (Zaa rfl) rfl rfl (by decide) w3) ?_
 refine evG ggA (Zag (Zaa rfl) Za2 Za3 rfl s3) ?_
 refine goJ ?_
 refine evG ggA (Zab (Zaa rfl) (Zac rfl) rfl rfl (by omega) v2 rfl) ?_
 refine goJ ?_
 refine evG ggA (Zag (Zaa rfl) Za2 Za3 rfl s4) ?_
 refine goJ ?_
 refine evG ggA (Zab (Zaa rfl) (Zac rfl) rfl rfl (by omega) v3 rfl) ?_
 refine goJ ?_
 refine evG ggA (Zgm (Zaa rfl) (Zac rfl) rfl hc rfl rfl (by decide) (by omega) (by omega)) ?_
 rw [hm]
 refine goJ ?_
 refine mcS [(100, 90)] (PCM.up c1) ?_
 refine goJ ?_
 refine mcS [(100, 90)] (PCM.up c2) ?_
 refine goJ ?_
 refine mcS [(100, 90)] (PCM.up c3) ?_
 refine goJ ?_
 refine mcS [(100, 90)] (PCM.up c4) ?_
 refine goJ ?_
 refine mcS [(100, 90)] (PCM.up c5) ?_
 refine goJ ?_
 refine mcS [(100, 90)] (PCM.up c6) ?_
 refine goJ ?_
 rcases ho with ⟨rfl, rfl, rfl⟩ | ⟨rfl, ho⟩
 ·refine goJ ?_
  exact rfl
 rcases ho with ⟨h0, rfl, rfl⟩ | ⟨rfl, L, ee, cE, ho⟩
 ·have u1 : decide (((l6.map nV).length : Int) > 0) = true := decide_eq_true (by rw [List.length_map]; omega)
  refine goJ ?_
  exact rfl
 have u1 : decide ((([].map nV : List AV).length : Int) > 0) = false := rfl
 generalize L.map nV = W at *
 rcases ho with ⟨u0, rfl, rfl⟩ | ⟨u0, cb, cq, ho⟩
 ·refine goJ ?_
  refine evG ggA (Zae (Zaa rfl) rfl rfl cE) ?_
  refine goJ ?_
  exact rfl
 rcases ho with ⟨rfl, rfl, rfl⟩ | ⟨rfl, rfl, rfl⟩
 all_goals
  refine goJ ?_
  refine evG ggA (Zae (Zaa rfl) rfl rfl cE) ?_
  refine goJ ?_
  refine evG ggA (Zae (Zaa rfl) rfl rfl cq) ?_
  refine goJ ?_
  exact rfl
end Ab
