/- The document's Decode (printed by tools/gen_rr.py). What the document's Decode reads of any bytes; the statement InterchangeReads, as a contract. The statement InterchangeReads, proved: Decode returns the package or the error that the document specifies; no condition. -/
import Derived.Test.YtbpdgaolmikjbaaGreatRrY
import Derived.Test.YtbpdgaolmikjbaaGreatRdQ
import Derived.Test.YtbpdgaolmikjbaaGreatRwW
import Derived.Laws.Strings
import Derived.Test.YtbpdgaolmikjbaaGreatIcO
set_option linter.all false
namespace Ab
open Go Go.RowKit Go.Proofs Hp
set_option maxRecDepth 100000
set_option maxHeartbeats 4000000
theorem nV_bVd (l : List Nat) : l.map nV = (l.map fun n : Nat => (n : Int)).map bV := by rw [List.map_map]; rfl
theorem dsumS_p {l : List Nat} (hl : ∀ c, c ∈ l → c < 256) (hn : l.length ≤ 1000000000) : PC Tryz.prog 51 [.sl (l.map nV)] (uV (fnv l)) := by
 have eml : (l.map nV).length = l.length := List.length_map ..
 refine Zas true Tryz.func51 rfl rfl rfl (Nat.le_of_ble_eq_true rfl) Za4.tmp ?_
 refine goI ?_
 refine T.loop (fun K s1 => ∃ i : Nat, K = l.length - i ∧ i ≤ l.length ∧ s1 = mkS [(0, .v (.sl (l.map nV))), (3, .v (uV (fnv (l.take i)))), (4, .v (iV i))] [] 20 true) l.length
  (s' := mkS [(0, .v (.sl (l.map nV))), (3, .v (uV 2166136261)), (4, .v (iV ((0 : Nat) : Int)))] [] 20 true) (by exact entA) ⟨0, rfl, Nat.zero_le _, rfl⟩ ?_
 rintro _ _ ⟨i, rfl, hi, rfl⟩
 by_cases hlt : i < l.length
 ·have dd1 : decide ((i : Int) < ((l.map nV).length : Int)) = true := decide_eq_true (by omega)
  have hg : l[i]? = some l[i] := List.getElem?_eq_getElem hlt
  have hxi : (l.map nV)[((i : Nat) : Int).toNat]? = some (nV l[i]) := by rw [Int.toNat_natCast, List.getElem?_map, hg]; rfl
  have hc := hl _ (List.getElem_mem hlt)
  have hs := fnv_snoc hg
  have hh := Zf1 (l.take i)
  clear hg
  generalize l[i] = c at *
  generalize fnv (l.take i) = h at *
  have e2 : IntKind.u32.wrap (((h ^^^ c : Nat) : Int) * 16777619) = ((fnvS h c : Nat) : Int) := by rw [u32m]; unfold fnvS; omega
  refine goI ?_
  refine evG ggA (Zab (Zaa rfl) (Zac rfl) rfl rfl (by omega) hxi rfl) ?_
  refine goI ?_
  refine evG ggA (Zag (Zaa rfl) Za3 Za2 rfl (u32w (by omega) (by omega))) ?_
  refine evG ggA (Zbp (Zaa rfl) rfl rfl rfl (xor_bit hh hc)) ?_
  refine evG ggA (Zbk (Zaa rfl) rfl rfl e2) ?_
  refine goI ?_
  exact Zad (k := l.length - (i + 1)) (s' := mkS [(0, .v (.sl (l.map nV))), (3, .v (uV (fnvS h c))), (4, .v (iV ((i : Int) + 1)))] [] 20 true) (by omega) (by exact entA) ⟨i + 1, rfl, hlt, by rw [hs]; rfl⟩
 ·obtain rfl : i = l.length := by omega
  have dd1 : decide ((l.length : Int) < ((l.map nV).length : Int)) = false := decide_eq_false (by omega)
  rw [List.take_length]
  refine goI ?_
  exact rfl
theorem ddec_hdr {l : List Nat} (hn : l.length ≤ 16000000) (h : ¬ (7 ≤ l.length ∧ l.take 3 = [72, 80, 1])) : PC Tryz.prog 18 [.sl (l.map nV)] (.tup [PP.av ⟨[], [], [], [], [], []⟩, iV 3]) := by
 have eml : (l.map nV).length = l.length := List.length_map ..
 have t0 : decide (((l.map nV).length : Int) > 16777216) = false := decide_eq_false (by omega)
 by_cases h7 : l.length < 7
 ·have t1 : decide (((l.map nV).length : Int) < 7) = true := decide_eq_true (by omega)
  refine Zb7 true Tryz.func18 rfl rfl rfl (Nat.le_of_ble_eq_true rfl) (Za4.agg (Za1 rfl)) Za4.tmp ?_
  refine goJ ?_
  exact rfl
 ·have t1 : decide (((l.map nV).length : Int) < 7) = false := decide_eq_false (by omega)
  obtain ⟨a, b, c, t, rfl⟩ := three l (by omega)
  have x0 : ((a :: b :: c :: t).map nV)[(0 : Int).toNat]? = some (nV a) := rfl
  have x1 : ((a :: b :: c :: t).map nV)[(1 : Int).toNat]? = some (nV b) := rfl
  have x2 : ((a :: b :: c :: t).map nV)[(2 : Int).toNat]? = some (nV c) := rfl
  have q0 := neq_nat a 72
  have q1 := neq_nat b 80
  have q2 := neq_nat c 1
  generalize ((a :: b :: c :: t).map nV) = X at *
  refine Zb7 true Tryz.func18 rfl rfl rfl (Nat.le_of_ble_eq_true rfl) (Za4.agg (Za1 rfl)) Za4.tmp ?_
  refine goJ ?_
  by_cases ka : a = 72
  ·have q0 : ((a : Int) != 72) = false := by rw [ka]; rfl
   refine evG ggA (Zab (Zaa rfl) (Zac rfl) rfl rfl (by decide) x0 rfl) ?_
   refine goJ ?_
   by_cases kb : b = 80
   ·have q1 : ((b : Int) != 80) = false := by rw [kb]; rfl
    have kc : c ≠ 1 := fun e => h ⟨by omega, by subst ka kb e; rfl⟩
    have q2 : ((c : Int) != 1) = true := by
     have q2 : ((c : Int) != 1) = _ := q2
     rw [q2]; simp [kc]
    refine evG ggA (Zab (Zaa rfl) (Zac rfl) rfl rfl (by decide) x1 rfl) ?_
    refine goJ ?_
    refine evG ggA (Zab (Zaa rfl) (Zac rfl) rfl rfl (by decide) x2 rfl) ?_
    refine goJ ?_
    exact rfl
   ·have q1 : ((b : Int) != 80) = true := by
     have q1 : ((b : Int) != 80) = _ := q1
     rw [q1]; simp [kb]
    refine evG ggA (Zab (Zaa rfl) (Zac rfl) rfl rfl (by decide) x1 rfl) ?_
    refine goJ ?_
    exact rfl
  ·have q0 : ((a : Int) != 72) = true := by
    have q0 : ((a : Int) != 72) = _ := q0
    rw [q0]; simp [ka]
   refine evG ggA (Zab (Zaa rfl) (Zac rfl) rfl rfl (by decide) x0 rfl) ?_
   refine goJ ?_
   exact rfl
theorem ddec_sum {mid : List Nat} {y0 y1 y2 y3 : Nat} (hby : By (72 :: 80 :: 1 :: mid)) (hn : mid.length ≤ 15000000) (h : Zc5 (fnv (72 :: 80 :: 1 :: mid)) ≠ [y0, y1, y2, y3]) : PC Tryz.prog 18 [.sl (((72 :: 80 :: 1 :: mid) ++ [y0, y1, y2, y3]).map nV)] (.tup [PP.av ⟨[], [], [], [], [], []⟩, iV 26]) := by
 obtain ⟨eX, hs, v0, v1, v2, v3⟩ := Zg5 (72 :: 80 :: 1 :: mid) y0 y1 y2 y3
 have eb : (72 :: 80 :: 1 :: mid).length = mid.length + 3 := rfl
 have hc := Zdw ((72 :: 80 :: 1 :: mid) ++ [y0, y1, y2, y3])
 have x0 : (((72 :: 80 :: 1 :: mid) ++ [y0, y1, y2, y3]).map nV)[(0 : Int).toNat]? = some (nV 72) := rfl
 have x1 : (((72 :: 80 :: 1 :: mid) ++ [y0, y1, y2, y3]).map nV)[(1 : Int).toNat]? = some (nV 80) := rfl
 have x2 : (((72 :: 80 :: 1 :: mid) ++ [y0, y1, y2, y3]).map nV)[(2 : Int).toNat]? = some (nV 1) := rfl
 have csum := dsumS_p (l := 72 :: 80 :: 1 :: mid) hby (by rw [eb]; omega)
 have hH := Zf1 (72 :: 80 :: 1 :: mid)
 generalize ((72 :: 80 :: 1 :: mid) ++ [y0, y1, y2, y3]).map nV = X at *
 generalize fnv (72 :: 80 :: 1 :: mid) = H at *
 have t0 : decide ((X.length : Int) > 16777216) = false := decide_eq_false (by omega)
 have t1 : decide ((X.length : Int) < 7) = false := decide_eq_false (by omega)
 have w1 : (H : Int).fdiv (2 ^ (min (24 : Int).toNat 32)) = ((H / 16777216 : Nat) : Int) := by rw [Int.fdiv_eq_ediv_of_nonneg _ (by decide)]; rfl
 have w2 : (H : Int).fdiv (2 ^ (min (16 : Int).toNat 32)) = ((H / 65536 : Nat) : Int) := by rw [Int.fdiv_eq_ediv_of_nonneg _ (by decide)]; rfl
 have w3 : (H : Int).fdiv (2 ^ (min (8 : Int).toNat 32)) = ((H / 256 : Nat) : Int) := by rw [Int.fdiv_eq_ediv_of_nonneg _ (by decide)]; rfl
 have s1 : IntKind.u8.wrap ((H / 16777216 : Nat) : Int) = ((H / 16777216 : Nat) : Int) := by rw [u8m]; omega
 have s2 : IntKind.u8.wrap ((H / 65536 : Nat) : Int) = ((H / 65536 % 256 : Nat) : Int) := by rw [u8m]; omega
 have s3 : IntKind.u8.wrap ((H / 256 : Nat) : Int) = ((H / 256 % 256 : Nat) : Int) := by rw [u8m]; omega
 have s4 : IntKind.u8.wrap (H : Int) = ((H % 256 : Nat) : Int) := by rw [u8m]; omega
 have p0 := neq_nat y0 (H / 16777216)
 have p1 := neq_nat y1 (H / 65536 % 256)
 have p2 := neq_nat y2 (H / 256 % 256)
 have p3 := neq_nat y3 (H % 256)
 refine Zb7 true Tryz.func18 rfl rfl rfl (Nat.le_of_ble_eq_true rfl) (Za4.agg (Za1 rfl)) Za4.tmp ?_
 refine goJ ?_
 refine evG ggA (Zab (Zaa rfl) (Zac rfl) rfl rfl (by decide) x0 rfl) ?_
 refine goJ ?_
 refine evG ggA (Zab (Zaa rfl) (Zac rfl) rfl rfl (by decide) x1 rfl) ?_
 refine goJ ?_
 refine evG ggA (Zab (Zaa rfl) (Zac rfl) rfl rfl (by decide) x2 rfl) ?_
 refine goJ ?_
 refine evG ggA (Zde (Zaa rfl) (Zac rfl) rfl hc rfl (by omega) (by omega)) ?_
 rw [hs]
 refine evG ggA (Zae (Zaa rfl) rfl rfl csum) ?_
 refine goJ ?_
 by_cases k0 : y0 = H / 16777216
 rotate_left
 ·have r0 : (((y0 : Nat) : Int) != ((H / 16777216 : Nat) : Int)) = true := by rw [p0]; simp [k0]
  refine evG ggA (Zab (Zaa rfl) (Zac rfl) rfl rfl (by omega) v0 rfl) ?_
  refine goJ ?_
  refine evG ggA (Zbx (Zaa rfl) rfl rfl (by decide) w1) ?_
  refine evG ggA (Zag (Zaa rfl) Za2 Za3 rfl s1) ?_
  refine goJ ?_
  exact rfl
 have r0 : (((y0 : Nat) : Int) != ((H / 16777216 : Nat) : Int)) = false := by rw [p0, k0]; simp
 refine evG ggA (Zab (Zaa rfl) (Zac rfl) rfl rfl (by omega) v0 rfl) ?_
 refine goJ ?_
 refine evG ggA (Zbx (Zaa rfl) rfl rfl (by decide) w1) ?_
 refine evG ggA (Zag (Zaa rfl) Za2 Za3 rfl s1) ?_
 refine goJ ?_
 by_cases k1 : y1 = H / 65536 % 256
 rotate_left
 ·have r1 : (((y1 : Nat) : Int) != ((H / 65536 % 256 : Nat) : Int)) = true := by rw [p1]; simp [k1]
  refine evG ggA (Zab (Zaa rfl) (Zac rfl) rfl rfl (by omega) v1 rfl) ?_
  refine goJ ?_
  refine evG ggA (Zbx (Zaa rfl) rfl rfl (by decide) w2) ?_
  refine evG ggA (Zag (Zaa rfl) Za2 Za3 rfl s2) ?_
  refine goJ ?_
  exact rfl
 have r1 : (((y1 : Nat) : Int) != ((H / 65536 % 256 : Nat) : Int)) = false := by rw [p1, k1]; simp
 refine evG ggA (Zab (Zaa rfl) (Zac rfl) rfl rfl (by omega) v1 rfl) ?_
 refine goJ ?_
 refine evG ggA (Zbx (Zaa rfl) rfl rfl (by decide) w2) ?_
 refine evG ggA (Zag (Zaa rfl) Za2 Za3 rfl s2) ?_
 refine goJ ?_
 by_cases k2 : y2 = H / 256 % 256
 rotate_left
 ·have r2 : (((y2 : Nat) : Int) != ((H / 256 % 256 : Nat) : Int)) = true := by rw [p2]; simp [k2]
  refine evG ggA (Zab (Zaa rfl) (Zac rfl) rfl rfl (by omega) v2 rfl) ?_
  refine goJ ?_
  refine evG ggA (Zbx (Zaa rfl) rfl rfl (by decide) w3) ?_
  refine evG ggA (Zag (Zaa rfl) Za2 Za3 rfl s3) ?_
  refine goJ ?_
  exact rfl
 have r2 : (((y2 : Nat) : Int) != ((H / 256 % 256 : Nat) : Int)) = false := by rw [p2, k2]; simp
 refine evG ggA (Zab (Zaa rfl) (Zac rfl) rfl rfl (by omega) v2 rfl) ?_
 refine goJ ?_
 refine evG ggA (Zbx (Zaa rfl) rfl rfl (by decide) w3) ?_
 refine evG ggA (Zag (Zaa rfl) Za2 Za3 rfl s3) ?_
 refine goJ ?_
 have k3 : y3 ≠ H % 256 := fun e => h (by unfold Zc5; rw [← k0, ← k1, ← k2, ← e])
 have r3 : (((y3 : Nat) : Int) != ((H % 256 : Nat) : Int)) = true := by rw [p3]; simp [k3]
 refine evG ggA (Zab (Zaa rfl) (Zac rfl) rfl rfl (by omega) v3 rfl) ?_
 refine goJ ?_
 refine evG ggA (Zag (Zaa rfl) Za2 Za3 rfl s4) ?_
 refine goJ ?_
 exact rfl
theorem ddec_p {mid m1 m2 m3 m4 m5 m6 : List Nat} {d1 d2 d3 d4 d5 d6 : Bool} {sr : List PS} {et : List PE} {df : List PB} {ce : List PZ} {sp : List PF} {ma : List PM} {w : PP} {e : Int} (hby : By (72 :: 80 :: 1 :: mid)) (hn : mid.length ≤ 15000000)
    (u1 : ∃ j, m1 = mid.drop j) (u2 : ∃ j, m2 = m1.drop j) (u3 : ∃ j, m3 = m2.drop j) (u4 : ∃ j, m4 = m3.drop j) (u5 : ∃ j, m5 = m4.drop j)
    (c1 : (DC 79 [] (fun vs : List PS => .sl (vs.map PS.av))) mid false sr m1 d1) (k2 : LD CE (DC 80 [.v (iV 2)] (fun n : Nat => iV n)) PE.ok m1 d1 et m2 d2) (c3 : (DC 83 [] (fun vs : List PB => .sl (vs.map PB.av))) m2 d2 df m3 d3) (k4 : LD CZ (DC 80 [.v (iV 1)] (fun n : Nat => iV n)) PZ.ok m3 d3 ce m4 d4) (k5 : LD CF (DC 80 [.v (iV 1)] (fun n : Nat => iV n)) PF.ok m4 d4 sp m5 d5) (k6 : LD CM (DC 80 [.v (iV 1)] (fun n : Nat => iV n)) PM.ok m5 d5 ma m6 d6)
    (ho : (d6 = true ∧ w = ZP ∧ e = 3) ∨ (d6 = false ∧ ∃ (L : List Int) (ee : Int), PC Tryz.prog 13 [(PP.mk sr et df ce sp ma).av] (.tup [.sl (L.map bV), iV ee]) ∧ (((ee != 0) = true ∧ w = ZP ∧ e = 3) ∨ ((ee != 0) = false ∧ (((!((strB L).toList == (strB (((72 :: 80 :: 1 :: mid) ++ Zc5 (fnv (72 :: 80 :: 1 :: mid))).map fun n : Nat => (n : Int))).toList)) = true ∧ w = ZP ∧ e = 3) ∨ ((!((strB L).toList == (strB (((72 :: 80 :: 1 :: mid) ++ Zc5 (fnv (72 :: 80 :: 1 :: mid))).map fun n : Nat => (n : Int))).toList)) = false ∧ w = PP.mk sr et df ce sp ma ∧ e = 0)))))) :
    PC Tryz.prog 18 [.sl (((72 :: 80 :: 1 :: mid) ++ Zc5 (fnv (72 :: 80 :: 1 :: mid))).map nV)] (.tup [w.av, iV e]) := by
  have hB : (72 :: 80 :: 1 :: mid).length ≤ 1000000000 := by show mid.length + 3 ≤ _; omega
  have s0 : ∃ j, mid = (72 :: 80 :: 1 :: mid).drop j := ⟨3, rfl⟩
  have s1 := Zaj s0 u1
  have s2 := Zaj s1 u2
  have s3 := Zaj s2 u3
  have hbm : By mid := fun c hc => hby c (by simp [hc])
  have hb1 := hbm.of_drop u1
  have hb3 := (hb1.of_drop u2).of_drop u3
  have hl1 := Zaw u1
  have hl3 := Zaw (Zaj u2 u3)
  have c1 := c1 (72 :: 80 :: 1 :: mid) s0 hB
  have c3 := c3 (72 :: 80 :: 1 :: mid) s2 hB
  have c4 := drest_w (a0 := .sl (sr.map PS.av)) (a1 := .sl (et.map PE.av)) (a2 := .sl (df.map PB.av)) s3 hB hb3 (by omega) u4 u5 k4 k5 k6
  obtain ⟨g, n, l1, b1, hg, hN, hnl, hsuf, hrun⟩ := k2
  have hs1 := Zaj s1 hsuf
  have hb : By l1 := hb1.of_drop hsuf
  have hl : l1.length ≤ 1000000000 := by have := Zaw hsuf; omega
  have hN := hN (72 :: 80 :: 1 :: mid) s1 hB
  have hat : (72 :: 80 :: 1 :: mid).length - mid.length = 3 := by show mid.length + 3 - mid.length = 3; omega
  have c1 : PCM false Tryz.prog 79 [.ptr 100 0] (DD (72 :: 80 :: 1 :: mid) 3 false) true (.v (.sl (sr.map PS.av))) (DS (72 :: 80 :: 1 :: mid) m1 d1) := by rw [← hat]; exact c1
  unfold Zc5 at ho ⊢
  obtain ⟨eX, hs, v0, v1, v2, v3⟩ := Zg5 (72 :: 80 :: 1 :: mid) (fnv (72 :: 80 :: 1 :: mid) / 16777216) (fnv (72 :: 80 :: 1 :: mid) / 65536 % 256) (fnv (72 :: 80 :: 1 :: mid) / 256 % 256) (fnv (72 :: 80 :: 1 :: mid) % 256)
  have eb : (72 :: 80 :: 1 :: mid).length = mid.length + 3 := rfl
  have hc := Zdw ((72 :: 80 :: 1 :: mid) ++ [fnv (72 :: 80 :: 1 :: mid) / 16777216, fnv (72 :: 80 :: 1 :: mid) / 65536 % 256, fnv (72 :: 80 :: 1 :: mid) / 256 % 256, fnv (72 :: 80 :: 1 :: mid) % 256])
  have x0 : (((72 :: 80 :: 1 :: mid) ++ [fnv (72 :: 80 :: 1 :: mid) / 16777216, fnv (72 :: 80 :: 1 :: mid) / 65536 % 256, fnv (72 :: 80 :: 1 :: mid) / 256 % 256, fnv (72 :: 80 :: 1 :: mid) % 256]).map nV)[(0 : Int).toNat]? = some (nV 72) := rfl
  have x1 : (((72 :: 80 :: 1 :: mid) ++ [fnv (72 :: 80 :: 1 :: mid) / 16777216, fnv (72 :: 80 :: 1 :: mid) / 65536 % 256, fnv (72 :: 80 :: 1 :: mid) / 256 % 256, fnv (72 :: 80 :: 1 :: mid) % 256]).map nV)[(1 : Int).toNat]? = some (nV 80) := rfl
  have x2 : (((72 :: 80 :: 1 :: mid) ++ [fnv (72 :: 80 :: 1 :: mid) / 16777216, fnv (72 :: 80 :: 1 :: mid) / 65536 % 256, fnv (72 :: 80 :: 1 :: mid) / 256 % 256, fnv (72 :: 80 :: 1 :: mid) % 256]).map nV)[(2 : Int).toNat]? = some (nV 1) := rfl
  have csum := dsumS_p (l := 72 :: 80 :: 1 :: mid) hby (by rw [eb]; omega)
  have hH := Zf1 (72 :: 80 :: 1 :: mid)
  obtain ⟨Xi, hXi⟩ : ∃ Xi : List Int, Xi = ((72 :: 80 :: 1 :: mid) ++ [fnv (72 :: 80 :: 1 :: mid) / 16777216, fnv (72 :: 80 :: 1 :: mid) / 65536 % 256, fnv (72 :: 80 :: 1 :: mid) / 256 % 256, fnv (72 :: 80 :: 1 :: mid) % 256]).map fun n : Nat => (n : Int) := ⟨_, rfl⟩
  have eXn : ((72 :: 80 :: 1 :: mid) ++ [fnv (72 :: 80 :: 1 :: mid) / 16777216, fnv (72 :: 80 :: 1 :: mid) / 65536 % 256, fnv (72 :: 80 :: 1 :: mid) / 256 % 256, fnv (72 :: 80 :: 1 :: mid) % 256]).map nV = Xi.map bV := by rw [hXi]; exact nV_bVd _
  rw [eXn] at eX hs v0 v1 v2 v3 hc x0 x1 x2 ⊢
  rw [← hXi] at ho
  clear hXi eXn
  generalize fnv (72 :: 80 :: 1 :: mid) = H at *
  have t0 : decide (((Xi.map bV).length : Int) > 16777216) = false := decide_eq_false (by omega)
  have t1 : decide (((Xi.map bV).length : Int) < 7) = false := decide_eq_false (by omega)
  have w1 : (H : Int).fdiv (2 ^ (min (24 : Int).toNat 32)) = ((H / 16777216 : Nat) : Int) := by rw [Int.fdiv_eq_ediv_of_nonneg _ (by decide)]; rfl
  have w2 : (H : Int).fdiv (2 ^ (min (16 : Int).toNat 32)) = ((H / 65536 : Nat) : Int) := by rw [Int.fdiv_eq_ediv_of_nonneg _ (by decide)]; rfl
  have w3 : (H : Int).fdiv (2 ^ (min (8 : Int).toNat 32)) = ((H / 256 : Nat) : Int) := by rw [Int.fdiv_eq_ediv_of_nonneg _ (by decide)]; rfl
  have s1 : IntKind.u8.wrap ((H / 16777216 : Nat) : Int) = ((H / 16777216 : Nat) : Int) := by rw [u8m]; omega
  have s2 : IntKind.u8.wrap ((H / 65536 : Nat) : Int) = ((H / 65536 % 256 : Nat) : Int) := by rw [u8m]; omega
  have s3 : IntKind.u8.wrap ((H / 256 : Nat) : Int) = ((H / 256 % 256 : Nat) : Int) := by rw [u8m]; omega
  have s4 : IntKind.u8.wrap (H : Int) = ((H % 256 : Nat) : Int) := by rw [u8m]; omega
  have r0 : (((H / 16777216 : Nat) : Int) != ((H / 16777216 : Nat) : Int)) = false := by rw [neq_nat]; simp
  have r1 : (((H / 65536 % 256 : Nat) : Int) != ((H / 65536 % 256 : Nat) : Int)) = false := by rw [neq_nat]; simp
  have r2 : (((H / 256 % 256 : Nat) : Int) != ((H / 256 % 256 : Nat) : Int)) = false := by rw [neq_nat]; simp
  have r3 : (((H % 256 : Nat) : Int) != ((H % 256 : Nat) : Int)) = false := by rw [neq_nat]; simp
  refine Zb7 true Tryz.func18 rfl rfl rfl (Nat.le_of_ble_eq_true rfl) (Za4.agg (Za1 rfl)) Za4.tmp ?_
  refine goJ ?_
  refine evG ggA (Zab (Zaa rfl) (Zac rfl) rfl rfl (by decide) x0 rfl) ?_
  refine goJ ?_
  refine evG ggA (Zab (Zaa rfl) (Zac rfl) rfl rfl (by decide) x1 rfl) ?_
  refine goJ ?_
  refine evG ggA (Zab (Zaa rfl) (Zac rfl) rfl rfl (by decide) x2 rfl) ?_
  refine goJ ?_
  refine evG ggA (Zde (Zaa rfl) (Zac rfl) rfl hc rfl (by omega) (by omega)) ?_
  rw [hs]
  refine evG ggA (Zae (Zaa rfl) rfl rfl csum) ?_
  refine goJ ?_
  refine evG ggA (Zab (Zaa rfl) (Zac rfl) rfl rfl (by omega) v0 rfl) ?_
  refine goJ ?_
  refine evG ggA (Zbx (Zaa rfl) rfl rfl (by decide) w1) ?_
  refine evG ggA (Zag (Zaa rfl) Za2 Za3 rfl s1) ?_
  refine goJ ?_
  refine evG ggA (Zab (Zaa rfl) (Zac rfl) rfl rfl (by omega) v1 rfl) ?_
  refine goJ ?_
  refine evG ggA (Zbx (Zaa rfl) rfl rfl (by decide) w2) ?_
  refine evG ggA (Zag (Zaa rfl) Za2 Za3 rfl s2) ?_
  refine goJ ?_
  refine evG ggA (Zab (Zaa rfl) (Zac rfl) rfl rfl (by omega) v2 rfl) ?_
  refine goJ ?_
  refine evG ggA (Zbx (Zaa rfl) rfl rfl (by decide) w3) ?_
  refine evG ggA (Zag (Zaa rfl) Za2 Za3 rfl s3) ?_
  refine goJ ?_
  refine evG ggA (Zab (Zaa rfl) (Zac rfl) rfl rfl (by omega) v3 rfl) ?_
  refine goJ ?_
  refine evG ggA (Zag (Zaa rfl) Za2 Za3 rfl s4) ?_
  refine goJ ?_
  refine evG ggA (Zde (Zaa rfl) (Zac rfl) rfl hc rfl (by omega) (by omega)) ?_
  rw [hs]
  refine goJ ?_
  refine mcS [(100, 91)] (PCM.up c1) ?_
  refine goJ ?_
  refine mcS [(100, 91)] (PCM.up hN) ?_
  refine runA ?_
  refine Zbs ?_
  refine Zbr ?_
  refine T.seqI (fun s1 => s1 = mkS [(0, .v (.sl (Xi.map bV))), (2, .ptr 2 0), (6, .ptr 91 0), (7, .ptr 7 0)] [(2, .var [.v (.p nilV), .v (.p nilV), .v (.p nilV), .v (.p nilV), .v (.p nilV), .v (.p nilV)]), (7, .var [.v (.sl (sr.map PS.av)), .v (.sl (et.map PE.av)), .v (.p nilV), .v (.p nilV), .v (.p nilV), .v (.p nilV)]), (91, .var [.v (.sl ((72 :: 80 :: 1 :: mid).map nV)), .v (iV (((72 :: 80 :: 1 :: mid).length - (m2).length : Nat) : Int)), .v (boV d2)])] 146 true) ?_ ?_
  · clear ho c3 c4 k4 k5 k6
    refine goJ ?_
    refine T.loop (fun N s1 => ∃ (m i : Nat) (vs : List PE) (q : List Nat) (c : Bool) (Q : List AV), m = N ∧ i + m = n ∧ i = vs.length ∧ Q = vs.map PE.av ∧ By q ∧ q.length ≤ 1000000000 ∧ (∃ j, q = (72 :: 80 :: 1 :: mid).drop j) ∧ runL g n l1 b1 = (vs ++ (runL g m q c).1, (runL g m q c).2) ∧ s1 = mkS [(0, .v (.sl (Xi.map bV))), (2, .ptr 2 0), (6, .ptr 91 0), (7, .ptr 7 0), (8, .v (iV n)), (9, .v (iV i))] [(2, .var [.v (.p nilV), .v (.p nilV), .v (.p nilV), .v (.p nilV), .v (.p nilV), .v (.p nilV)]), (7, .var [.v (.sl (sr.map PS.av)), .own 102 i, .v (.p nilV), .v (.p nilV), .v (.p nilV), .v (.p nilV)]), (91, .var [.v (.sl ((72 :: 80 :: 1 :: mid).map nV)), .v (iV (((72 :: 80 :: 1 :: mid).length - (q).length : Nat) : Int)), .v (boV c)]), (102, .lst 2 67 Q)] 146 true) n
      (s' := mkS [(0, .v (.sl (Xi.map bV))), (2, .ptr 2 0), (6, .ptr 91 0), (7, .ptr 7 0), (8, .v (iV n)), (9, .v (iV ((0 : Nat) : Int)))] [(2, .var [.v (.p nilV), .v (.p nilV), .v (.p nilV), .v (.p nilV), .v (.p nilV), .v (.p nilV)]), (7, .var [.v (.sl (sr.map PS.av)), .own 102 0, .v (.p nilV), .v (.p nilV), .v (.p nilV), .v (.p nilV)]), (91, .var [.v (.sl ((72 :: 80 :: 1 :: mid).map nV)), .v (iV (((72 :: 80 :: 1 :: mid).length - (l1).length : Nat) : Int)), .v (boV b1)]), (102, .lst 2 67 [])] 146 true) (by exact entA) ⟨n, 0, [], l1, b1, [], rfl, by omega, rfl, rfl, hb, hl, hs1, rfl, rfl⟩ ?_
    rintro _ _ ⟨m, i, vs, q, c, Q, rfl, him, hi, hQ, hbq, hq, hsq, hr, rfl⟩
    by_cases hgo : 0 < m ∧ c = false
    · obtain ⟨hm, rfl⟩ := hgo
      obtain ⟨k, rfl⟩ : ∃ k, m = k + 1 := ⟨m - 1, by omega⟩
      have dd1 : decide ((i : Int) < (n : Int)) = true := decide_eq_true (by omega)
      obtain ⟨hc, ho, hd⟩ := hg q hbq hq
      have e1 : runL g (k + 1) q false = ((g q).1 :: (runL g k (g q).2.1 (g q).2.2).1, (runL g k (g q).2.1 (g q).2.2).2) := rfl
      rw [e1] at hr
      have hlen := Zaw hd
      have hby := hbq.of_drop hd
      have hsq2 := Zaj hsq hd
      clear e1 hg
      generalize (g q).1 = x at *
      generalize (g q).2.1 = q2 at *
      generalize (g q).2.2 = c2 at *
      have hli : Q.length = i := by rw [hQ, hi, List.length_map]
      have fin : runL g n l1 b1 = ((vs ++ [x]) ++ (runL g k q2 c2).1, (runL g k q2 c2).2) := by rw [hr, List.append_assoc]; rfl
      have hQ2 : Q ++ [PE.av x] = (vs ++ [x]).map PE.av := by rw [hQ, List.map_append]; rfl
      clear hr
      have fin2 : ∀ N s1, N = k → s1 = mkS [(0, .v (.sl (Xi.map bV))), (2, .ptr 2 0), (6, .ptr 91 0), (7, .ptr 7 0), (8, .v (iV n)), (9, .v (iV (i + 1)))] [(2, .var [.v (.p nilV), .v (.p nilV), .v (.p nilV), .v (.p nilV), .v (.p nilV), .v (.p nilV)]), (7, .var [.v (.sl (sr.map PS.av)), .own 102 (i + 1), .v (.p nilV), .v (.p nilV), .v (.p nilV), .v (.p nilV)]), (91, .var [.v (.sl ((72 :: 80 :: 1 :: mid).map nV)), .v (iV (((72 :: 80 :: 1 :: mid).length - (q2).length : Nat) : Int)), .v (boV c2)]), (102, .lst 2 67 (Q ++ [PE.av x]))] 146 true → ∃ (m i : Nat) (vs : List PE) (q : List Nat) (c : Bool) (Q : List AV), m = N ∧ i + m = n ∧ i = vs.length ∧ Q = vs.map PE.av ∧ By q ∧ q.length ≤ 1000000000 ∧ (∃ j, q = (72 :: 80 :: 1 :: mid).drop j) ∧ runL g n l1 b1 = (vs ++ (runL g m q c).1, (runL g m q c).2) ∧ s1 = mkS [(0, .v (.sl (Xi.map bV))), (2, .ptr 2 0), (6, .ptr 91 0), (7, .ptr 7 0), (8, .v (iV n)), (9, .v (iV i))] [(2, .var [.v (.p nilV), .v (.p nilV), .v (.p nilV), .v (.p nilV), .v (.p nilV), .v (.p nilV)]), (7, .var [.v (.sl (sr.map PS.av)), .own 102 i, .v (.p nilV), .v (.p nilV), .v (.p nilV), .v (.p nilV)]), (91, .var [.v (.sl ((72 :: 80 :: 1 :: mid).map nV)), .v (iV (((72 :: 80 :: 1 :: mid).length - (q).length : Nat) : Int)), .v (boV c)]), (102, .lst 2 67 Q)] 146 true := fun N s1 hN hs => ⟨k, i + 1, vs ++ [x], q2, c2, Q ++ [PE.av x], hN.symm, by omega, by simp [hi], hQ2, hby, by omega, hsq2, fin, hs⟩
      have hin : i ≤ 1000000000 := by omega
      clear fin hQ2 ho hQ hi
      skip
      obtain ⟨lv, es⟩ := x
      obtain ⟨y, z, ⟨sy, h1⟩, h2⟩ := hc
      have h1 := h1 (72 :: 80 :: 1 :: mid) hsq hB
      have h2 := h2 (72 :: 80 :: 1 :: mid) (Zaj hsq sy) hB
      refine goJ ?_
      refine mcS [(100, 91)] (PCM.up h1) ?_
      refine goJ ?_
      refine T.drawC mixed ?_
      refine Zal (Zai (Zaa rfl) (Zan rfl) rfl) rfl rfl ?_
      refine Zbc (Zah (Zaa rfl) (Za8 rfl) rfl rfl rfl) rfl ?_
      refine Zal (Zbj (Zaa rfl) rfl) rfl rfl ?_
      refine Zal (Zbj (Zaa rfl) rfl) rfl rfl ?_
      refine Zbm [(100, 91)] (PCM.up h2) rfl rfl rfl rfl rfl rfl rfl ⟨rfl, trivial⟩ ⟨.inl rfl, trivial⟩ ?_
      refine Zal (Zdv (Zaa rfl) (Zb0 rfl) rfl rfl rfl) rfl rfl ?_
      refine Zal (Zar (Zaa rfl) (Zaf rfl) rfl rfl rfl rfl (Zbo rfl rfl) (Nat.le_of_ble_eq_true rfl)) rfl rfl ?_
      refine Ze2 (Zbe (Zaa rfl) (Zaf rfl) rfl rfl hli rfl rfl (by decide) rfl (by omega) (Nat.le_of_ble_eq_true rfl) rfl) rfl rfl rfl (fun i h => h) ?_
      refine Zal (Zai (Zaa rfl) (Zan rfl) rfl) rfl rfl ?_
      refine Ze2 (Zbi rfl (Zcg rfl) rfl rfl rfl rfl rfl (Nat.le_of_ble_eq_true rfl) rfl) rfl rfl rfl (fun i h => h) ?_
      refine ⟨by kernel_rfl, ?_⟩
      refine goJ ?_
      exact Zad (k := k) (s' := mkS [(0, .v (.sl (Xi.map bV))), (2, .ptr 2 0), (6, .ptr 91 0), (7, .ptr 7 0), (8, .v (iV n)), (9, .v (iV ((i : Int) + 1)))] [(2, .var [.v (.p nilV), .v (.p nilV), .v (.p nilV), .v (.p nilV), .v (.p nilV), .v (.p nilV)]), (7, .var [.v (.sl (sr.map PS.av)), .own 102 (i + 1), .v (.p nilV), .v (.p nilV), .v (.p nilV), .v (.p nilV)]), (91, .var [.v (.sl ((72 :: 80 :: 1 :: mid).map nV)), .v (iV (((72 :: 80 :: 1 :: mid).length - (q2).length : Nat) : Int)), .v (boV c2)]), (102, .lst 2 67 (Q ++ [_]))] 146 true) (by omega) (by exact entA) (fin2 _ _ rfl rfl)
    · have hend : runL g m q c = ([], q, c) := by
        cases c with
        | true => exact Zch g m q
        | false =>
          have : m = 0 := by
            rcases Nat.eq_zero_or_pos m with h | h
            · exact h
            · exact absurd ⟨h, rfl⟩ hgo
          subst this; rfl
      rw [hend, List.append_nil] at hr
      rw [hr]
      subst hQ hi
      have hli : (vs.map PE.av).length = vs.length := List.length_map ..
      clear hg hend
      by_cases hm : 0 < m
      · have hc : c = true := by
          cases c with
          | true => rfl
          | false => exact absurd ⟨hm, rfl⟩ hgo
        subst hc
        have dd1 : decide ((vs.length : Int) < (n : Int)) = true := decide_eq_true (by omega)
        rw [hrun] at hr
        injection hr with e1 e2
        injection e2 with e2 e3
        subst e1 e2
        subst e3
        refine T.seq ?_
        refine T.seq ?_
        refine T.region ?_
        refine runA ?_
        refine evG ggA (Zct (Zaa rfl) rfl) ?_
        refine runA ?_
        refine Zbs ?_
        refine Zbr ?_
        refine T.condF rfl (by first | rfl | assumption) ?_
        refine T.exit ?_
        refine osA ?_
        exact Zao (s' := mkS [(0, .v (.sl (Xi.map bV))), (2, .ptr 2 0), (6, .ptr 91 0), (7, .ptr 7 0)] [(2, .var [.v (.p nilV), .v (.p nilV), .v (.p nilV), .v (.p nilV), .v (.p nilV), .v (.p nilV)]), (7, .var [.v (.sl (sr.map PS.av)), .v (.sl (et.map PE.av)), .v (.p nilV), .v (.p nilV), .v (.p nilV), .v (.p nilV)]), (91, .var [.v (.sl ((72 :: 80 :: 1 :: mid).map nV)), .v (iV (((72 :: 80 :: 1 :: mid).length - (m2).length : Nat) : Int)), .v (boV true)])] 146 true) (by exact entA) rfl
      · have dd1 : decide ((vs.length : Int) < (n : Int)) = false := decide_eq_false (by omega)
        rw [hrun] at hr
        injection hr with e1 e2
        injection e2 with e2 e3
        subst e1 e2
        subst e3
        refine T.seq ?_
        refine T.seq ?_
        refine T.region ?_
        refine runA ?_
        refine Zbs ?_
        refine Zbr ?_
        refine T.condF rfl (by first | rfl | assumption) ?_
        refine T.exit ?_
        refine osA ?_
        exact Zao (s' := mkS [(0, .v (.sl (Xi.map bV))), (2, .ptr 2 0), (6, .ptr 91 0), (7, .ptr 7 0)] [(2, .var [.v (.p nilV), .v (.p nilV), .v (.p nilV), .v (.p nilV), .v (.p nilV), .v (.p nilV)]), (7, .var [.v (.sl (sr.map PS.av)), .v (.sl (et.map PE.av)), .v (.p nilV), .v (.p nilV), .v (.p nilV), .v (.p nilV)]), (91, .var [.v (.sl ((72 :: 80 :: 1 :: mid).map nV)), .v (iV (((72 :: 80 :: 1 :: mid).length - (m2).length : Nat) : Int)), .v (boV d2)])] 146 true) (by exact entA) rfl
  clear hg hN hrun hb hl hs1 hsuf hnl
  rintro _ rfl
  refine goJ ?_
  refine mcS [(100, 91)] (PCM.up c3) ?_
  refine goJ ?_
  refine mcW [(100, 91), (110, 7)] (PCM.up c4) ?_
  rcases ho with ⟨rfl, rfl, rfl⟩ | ⟨rfl, L, ee, cE, ho⟩
  · refine goJ ?_
    exact rfl
  · rcases ho with ⟨u0, rfl, rfl⟩ | ⟨u0, ho⟩
    · refine goJ ?_
      refine evG ggA (Zae (Zaa rfl) rfl rfl cE) ?_
      refine goJ ?_
      exact rfl
    · refine goJ ?_
      refine evG ggA (Zae (Zaa rfl) rfl rfl cE) ?_
      refine goJ ?_
      refine evG ggA (Zdg (l := L) (Zaa rfl) Zem Za3 Zel rfl) ?_
      refine goJ ?_
      refine evG ggA (Zdg (l := Xi) (Zaa rfl) Zem Za3 Zel rfl) ?_
      rcases ho with ⟨u1, rfl, rfl⟩ | ⟨u1, rfl, rfl⟩
      · refine evG ggA (Zez (Zaa rfl) rfl rfl (congrArg some u1)) ?_
        refine goJ ?_
        exact rfl
      · refine evG ggA (Zez (Zaa rfl) rfl rfl (congrArg some u1)) ?_
        refine goJ ?_
        exact rfl
end Ab
namespace Ab
open Go Go.RowKit Go.Proofs Hp
set_option maxRecDepth 100000
set_option maxHeartbeats 4000000
theorem str_cmp {a b : List Nat} (ha : By a) (hb : By b) : ((strB (a.map fun n : Nat => (n : Int))).toList == (strB (b.map fun n : Nat => (n : Int))).toList) = decide (a = b) := by
 have key : ∀ l : List Nat, (strB (l.map fun n : Nat => (n : Int))).toList = l.map UInt8.ofNat := fun l => by
  rw [ByteArray.toList_eq]
  unfold strB
  rw [strOfNums_data, List.map_map]; rfl
 have back : ∀ l : List Nat, By l → (l.map UInt8.ofNat).map UInt8.toNat = l := fun l hl => by
  rw [List.map_map]
  conv => rhs; rw [← List.map_id l]
  refine List.map_congr_left fun x hx => ?_
  have := hl x hx
  show (UInt8.ofNat x).toNat = x
  rw [UInt8.toNat_ofNat']
  omega
 rw [key, key]
 by_cases h : a = b
 ·subst h; simp
 ·rw [decide_eq_false h, beq_eq_false_iff_ne]
  intro e
  exact h (by rw [← back a ha, ← back b hb, e])
theorem encB_by {p : PP} (h : p.ok) : By (encB p) := By.app (By.app (fun c hc => by simp at hc; omega) (eP_by h)) (fun c hc => by
 have := Zf1 (Zf5 p)
 simp [Zc5] at hc
 omega)
theorem xs_cnt (p : PP) : p.xs.length = p.binds.length + 2 * p.cert.length := by
  unfold PP.xs PP.binds
  rw [List.length_append, List.length_append, List.length_map]
  have : (p.cert.flatMap cE).length = (p.cert.flatMap (·.ds)).length + 2 * p.cert.length := by
    induction p.cert with
    | nil => rfl
    | cons c l ih =>
      rw [List.flatMap_cons, List.flatMap_cons, List.length_append, List.length_append, List.length_cons, ih]
      have : (cE c).length = c.ds.length + 2 := by unfold cE; simp
      omega
  omega
theorem cert_le (p : PP) : p.cert.length ≤ (eP p).length := by
 have h1 : p.cert.length ≤ (eL eC p.cert).length := by
  unfold eL
  rw [List.length_append]
  have : p.cert.length ≤ (p.cert.flatMap eC).length := by
   induction p.cert with
   | nil => simp
   | cons c l ih => rw [List.flatMap_cons, List.length_append, List.length_cons]; have := rd_dcert.pos c; omega
  omega
 unfold eP
 simp only [List.length_append]
 omega
abbrev rd_lde := Zfa 2 rd_deta eE_two (Zf4 2 (by omega) (by omega))
abbrev rd_ldc := Zfa 1 rd_dcert rd_dcert.pos (Zf4 1 (by omega) (by omega))
abbrev rd_lds := Zfa 1 rd_dspace rd_dspace.pos (Zf4 1 (by omega) (by omega))
abbrev rd_ldm := Zfa 1 rd_dmat rd_dmat.pos (Zf4 1 (by omega) (by omega))
theorem ddecode_ex {l : List Nat} (hl : By l) (hn : l.length ≤ 1500000) : ∃ (p : PP) (e : Int), PC Tryz.prog 18 [.sl (l.map nV)] (.tup [p.av, iV e]) ∧ p.ok ∧ ((e = 0 ∧ fewB p = true ∧ encB p.can = l ∧ p.can = p ∧ (eP p.can).length ≤ 15000000) ∨ ((e = 3 ∨ e = 26) ∧ p = ZP)) ∧
    (¬ Hd l → e = 3) ∧ (Hd l → ¬ Sm l → e = 26) ∧ (Hd l → Sm l → e = 0 ∨ e = 3) ∧ ∀ w : PP, w.ok → w.can = w → fewB w = true → l = encB w → e = 0 ∧ p = w := by
  have hdw : ∀ w : PP, Hd (encB w) ∧ Sm (encB w) := fun w => by
    refine ⟨⟨?_, rfl⟩, ?_⟩
    · rw [Zf2, List.length_append]
      show 7 ≤ (eP w).length + 1 + 1 + 1 + 4
      omega
    · rw [Zf2]; exact (Sm_iff _ _ _ _ _).2 rfl
  by_cases hh : Hd l
  · obtain ⟨mid, y0, y1, y2, y3, rfl⟩ := hh.split
    have hbd : By (72 :: 80 :: 1 :: mid) := fun c hc => hl c (List.mem_append.2 (.inl hc))
    have hby : By mid := fun c hc => hbd c (by simp [hc])
    have hm : mid.length ≤ 1500000 := by rw [List.length_append] at hn; simp only [List.length_cons] at hn; omega
    by_cases hs : Sm ((72 :: 80 :: 1 :: mid) ++ [y0, y1, y2, y3])
    · have hs' := (Sm_iff _ _ _ _ _).1 hs
      rw [← hs'] at hs hh hl ⊢
      obtain ⟨⟨sr, et, df, ce, sp, ma⟩, l6, b6, ⟨l1, b1, ⟨u1, c1⟩, l2, b2, ⟨u2, c2⟩, l3, b3, ⟨u3, c3⟩, l4, b4, ⟨u4, c4⟩, l5, b5, ⟨u5, c5⟩, c6⟩, ho, hd, -, sz, r⟩ := (Zax (Zco rd_dsers) (Zax (Zco rd_lde) (Zax (Zco rd_ddefs) (Zax (Zco rd_ldc) (Zax (Zco rd_lds) rd_ldm))))).law mid hby (by omega) false
      have hpo : (PP.mk sr et df ce sp ma).ok := ⟨ho.1, ho.2.1, ho.2.2.1, ho.2.2.2.1, ho.2.2.2.2.1, ho.2.2.2.2.2⟩
      have back : ∀ w : PP, w.ok → w.can = w → fewB w = true → (72 :: 80 :: 1 :: mid) ++ Zc5 (fnv (72 :: 80 :: 1 :: mid)) = encB w → PP.mk sr et df ce sp ma = w ∧ l6 = [] ∧ b6 = false := fun w hw _ hf he => by
        have hmid : mid = eP w := by
          rw [Zf2] at he
          have := congrArg List.length he
          simp only [List.length_append, List.length_cons] at this
          have h4 : ∀ h, (Zc5 h).length = 4 := fun _ => rfl
          rw [h4, h4] at this
          have := (List.append_inj he (by simp only [List.length_cons]; omega)).1
          injection this with _ this
          injection this with _ this
          injection this
        obtain ⟨g1, g2⟩ := few_good hf
        obtain ⟨e1, e2, e3⟩ := r (w.ser, w.eta, w.defs, w.cert, w.spc, w.mat) [] ⟨hw.1, hw.2.1, hw.2.2.1, hw.2.2.2.1, hw.2.2.2.2.1, hw.2.2.2.2.2⟩ ⟨fun _ _ => trivial, fun _ _ => trivial, g1, g2, fun _ _ => trivial, fun _ _ => trivial⟩ rfl (by rw [List.append_nil]; exact hmid)
        injection e1 with f1 e1
        injection e1 with f2 e1
        injection e1 with f3 e1
        injection e1 with f4 e1
        injection e1 with f5 f6
        obtain ⟨sr', et', df', ce', sp', ma'⟩ := w
        subst f1 f2 f3 f4 f5 f6
        exact ⟨rfl, e2, e3⟩
      cases b6 with
      | true =>
        exact ⟨ZP, 3, ddec_p hbd (by omega) u1 u2 u3 u4 u5 c1 c2 c3 c4 c5 c6 (.inl ⟨rfl, rfl, rfl⟩), ZP_ok, .inr ⟨.inl rfl, rfl⟩, fun h => absurd hh h, fun _ h => absurd hs h, fun _ _ => .inr rfl, fun w h1 h2 h3 h4 => by
          obtain ⟨-, -, g⟩ := back w h1 h2 h3 h4
          cases g⟩
      | false =>
        obtain ⟨-, sz⟩ := sz rfl
        have hez : (eP (PP.mk sr et df ce sp ma).can).length ≤ 10 * mid.length := by
          have sz : (eL eS (sr.map PS.can) ++ (eL eE (et.map id) ++ (eL eD (df.map PB.can) ++ (eL eC (ce.map PZ.can) ++ (eL eF (sp.map PF.can) ++ eL eM (ma.map PM.can)))))).length ≤ 10 * (mid.length - l6.length) := sz
          rw [List.map_id] at sz
          show (eL eS (sr.map PS.can) ++ (eL eE et ++ (eL eD (df.map PB.can) ++ (eL eC (ce.map PZ.can) ++ (eL eF (sp.map PF.can) ++ eL eM (ma.map PM.can)))))).length ≤ _
          omega
        have hbn : (PP.mk sr et df ce sp ma).binds.length ≤ 10 * mid.length := by
          have := eP_binds (PP.mk sr et df ce sp ma).can
          rw [binds_can, List.length_map] at this
          omega
        have hcl : (PP.mk sr et df ce sp ma).xs.length ≤ 100000000 := by
          have h1 := xs_cnt (PP.mk sr et df ce sp ma)
          have h2 := cert_le (PP.mk sr et df ce sp ma).can
          have h3 : (PP.mk sr et df ce sp ma).can.cert.length = ce.length := by show (ce.map PZ.can).length = _; rw [List.length_map]
          have h4 : (PP.mk sr et df ce sp ma).cert.length = ce.length := rfl
          omega
        have hbB : By ((72 :: 80 :: 1 :: mid) ++ Zc5 (fnv (72 :: 80 :: 1 :: mid))) := hl
        cases hfw : fewB (PP.mk sr et df ce sp ma) with
        | false =>
          have cN := rencode_no hpo hcl hfw
          exact ⟨ZP, 3, ddec_p hbd (by omega) u1 u2 u3 u4 u5 c1 c2 c3 c4 c5 c6 (.inr ⟨rfl, [], 7, cN, .inl ⟨rfl, rfl, rfl⟩⟩), ZP_ok, .inr ⟨.inl rfl, rfl⟩, fun h => absurd hh h, fun _ h => absurd hs h, fun _ _ => .inr rfl, fun w h1 h2 h3 h4 => by
            obtain ⟨g, -, -⟩ := back w h1 h2 h3 h4
            rw [g, h3] at hfw; cases hfw⟩
        | true =>
          have cE := rencode_p hpo hcl hfw (by omega)
          have hbe : By (encB (PP.mk sr et df ce sp ma).can) := encB_by (PP.can_ok hpo)
          rw [nV_bVd] at cE
          by_cases hq : encB (PP.mk sr et df ce sp ma).can = (72 :: 80 :: 1 :: mid) ++ Zc5 (fnv (72 :: 80 :: 1 :: mid))
          · refine ⟨PP.mk sr et df ce sp ma, 0, ddec_p hbd (by omega) u1 u2 u3 u4 u5 c1 c2 c3 c4 c5 c6 (.inr ⟨rfl, _, 0, cE, .inr ⟨rfl, .inr ⟨by rw [str_cmp hbe hbB, decide_eq_true hq]; rfl, rfl, rfl⟩⟩⟩), hpo, .inl ⟨rfl, hfw, hq, ?_, by omega⟩, fun h => absurd hh h, fun _ h => absurd hs h, fun _ _ => .inl rfl, fun w h1 h2 h3 h4 => ⟨rfl, (back w h1 h2 h3 h4).1⟩⟩
            exact (back _ (PP.can_ok hpo) (PP.can_can _) (by rw [fewB_can]; exact hfw) hq.symm).1.symm
          · exact ⟨ZP, 3, ddec_p hbd (by omega) u1 u2 u3 u4 u5 c1 c2 c3 c4 c5 c6 (.inr ⟨rfl, _, 0, cE, .inr ⟨rfl, .inl ⟨by rw [str_cmp hbe hbB, decide_eq_false hq]; rfl, rfl, rfl⟩⟩⟩), ZP_ok, .inr ⟨.inl rfl, rfl⟩, fun h => absurd hh h, fun _ h => absurd hs h, fun _ _ => .inr rfl, fun w h1 h2 h3 h4 => by
              obtain ⟨g, -, -⟩ := back w h1 h2 h3 h4
              rw [g, h2] at hq
              exact absurd h4.symm hq⟩
    · exact ⟨ZP, 26, ddec_sum hbd (by omega) fun e => hs ((Sm_iff _ _ _ _ _).2 e), ZP_ok, .inr ⟨.inr rfl, rfl⟩, fun h => absurd hh h, fun _ _ => rfl, fun _ h => absurd h hs, fun w h1 h2 h3 h4 => by
        rw [h4] at hs
        exact absurd (hdw w).2 hs⟩
  · exact ⟨ZP, 3, ddec_hdr (by omega) hh, ZP_ok, .inr ⟨.inl rfl, rfl⟩, fun _ => rfl, fun h => absurd h hh, fun h => absurd h hh, fun w h1 h2 h3 h4 => by
      rw [h4] at hh
      exact absurd (hdw w).1 hh⟩
theorem reads_p {l : List Nat} (hl : By l) : PC Tryz.prog 4 [.sl (l.map nV)] (boV true) := by
 have ca := awake_p
 have eml : (l.map nV).length = l.length := List.length_map ..
 by_cases hn : l.length ≤ 20000
 ·have t0 : decide (((l.map nV).length : Int) > 20000) = false := decide_eq_false (by omega)
  obtain ⟨p, e, cD, hp, hc, f1, f2, f3, f4⟩ := decode_ex hl (by omega)
  obtain ⟨q, f, cF, hq, hd, g1, g2, g3, g4⟩ := ddecode_ex hl (by omega)
  have key : f = e ∧ q = p := by
   rcases hc with ⟨h0, hf, he, hpc, -⟩ | ⟨he, hpz⟩
   ·rw [hpc] at he
    obtain ⟨k1, k2⟩ := g4 p hp hpc hf he.symm
    exact ⟨by rw [k1, h0], k2⟩
   ·rcases hd with ⟨h0, hf, he', hpc, -⟩ | ⟨he', hqz⟩
    ·rw [hpc] at he'
     obtain ⟨k1, -⟩ := f4 q hq hpc hf he'.symm
     rw [k1] at he
     rcases he with h | h <;> cases h
    ·refine ⟨?_, by rw [hpz, hqz]⟩
     by_cases hH : Hd l
     ·by_cases hS : Sm l
      ·have a1 := f3 hH hS
       have a2 := g3 hH hS
       omega
      ·rw [f2 hH hS, g2 hH hS]
     ·rw [f1 hH, g1 hH]
  obtain ⟨rfl, rfl⟩ := key
  have cS := same_r hp
  have t1 : (f == f) = true := beq_self_eq_true f
  obtain ⟨sr, et, df, ce, sp, ma⟩ := q
  clear f1 f2 f3 f4 g1 g2 g3 g4 hc hd hp hq
  refine Zas true Tryz.func4 rfl rfl rfl (Nat.le_of_ble_eq_true rfl) Za4.tmp ?_
  refine goJ ?_
  refine evG ggA (Zae (Zaa rfl) rfl rfl cD) ?_
  refine goJ ?_
  refine evG ggA (Zae (Zaa rfl) rfl rfl cF) ?_
  refine goJ ?_
  refine evG ggA (Zae (Zaa rfl) rfl rfl cS) ?_
  refine goJ ?_
  refine evG ggA (Zae (Zaa rfl) rfl rfl ca) ?_
  refine goJ ?_
  exact rfl
 ·have t0 : decide (((l.map nV).length : Int) > 20000) = true := decide_eq_true (by omega)
  refine Zas true Tryz.func4 rfl rfl rfl (Nat.le_of_ble_eq_true rfl) Za4.tmp ?_
  refine goJ ?_
  refine evG ggA (Zae (Zaa rfl) rfl rfl ca) ?_
  refine goJ ?_
  exact rfl
end Ab
namespace Go.Proofs.YtbpdgaolmikjbaaGreat
open Go.ChangeShapes Go.WideShapes Go.ChangeAt Go.RowKit Ab
set_option maxRecDepth 100000
theorem Zff (os : Os) (started : os.Started) (H : Type) (enc : TypeId × Value → H) :
  ReturnsInHanded {} Tryz.checked os 4 .any (Rows.interchangeReadsSpec.pre6 enc Tryz.prog Tryz.f4 Rows.interchangeReadsRow.domain false) (Rows.interchangeReadsSpec.post enc Tryz.prog Tryz.f4 false true false false) := by
 refine returnsInHanded_of_change (C := Tryz.checked) own started (by kernel_rfl) Tryz.func4
  (ChangeSpec.witness6 (enc := enc) (C := Tryz.checked) false ⟨#[], #[.slice none 0 0], []⟩ 8 (by kernel_rfl) (by kernel_rfl) (by kernel_rfl) (by kernel_rfl)) ?_
 intro W base args ds gs before hval0 hW hcnd _
 have hval : ∀ (j : Nat) t v, Tryz.f4.params[j]? = some t → args[j]? = some v → Value.okWide Tryz.prog W .any base t v := hval0
 have hW' := hW
 obtain ⟨p, q, hA0, hV, rfl, hfz, hnd⟩ := hW
 have hA : DataW.TrodAll enc Tryz.prog W 0 (fun _ => true) true Tryz.f4.params.toList args.toList ds p := hA0
 rw [Tryz.params4] at hA hval
 obtain ⟨v0, d0, rfl, rfl, h0⟩ := trodAll_one hA
 obtain ⟨rfl, rfl⟩ := trodVars_none hV
 obtain ⟨l, rl, hl⟩ := bytes_in (hval 0 32 v0 rfl rfl) h0
 clear hA0 hval0
 simp only [List.append_nil] at hW'
 refine ((reads_p hl).2 W NoM (okNo W) [v0] (repsCons rl .nil)).mono fun e W' ⟨v, he, hb, hr⟩ => ?_
 subst he
 obtain rfl := hr.p_inv
 refine ⟨_, rfl, _, _, _, [], p, [], hW', ?_, ?_, ?_, hb.frame _, fun h => by cases h⟩
 ·exact trodAll_mk1 (shut_bool und_bool true)
 ·exact trodAll_mk1 (bytesAgain h0 hb fun x hx => hW'.lt x (by simp [hx]))
 ·rfl
theorem interchangeReads_holds : Rows.InterchangeReadsSaid :=
 OpenClaim.holds_of_wide 4 Tryz.f4 rfl rfl rfl rfl rfl rfl rfl ⟨rfl, rfl, rfl, rfl, rfl⟩ rfl rfl rfl rfl rfl (by kernel_rfl) Tryz.func4 (by kernel_rfl)
  (of_decide_eq_true (by kernel_rfl)) (by unfold Func.isWrapper; rw [if_neg (of_decide_eq_false (by kernel_rfl))]; exact ⟨rfl, rfl⟩)
  (fun os started H enc _ => Zff os started H enc)
end Go.Proofs.YtbpdgaolmikjbaaGreat
