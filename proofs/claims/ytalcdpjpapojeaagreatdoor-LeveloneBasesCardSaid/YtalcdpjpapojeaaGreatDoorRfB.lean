/- Package ref01. -/
import Derived.Test.YtalcdpjpapojeaaGreatDoorRfA
set_option linter.all false
namespace Ab
open Go Go.RowKit Go.Proofs Hp
set_option maxRecDepth 100000
theorem vl_nil : vl [] = 0 := rfl
theorem drop_step {ds : List Int} {j : Nat} (h : j < ds.length) : ds.drop j = ds[j] :: ds.drop (j + 1) := List.drop_eq_getElem_cons h
theorem Zfe {ds : List Int} {j : Nat} (h : j < ds.length) : (ds.map u32)[((j : Nat) : Int).toNat]? = some (.p (.int .u32 ds[j])) := Zff (by rw [Int.toNat_natCast]; exact List.getElem?_eq_getElem h)
set_option maxHeartbeats 1000000 in
theorem word_p {ds : List Int} (hd : ∀ d, d ∈ ds → Zal d) (hl : ds.length ≤ 2) : PW Tryz.prog 133 [.sl (ds.map u32)] (.p (.int .u64 (vl ds))) := by
 have hlm : (ds.map u32).length = ds.length := by simp
 refine Zaz false Tryz.func133 rfl rfl rfl (Nat.le_of_ble_eq_true rfl) Zac.tmp ?_
 refine r1A ?_
 refine r1A ?_
 refine T.seqE (mkS [(3, .v (.p (.int .u64 (vl ds))))] [] 21 false) ?_ ?_
 ·refine r1A ?_
  refine T.block ?_
  refine T.loop (fun k s1 => ∃ j : Nat, k = j ∧ j ≤ ds.length ∧ s1 = mkS [(0, .v (.sl (ds.map u32))), (3, .v (.p (.int .u64 (vl (ds.drop j))))), (4, .v (iV ((j : Int) - 1)))] [] 21 false) ds.length
   (s' := mkS [(0, .v (.sl (ds.map u32))), (3, .v (.p (.int .u64 0))), (4, .v (iV (((ds.map u32).length : Int) - 1)))] [] 21 false) entA ⟨ds.length, rfl, Nat.le_refl _, by simp [vl_nil]⟩ ?_
  rintro j _ ⟨_, rfl, hj, rfl⟩
  by_cases h0 : j = 0
  ·subst h0
   have hb : decide (((0 : Nat) : Int) - 1 ≥ 0) = false := dC
   refine goA ?_
   exact Zae (s' := mkS [(3, .v (.p (.int .u64 (vl (ds.drop 0)))))] [] 21 false) entA rfl
  ·have hb : decide ((j : Int) - 1 ≥ 0) = true := by simp; omega
   obtain ⟨i, rfl⟩ : ∃ i, j = i + 1 := ⟨j - 1, oM⟩
   have hlt : i < ds.length := oM
   have hg : (ds.map u32)[(((i + 1 : Nat) : Int) - 1).toNat]? = some (.p (.int .u32 ds[i])) := Zff (by rw [show (((i + 1 : Nat) : Int) - 1).toNat = i by omega]; exact List.getElem?_eq_getElem hlt)
   have hdi : 0 ≤ ds[i] ∧ ds[i] < 4294967296 := hd _ (List.getElem_mem hlt)
   have hv0 : 0 ≤ vl (ds.drop (i + 1)) := Zcw fun d h => hd d (List.mem_of_mem_drop h)
   have hv1 : vl (ds.drop (i + 1)) < 4294967296 := by
    have := vl_lt (ds := ds.drop (i + 1)) fun d h => hd d (List.mem_of_mem_drop h)
    have h2 := Zed (ds.drop (i + 1)).length 1 (by simp; omega)
    have h3 : pw 1 = 4294967296 := dC
    omega
   have hs : IntKind.u64.wrap (vl (ds.drop (i + 1)) * 2 ^ (min (32 : Int).toNat IntKind.u64.bits)) = vl (ds.drop (i + 1)) * 4294967296 := by
    rw [show ((2 : Int) ^ (min (32 : Int).toNat IntKind.u64.bits)) = 4294967296 from dC]
    exact u64w oM oM
   have hs2 : IntKind.u64.wrap (vl (ds.drop (i + 1)) * 4294967296 + ds[i]) = vl (ds.drop i) := by
    rw [u64w oM oM, drop_step hlt, vl_cons, B_def]; omega
   refine goA ?_
   refine evG ggA (ss_shl (Zaa rfl) rfl rfl dC hs) ?_
   refine goA ?_
   refine ixG hg ?_
   refine evG ggA (Zbf (Zaa rfl) (Zau rfl) (Zau rfl) rfl (u64w hdi.1 oM)) ?_
   refine evG ggA (Zb3 (Zaa rfl) rfl rfl hs2) ?_
   refine goA ?_
   refine Zab (k := i) (s' := mkS [(0, .v (.sl (ds.map u32))), (3, .v (.p (.int .u64 (vl (ds.drop i))))), (4, .v (iV (((i + 1 : Nat) : Int) - 1 - 1)))] [] 21 false) oM entA ⟨i, rfl, oM, by rw [show ((i + 1 : Nat) : Int) - 1 - 1 = (i : Int) - 1 by omega]⟩
 refine goA ?_
 exact rfl
theorem dgs_lt_len {x y : Nat} (h : (dgs x).length < (dgs y).length) : x < y := by
 by_cases h1 : x < y
 ·exact h1
 ·exfalso
  have hx := Zcr (dgs_dig (n := x))
  have hy := Zcr (dgs_dig (n := y))
  have := Zcm hy hx (canon_of (dgs_last y)) (by
   show vl (dgs y) ≤ vl (dgs x)
   rw [Zcc, Zcc]; omega)
  omega
theorem Ze5 {x y : Nat} (h : x ≤ y) : (dgs x).length ≤ (dgs y).length := by
 by_cases h1 : (dgs y).length < (dgs x).length
 ·have := dgs_lt_len h1; omega
 ·omega
set_option maxHeartbeats 1000000 in
theorem below_p (x y : Nat) (hl : (dgs x).length ≤ 17592186044416) : PW Tryz.prog 169 [.sl ((dgs x).map u32), .sl ((dgs y).map u32)] (.p (.bool (decide (x < y)))) := by
 have vx := Zcc x
 have vy := Zcc y
 have hlx : (dgs x).length < (dgs y).length → x < y := dgs_lt_len
 have hly : (dgs y).length < (dgs x).length → y < x := dgs_lt_len
 have hdx := Zcr (dgs_dig (n := x))
 have hdy := Zcr (dgs_dig (n := y))
 rw [vl_def] at vx vy
 generalize dgs x = ds at *
 generalize dgs y = es at *
 have hlm : (ds.map u32).length = ds.length := by simp
 by_cases h1 : ds.length = es.length
 ·have hb1 : (((ds.map u32).length : Int) != ((es.map u32).length : Int)) = false := by simp [h1]
  refine Zaz false Tryz.func169 rfl rfl rfl (Nat.le_of_ble_eq_true rfl) Zac.tmp ?_
  refine r1A ?_
  refine T.seqE (mkS [(0, .v (.sl (ds.map u32))), (1, .v (.sl (es.map u32)))] [] 41 false) ?_ ?_
  ·refine goA ?_
   exact midE
  refine T.seqI (fun s1 => decide (x < y) = false ∧ s1 = mkS [] [] 41 false) ?_ ?_
  ·refine r1A ?_
   refine T.block ?_
   refine T.loop (fun k s1 => ∃ j : Nat, k = j ∧ j ≤ ds.length ∧ (∀ i, j ≤ i → i < ds.length → ds.getD i 0 = es.getD i 0) ∧ s1 = mkS [(0, .v (.sl (ds.map u32))), (1, .v (.sl (es.map u32))), (5, .v (iV ((j : Int) - 1)))] [] 41 false) ds.length
    (s' := mkS [(0, .v (.sl (ds.map u32))), (1, .v (.sl (es.map u32))), (5, .v (iV (((ds.map u32).length : Int) - 1)))] [] 41 false) entA ⟨ds.length, rfl, Nat.le_refl _, fun i h2 h3 => absurd h3 oM, by simp⟩ ?_
   rintro j _ ⟨_, rfl, hj, hz, rfl⟩
   by_cases h0 : j = 0
   ·subst h0
    have hb : decide (((0 : Nat) : Int) - 1 ≥ 0) = false := dC
    have hxy : decide (x < y) = false := by
     have e := Zc9 (f := fun i => ds.getD i 0) (g := fun i => es.getD i 0) (n := ds.length) fun i hi => hz i oM hi
     rw [← h1] at vy
     simp; omega
    refine goA ?_
    exact Zae (s' := mkS [] [] 41 false) entA ⟨hxy, rfl⟩
   ·have hb : decide ((j : Int) - 1 ≥ 0) = true := by simp; omega
    obtain ⟨i, rfl⟩ : ∃ i, j = i + 1 := ⟨j - 1, oM⟩
    have hlt : i < ds.length := oM
    have hlt2 : i < es.length := oM
    have hg : (ds.map u32)[(((i + 1 : Nat) : Int) - 1).toNat]? = some (.p (.int .u32 ds[i])) := Zff (by rw [show (((i + 1 : Nat) : Int) - 1).toNat = i by omega]; exact List.getElem?_eq_getElem hlt)
    have hg2 : (es.map u32)[(((i + 1 : Nat) : Int) - 1).toNat]? = some (.p (.int .u32 es[i])) := Zff (by rw [show (((i + 1 : Nat) : Int) - 1).toNat = i by omega]; exact List.getElem?_eq_getElem hlt2)
    have gx : ds.getD i 0 = ds[i] := by simp [hlt]
    have gy : es.getD i 0 = es[i] := by simp [hlt2]
    by_cases h2 : ds[i] = es[i]
    ·have hb2 : (ds[i] != es[i]) = false := by simp [h2]
     refine goA ?_
     refine ixG hg ?_
     refine ixG hg2 ?_
     refine Zab (k := i) (s' := mkS [(0, .v (.sl (ds.map u32))), (1, .v (.sl (es.map u32))), (5, .v (iV (((i + 1 : Nat) : Int) - 1 - 1)))] [] 41 false) oM entA ⟨i, rfl, oM, fun k h3 h4 => ?_, by rw [show ((i + 1 : Nat) : Int) - 1 - 1 = (i : Int) - 1 by omega]⟩
     by_cases h5 : k = i
     ·rw [h5, gx, gy, h2]
     ·exact hz k oM h4
    ·have hb2 : (ds[i] != es[i]) = true := by simp [h2]
     have hxy : decide (x < y) = decide (ds[i] < es[i]) := by
      rw [decide_eq_decide]
      rw [← h1] at vy hdy
      constructor
      ·intro h
       by_cases h3 : ds[i] < es[i]
       ·exact h3
       ·exfalso
        have := Zfd (n := ds.length) (j := i) hdy hdx hlt (fun k h4 h5 => (hz k oM h5).symm) (by show es.getD i 0 < ds.getD i 0; rw [gx, gy]; omega)
        omega
      ·intro h
       have := Zfd (n := ds.length) (j := i) hdx hdy hlt (fun k h4 h5 => hz k oM h5) (by show ds.getD i 0 < es.getD i 0; rw [gx, gy]; exact h)
       omega
     rw [hxy]
     refine goA ?_
     refine ixG hg ?_
     refine ixG hg2 ?_
     refine ixG hg ?_
     refine ixG hg2 ?_
     exact rfl
  rintro _ ⟨hxy, rfl⟩
  rw [hxy]
  refine goA ?_
  exact rfl
 ·have hb1 : (((ds.map u32).length : Int) != ((es.map u32).length : Int)) = true := by simp; omega
  have e : decide (x < y) = decide (((ds.map u32).length : Int) < ((es.map u32).length : Int)) := by
   rw [decide_eq_decide]
   simp only [List.length_map]
   constructor
   ·intro h
    by_cases h2 : ds.length < es.length
    ·omega
    ·have := hly oM; omega
   ·intro h; exact hlx oM
  rw [e]
  refine Zaz false Tryz.func169 rfl rfl rfl (Nat.le_of_ble_eq_true rfl) Zac.tmp ?_
  refine goA ?_
  exact rfl
theorem shr32 {x : Int} (h : 0 ≤ x) : x.fdiv (2 ^ (min (32 : Int).toNat IntKind.u64.bits)) = x / 4294967296 := by
 rw [show ((2 : Int) ^ (min (32 : Int).toNat IntKind.u64.bits)) = 4294967296 from dC, Int.fdiv_eq_ediv_of_nonneg _ dC]
theorem range_snoc (f : Nat → Int) (i : Nat) : (List.range (i + 1)).map f = (List.range i).map f ++ [f i] := by simp [List.range_succ]
theorem u32_one {d : Int} : ∀ a, a ∈ [AV.p (.int .u32 d)] → a.cells.length = 1 := fun a ha => by rw [List.mem_singleton] at ha; subst ha; rfl
set_option maxHeartbeats 2000000 in
theorem plus_p {ds es : List Int} (hd : ∀ d, d ∈ ds → Zal d) (he : ∀ d, d ∈ es → Zal d) (hl : ds.length ≤ 17592186044416) (hl2 : es.length ≤ 17592186044416) : PW Tryz.prog 159 [.sl (ds.map u32), .sl (es.map u32)] (.sl ((plusL ds es).map u32)) := by
 obtain ⟨N, hN⟩ : ∃ N, N = max ds.length es.length := ⟨_, rfl⟩
 have hNb : N ≤ 17592186044416 := oM
 refine Zaz false Tryz.func159 rfl rfl rfl (Nat.le_of_ble_eq_true rfl) Zac.tmp ?_
 refine r1A ?_
 refine r1A ?_
 refine r1A ?_
 refine T.seqE (mkS [(5, .own 100 N), (6, .v (.p (.int .u64 (pC ds es N))))] [(100, .lst 1 74 (((List.range N).map (pO ds es)).map u32))] 56 false) ?_ ?_
 ·refine r1A ?_
  refine T.block ?_
  refine T.loop (fun k s1 => ∃ i : Nat, k = N - i ∧ i ≤ N ∧ s1 = mkS [(0, .v (.sl (ds.map u32))), (1, .v (.sl (es.map u32))), (5, .own 100 i), (6, .v (.p (.int .u64 (pC ds es i)))), (7, .v (iV (i : Nat)))] [(100, .lst 1 74 (((List.range i).map (pO ds es)).map u32))] 56 false) N
   (s' := mkS [(0, .v (.sl (ds.map u32))), (1, .v (.sl (es.map u32))), (5, .own 100 0), (6, .v (.p (.int .u64 0))), (7, .v (iV (0 : Nat)))] [(100, .lst 1 74 [])] 56 false) entA ⟨0, rfl, Nat.zero_le _, rfl⟩ ?_
  rintro n _ ⟨i, rfl, hi, rfl⟩
  have hc := pC_b hd he i
  have h1 := gd_b hd i
  have h2 := gd_b he i
  by_cases hlt : i < N
  ·refine T.seqI (fun s1 => s1 = mkS [(0, .v (.sl (ds.map u32))), (1, .v (.sl (es.map u32))), (5, .own 100 i), (6, .v (.p (.int .u64 (pC ds es i)))), (7, .v (iV (i : Nat)))] [(100, .lst 1 74 (((List.range i).map (pO ds es)).map u32))] 56 false) ?_ ?_
   ·by_cases hA : i < ds.length
    ·have hA' : decide ((i : Int) < ((ds.map u32).length : Int)) = true := by simp; omega
     refine goA ?_
     exact midE
    ·have hA' : decide ((i : Int) < ((ds.map u32).length : Int)) = false := by simp; omega
     have hB' : decide ((i : Int) < ((es.map u32).length : Int)) = true := by simp; omega
     refine goA ?_
     exact midE
   rintro _ rfl
   refine T.seq ?_
   refine T.block ?_
   refine r1A ?_
   refine T.seqE (mkS [(0, .v (.sl (ds.map u32))), (1, .v (.sl (es.map u32))), (5, .own 100 i), (7, .v (iV (i : Nat))), (8, .v (.p (.int .u64 (pC ds es i + ds.getD i 0))))] [(100, .lst 1 74 (((List.range i).map (pO ds es)).map u32))] 56 false) ?_ ?_
   ·by_cases hA : i < ds.length
    ·have hA' : decide ((i : Int) < ((ds.map u32).length : Int)) = true := by simp; omega
     have hg := Zfe hA
     have gx : ds.getD i 0 = ds[i] := by simp [hA]
     rw [gx] at h1 ⊢
     refine goA ?_
     refine ixG hg ?_
     refine evG ggA (Zbf (Zaa rfl) (Zau rfl) (Zau rfl) rfl (u64w h1.1 oM)) ?_
     refine evG ggA (Zb3 (Zaa rfl) rfl rfl (u64w oM oM)) ?_
     refine goA ?_
     exact midE
    ·have hA' : decide ((i : Int) < ((ds.map u32).length : Int)) = false := by simp; omega
     have gx : ds.getD i 0 = 0 := by simp [List.getD_eq_getElem?_getD, List.getElem?_eq_none (show ds.length ≤ i by omega)]
     rw [gx, Int.add_zero]
     refine goA ?_
     exact midE
   refine T.seqE (mkS [(0, .v (.sl (ds.map u32))), (1, .v (.sl (es.map u32))), (5, .own 100 i), (7, .v (iV (i : Nat))), (8, .v (.p (.int .u64 (pC ds es i + ds.getD i 0 + es.getD i 0))))] [(100, .lst 1 74 (((List.range i).map (pO ds es)).map u32))] 56 false) ?_ ?_
   ·by_cases hA : i < es.length
    ·have hA' : decide ((i : Int) < ((es.map u32).length : Int)) = true := by simp; omega
     have hg := Zfe hA
     have gx : es.getD i 0 = es[i] := by simp [hA]
     rw [gx] at h2 ⊢
     refine goA ?_
     refine ixG hg ?_
     refine evG ggA (Zbf (Zaa rfl) (Zau rfl) (Zau rfl) rfl (u64w h2.1 oM)) ?_
     refine evG ggA (Zb3 (Zaa rfl) rfl rfl (u64w oM oM)) ?_
     refine goA ?_
     exact midE
    ·have hA' : decide ((i : Int) < ((es.map u32).length : Int)) = false := by simp; omega
     have gx : es.getD i 0 = 0 := by simp [List.getD_eq_getElem?_getD, List.getElem?_eq_none (show es.length ≤ i by omega)]
     rw [gx, Int.add_zero]
     refine goA ?_
     exact midE
   have hel : (((List.range i).map (pO ds es)).map u32).length = i := by simp
   have hco : IntKind.u32.wrap (pC ds es i + ds.getD i 0 + es.getD i 0) = pO ds es i := u32m _
   have hsh : (pC ds es i + ds.getD i 0 + es.getD i 0).fdiv (2 ^ (min (32 : Int).toNat IntKind.u64.bits)) = pC ds es (i + 1) := shr32 oM
   have hsn : ((List.range i).map (pO ds es)).map u32 ++ [u32 (pO ds es i)] = ((List.range (i + 1)).map (pO ds es)).map u32 := by rw [range_snoc, List.map_append]; rfl
   refine T.seq ?_
   refine regA ?_
   refine runA ?_
   refine evG ggA (Zbf (Zaa rfl) (Zau rfl) (Zau rfl) rfl hco) ?_
   refine evG ggA (Zaw (Zaa rfl) (Zaf rfl) rfl rfl rfl rfl (Zci rfl rfl) (Nat.le_of_ble_eq_true rfl)) ?_
   refine evG ggA (Zcj (Zaa rfl) (Zaf rfl) rfl rfl hel rfl u32_one dC (by simp [maxLen]; omega) (by simp; omega) rfl (fun h => by cases h)) ?_
   refine runA ?_
   refine Zao ?_
   refine Za1 ?_
   refine regA ?_
   refine runA ?_
   refine evG ggA (Zfh (Zaa rfl) rfl rfl dC hsh) ?_
   refine goA ?_
   refine Zab (k := N - (i + 1)) (s' := mkS [(0, .v (.sl (ds.map u32))), (1, .v (.sl (es.map u32))), (5, .own 100 (i + 1)), (6, .v (.p (.int .u64 (pC ds es (i + 1))))), (7, .v (iV ((i : Int) + 1)))] [(100, .lst 1 74 (((List.range i).map (pO ds es)).map u32 ++ [u32 (pO ds es i)]))] 56 false) oM entA ⟨i + 1, rfl, hlt, by rw [hsn]; rfl⟩
  ·obtain rfl : i = N := oM
   have hA' : decide ((i : Int) < ((ds.map u32).length : Int)) = false := by simp; omega
   have hB' : decide ((i : Int) < ((es.map u32).length : Int)) = false := by simp; omega
   refine goA ?_
   exact Zae (s' := mkS [(5, .own 100 i), (6, .v (.p (.int .u64 (pC ds es i))))] [(100, .lst 1 74 (((List.range i).map (pO ds es)).map u32))] 56 false) entA rfl
 have hc := pC_b hd he N
 have hel : (((List.range N).map (pO ds es)).map u32).length = N := by simp
 have hfin : (plusL ds es).map u32 = ((List.range N).map (pO ds es)).map u32 ++ [u32 (pC ds es N)] := by unfold plusL; rw [← hN, List.map_append]; rfl
 rw [hfin]
 refine T.seq ?_
 refine regA ?_
 refine runA ?_
 refine evG ggA (Zbf (Zaa rfl) (Zau rfl) (Zau rfl) rfl (u32w hc.1 oM)) ?_
 refine evG ggA (Zaw (Zaa rfl) (Zaf rfl) rfl rfl rfl rfl (Zci rfl rfl) (Nat.le_of_ble_eq_true rfl)) ?_
 refine evG ggA (Zcj (Zaa rfl) (Zaf rfl) rfl rfl hel rfl u32_one dC (by simp [maxLen]; omega) (by simp; omega) rfl (fun h => by cases h)) ?_
 refine runA ?_
 refine Zao ?_
 refine Za1 ?_
 have hel2 : (((List.range N).map (pO ds es)).map u32 ++ [u32 (pC ds es N)]).length = N + 1 := by simp
 refine T.weak (s' := mkS [(4, .v (.sl (((List.range N).map (pO ds es)).map u32 ++ [u32 (pC ds es N)])))] [] 56 false) entA ?_
 refine goA ?_
 exact rfl
set_option maxHeartbeats 2000000 in
theorem minus_p {ds es : List Int} (hd : ∀ d, d ∈ ds → Zal d) (he : ∀ d, d ∈ es → Zal d) (hl : ds.length ≤ 17592186044416) : PW Tryz.prog 170 [.sl (ds.map u32), .sl (es.map u32)] (.sl ((Zgr ds es).map u32)) := by
 refine Zaz false Tryz.func170 rfl rfl rfl (Nat.le_of_ble_eq_true rfl) Zac.tmp ?_
 refine r1A ?_
 refine r1A ?_
 refine r1A ?_
 refine T.seqE (mkS [(5, .own 100 ds.length)] [(100, .lst 1 74 (((List.range ds.length).map (mO ds es)).map u32))] 46 false) ?_ ?_
 ·refine r1A ?_
  refine T.block ?_
  refine T.loop (fun k s1 => ∃ i : Nat, k = ds.length - i ∧ i ≤ ds.length ∧ s1 = mkS [(0, .v (.sl (ds.map u32))), (1, .v (.sl (es.map u32))), (5, .own 100 i), (6, .v (.p (.int .u64 (mB ds es i)))), (7, .v (iV (i : Nat)))] [(100, .lst 1 74 (((List.range i).map (mO ds es)).map u32))] 46 false) ds.length
   (s' := mkS [(0, .v (.sl (ds.map u32))), (1, .v (.sl (es.map u32))), (5, .own 100 0), (6, .v (.p (.int .u64 0))), (7, .v (iV (0 : Nat)))] [(100, .lst 1 74 [])] 46 false) entA ⟨0, rfl, Nat.zero_le _, rfl⟩ ?_
  rintro n _ ⟨i, rfl, hi, rfl⟩
  have hc := mB_b ds es i
  have h1 := gd_b hd i
  have h2 := gd_b he i
  have h3 := mO_b hd he i
  by_cases hlt : i < ds.length
  ·have hA' : decide ((i : Int) < ((ds.map u32).length : Int)) = true := by simp; omega
   have hg := Zfe hlt
   have gx : ds.getD i 0 = ds[i] := by simp [hlt]
   refine T.seqE (mkS [(0, .v (.sl (ds.map u32))), (1, .v (.sl (es.map u32))), (5, .own 100 i), (6, .v (.p (.int .u64 (mB ds es i)))), (7, .v (iV (i : Nat)))] [(100, .lst 1 74 (((List.range i).map (mO ds es)).map u32))] 46 false) ?_ ?_
   ·refine goA ?_
    exact midE
   refine T.seq ?_
   refine T.block ?_
   refine r1A ?_
   refine T.seqE (mkS [(0, .v (.sl (ds.map u32))), (1, .v (.sl (es.map u32))), (5, .own 100 i), (7, .v (iV (i : Nat))), (8, .v (.p (.int .u64 (mB ds es i + es.getD i 0))))] [(100, .lst 1 74 (((List.range i).map (mO ds es)).map u32))] 46 false) ?_ ?_
   ·by_cases hA : i < es.length
    ·have hB' : decide ((i : Int) < ((es.map u32).length : Int)) = true := by simp; omega
     have hg := Zfe hA
     have gy : es.getD i 0 = es[i] := by simp [hA]
     rw [gy] at h2 ⊢
     refine goA ?_
     refine ixG hg ?_
     refine evG ggA (Zbf (Zaa rfl) (Zau rfl) (Zau rfl) rfl (u64w h2.1 oM)) ?_
     refine evG ggA (Zb3 (Zaa rfl) rfl rfl (u64w oM oM)) ?_
     refine goA ?_
     exact midE
    ·have hB' : decide ((i : Int) < ((es.map u32).length : Int)) = false := by simp; omega
     have gy : es.getD i 0 = 0 := by simp [List.getD_eq_getElem?_getD, List.getElem?_eq_none (show es.length ≤ i by omega)]
     rw [gy, Int.add_zero]
     refine goA ?_
     exact midE
   refine r1A ?_
   refine T.seqE (mkS [(0, .v (.sl (ds.map u32))), (1, .v (.sl (es.map u32))), (5, .own 100 i), (6, .v (.p (.int .u64 0))), (7, .v (iV (i : Nat))), (8, .v (.p (.int .u64 (mB ds es i + es.getD i 0)))), (9, .v (.p (.int .u64 (ds.getD i 0))))] [(100, .lst 1 74 (((List.range i).map (mO ds es)).map u32))] 46 false) ?_ ?_
   ·rw [gx] at h1 ⊢
    refine goA ?_
    refine ixG hg ?_
    refine evG ggA (Zbf (Zaa rfl) (Zau rfl) (Zau rfl) rfl (u64w h1.1 oM)) ?_
    refine goA ?_
    exact midE
   refine T.seqE (mkS [(0, .v (.sl (ds.map u32))), (1, .v (.sl (es.map u32))), (5, .own 100 i), (6, .v (.p (.int .u64 (mB ds es (i + 1))))), (7, .v (iV (i : Nat))), (8, .v (.p (.int .u64 (mB ds es i + es.getD i 0)))), (9, .v (.p (.int .u64 (mO ds es i + (mB ds es i + es.getD i 0)))))] [(100, .lst 1 74 (((List.range i).map (mO ds es)).map u32))] 46 false) ?_ ?_
   ·by_cases hlt2 : ds.getD i 0 < mB ds es i + es.getD i 0
    ·have hb : decide (ds.getD i 0 < mB ds es i + es.getD i 0) = true := by simp only [hlt2, decide_true]
     have e1 : mO ds es i + (mB ds es i + es.getD i 0) = ds.getD i 0 + 4294967296 := by unfold mO; rw [if_pos hlt2]; omega
     have e2 : mB ds es (i + 1) = 1 := if_pos hlt2
     rw [e1, e2]
     refine goA ?_
     refine evG ggA (Zb3 (Zaa rfl) rfl rfl (u64w oM oM)) ?_
     refine goA ?_
     exact midE
    ·have hb : decide (ds.getD i 0 < mB ds es i + es.getD i 0) = false := by simp only [hlt2, decide_false]
     have e1 : mO ds es i + (mB ds es i + es.getD i 0) = ds.getD i 0 := by unfold mO; rw [if_neg hlt2]; omega
     have e2 : mB ds es (i + 1) = 0 := if_neg hlt2
     rw [e1, e2]
     refine goA ?_
     exact midE
   have hel : (((List.range i).map (mO ds es)).map u32).length = i := by simp
   have har : IntKind.u64.wrap (mO ds es i + (mB ds es i + es.getD i 0) - (mB ds es i + es.getD i 0)) = mO ds es i := by rw [u64w oM oM]; omega
   have hsn : ((List.range i).map (mO ds es)).map u32 ++ [u32 (mO ds es i)] = ((List.range (i + 1)).map (mO ds es)).map u32 := by rw [range_snoc, List.map_append]; rfl
   refine regA ?_
   refine runA ?_
   refine evG ggA (Zb3 (Zaa rfl) rfl rfl har) ?_
   refine evG ggA (Zbf (Zaa rfl) (Zau rfl) (Zau rfl) rfl (u32w h3.1 h3.2)) ?_
   refine evG ggA (Zaw (Zaa rfl) (Zaf rfl) rfl rfl rfl rfl (Zci rfl rfl) (Nat.le_of_ble_eq_true rfl)) ?_
   refine evG ggA (Zcj (Zaa rfl) (Zaf rfl) rfl rfl hel rfl u32_one dC (by simp [maxLen]; omega) (by simp; omega) rfl (fun h => by cases h)) ?_
   refine goA ?_
   refine Zab (k := ds.length - (i + 1)) (s' := mkS [(0, .v (.sl (ds.map u32))), (1, .v (.sl (es.map u32))), (5, .own 100 (i + 1)), (6, .v (.p (.int .u64 (mB ds es (i + 1))))), (7, .v (iV ((i : Int) + 1)))] [(100, .lst 1 74 (((List.range i).map (mO ds es)).map u32 ++ [u32 (mO ds es i)]))] 46 false) oM entA ⟨i + 1, rfl, hlt, by rw [hsn]; rfl⟩
  ·obtain rfl : i = ds.length := oM
   have hA' : decide (((ds.length : Nat) : Int) < ((ds.map u32).length : Int)) = false := by simp
   refine goA ?_
   exact Zae (s' := mkS [(5, .own 100 ds.length)] [(100, .lst 1 74 (((List.range ds.length).map (mO ds es)).map u32))] 46 false) entA rfl
 have hel : (((List.range ds.length).map (mO ds es)).map u32).length = ds.length := by simp
 have hfin : (Zgr ds es).map u32 = ((List.range ds.length).map (mO ds es)).map u32 := rfl
 rw [hfin]
 refine T.weak (s' := mkS [(5, .v (.sl (((List.range ds.length).map (mO ds es)).map u32)))] [] 46 false) entA ?_
 refine goA ?_
 exact rfl
theorem split_p (n : Nat) (hn : n < 18446744073709551616) : PW Tryz.prog 135 [.p (.int .u64 n)] (.sl ((dgs n).map u32)) := by
 have hd : ∀ d, d ∈ [((n % 4294967296 : Nat) : Int), ((n / 4294967296 : Nat) : Int)] → Zal d := fun d h => by
  simp only [List.mem_cons, List.not_mem_nil, or_false] at h
  unfold Zal B
  rcases h with rfl | rfl <;> omega
 have c := trim_p hd (Nat.le_of_ble_eq_true rfl)
 have e : nd [((n % 4294967296 : Nat) : Int), ((n / 4294967296 : Nat) : Int)] = dgs n := by
  unfold nd
  congr 1
  rw [vl_cons, vl_cons, vl_nil, B_def]
  omega
 rw [e] at c
 have h1 : IntKind.u32.wrap (n : Int) = ((n % 4294967296 : Nat) : Int) := by rw [u32m]; omega
 have h2 : (n : Int).fdiv (2 ^ (min (32 : Int).toNat IntKind.u64.bits)) = ((n / 4294967296 : Nat) : Int) := by rw [shr32 oM]; omega
 have h3 : IntKind.u32.wrap ((n / 4294967296 : Nat) : Int) = ((n / 4294967296 : Nat) : Int) := u32w oM oM
 refine Zaz false Tryz.func135 rfl rfl rfl (Nat.le_of_ble_eq_true rfl) Zac.tmp ?_
 refine goA ?_
 refine evG ggA (Zbf (Zaa rfl) (Zau rfl) (Zau rfl) rfl h1) ?_
 refine goA ?_
 refine evG ggA (Zfh (Zaa rfl) rfl rfl dC h2) ?_
 refine evG ggA (Zbf (Zaa rfl) (Zau rfl) (Zau rfl) rfl h3) ?_
 refine evG ggA (Zaw (Zaa rfl) (Zaf rfl) rfl rfl rfl rfl (fun x hx => by simp only [List.mem_cons, List.not_mem_nil, or_false] at hx; rcases hx with rfl | rfl <;> exact ⟨rfl, rfl⟩) (Nat.le_of_ble_eq_true rfl)) ?_
 refine clG c ?_
 exact rfl
theorem pw_two (q : Nat) : pw q = 2 ^ (32 * q) := by
 induction q with
 | zero => rfl
 | succ q ih => rw [pw_succ, ih, show 32 * (q + 1) = 32 * q + 32 by omega, Int.pow_add]; rfl
theorem two_split (n : Nat) : (2 : Int) ^ n = 2 ^ (n % 32) * pw (n / 32) := by
 rw [pw_two, ← Int.pow_add]
 congr 1
 omega
theorem Zf5 (n : Nat) : (0 : Int) < 2 ^ n := Int.pow_pos dC
theorem two_le {m n : Nat} (h : m ≤ n) : (2 : Int) ^ m ≤ 2 ^ n := by
 obtain ⟨k, rfl⟩ := Nat.exists_eq_add_of_le h
 rw [Int.pow_add]
 have h1 := Zf5 m
 have h2 := Zf5 k
 have := Int.mul_le_mul_of_nonneg_left (show (1 : Int) ≤ 2 ^ k by omega) (show (0 : Int) ≤ 2 ^ m by omega)
 omega
theorem digs_snoc {os : List Int} {x : Int} (h : ∀ d, d ∈ os → Zal d) (hx : Zal x) : ∀ d, d ∈ os ++ [x] → Zal d := fun d hd => by
 rcases List.mem_append.1 hd with hd | hd
 ·exact h d hd
 ·rw [List.mem_singleton] at hd; subst hd; exact hx
theorem digs_rep {n : Nat} : ∀ d, d ∈ List.replicate n (0 : Int) → Zal d := fun d hd => by rw [List.eq_of_mem_replicate hd]; exact dig0
theorem vl_rep (n : Nat) : vl (List.replicate n (0 : Int)) = 0 := by
 induction n with
 | zero => rfl
 | succ n ih => rw [List.replicate_succ, vl_cons, ih]; rfl
set_option maxHeartbeats 2000000 in
theorem shifted_p {ds : List Int} (hd : ∀ d, d ∈ ds → Zal d) (hl : ds.length ≤ 1099511627776) (n : Nat) (hn : n ≤ 35184372088832) : PW Tryz.prog 183 [.sl (ds.map u32), .p (.int .i64 n)] (.sl ((dgs ((vl ds).toNat * 2 ^ n)).map u32)) := by
 have hq : IntKind.i64.wrap ((n : Int).tdiv 32) = ((n / 32 : Nat) : Int) := by rw [Int.tdiv_eq_ediv_of_nonneg oM]; rw [w64 oM oM]; omega
 have hr : (n : Int).tmod 32 = ((n % 32 : Nat) : Int) := by rw [Int.tmod_eq_emod_of_nonneg oM]; omega
 obtain ⟨q, hqd⟩ : ∃ q, q = n / 32 := ⟨_, rfl⟩
 obtain ⟨r, hrd⟩ : ∃ r, r = n % 32 := ⟨_, rfl⟩
 have hsp := two_split n
 rw [← hqd, ← hrd] at hsp
 rw [← hqd] at hq
 rw [← hrd] at hr
 have hr32 : r < 32 := oM
 have hP0 := Zf5 r
 have hP1 : (2 : Int) ^ r ≤ 2147483648 := two_le (n := 31) oM
 obtain ⟨P, hP⟩ : ∃ P : Int, P = 2 ^ r := ⟨_, rfl⟩
 have hqb : q ≤ 1099511627776 := oM
 rw [← hP] at hsp hP0 hP1
 refine Zaz false Tryz.func183 rfl rfl rfl (Nat.le_of_ble_eq_true rfl) Zac.tmp ?_
 refine r1A ?_
 refine T.seq ?_
 refine regA ?_
 refine runA ?_
 refine evG ggA (Zbx (Zaa rfl) rfl rfl dC hq) ?_
 refine evG ggA (Zdv 30 (e0 := u32 0) (Zaa rfl) (Zaf rfl) rfl rfl rfl oM oM oM oM rfl rfl rfl) ?_
 refine runA ?_
 refine Zao ?_
 refine Za1 ?_
 refine r1A ?_
 refine T.seqI (fun s1 => ∃ (os : List Int) (last : Int), os.length = q + ds.length ∧ (∀ d, d ∈ os → Zal d) ∧ 0 ≤ last ∧ last < P ∧ vl os + last * pw (q + ds.length) = vl ds * P * pw q ∧ s1 = mkS [(5, .own 30 (q + ds.length)), (6, .v (.p (.int .u64 last)))] [(30, .lst 1 74 (os.map u32))] 42 false) ?_ ?_
 ·refine r1A ?_
  refine T.block ?_
  refine T.loop (fun k s1 => ∃ (i : Nat) (os : List Int) (last : Int), k = ds.length - i ∧ i ≤ ds.length ∧ os.length = q + i ∧ (∀ d, d ∈ os → Zal d) ∧ 0 ≤ last ∧ last < P ∧ vl os + last * pw (q + i) = val (fun i => ds.getD i 0) i * P * pw q ∧ s1 = mkS [(0, .v (.sl (ds.map u32))), (1, .v (iV n)), (5, .own 30 (q + i)), (6, .v (.p (.int .u64 last))), (7, .v (iV (i : Nat)))] [(30, .lst 1 74 (os.map u32))] 42 false) ds.length
   (s' := mkS [(0, .v (.sl (ds.map u32))), (1, .v (iV n)), (5, .own 30 q), (6, .v (.p (.int .u64 0))), (7, .v (iV (0 : Nat)))] [(30, .lst 1 74 (List.replicate q (u32 0)))] 42 false) entA ⟨0, List.replicate q 0, 0, rfl, Nat.zero_le _, by simp, digs_rep, Int.le_refl _, hP0, by rw [vl_rep]; simp [val], by rw [List.map_replicate]; rfl⟩ ?_
  rintro _ _ ⟨i, os, last, rfl, hi, hol, hod, hl0, hl1, hv, rfl⟩
  by_cases hlt : i < ds.length
  ·have hA' : decide ((i : Int) < ((ds.map u32).length : Int)) = true := by simp; omega
   have hg := Zfe hlt
   have gx : ds.getD i 0 = ds[i] := by simp [hlt]
   have h1 := gd_b hd i
   rw [gx] at h1
   have hm0 : 0 ≤ ds[i] * P := Int.mul_nonneg h1.1 oM
   have hm1 : ds[i] * P ≤ 4294967295 * P := Int.mul_le_mul_of_nonneg_right oM oM
   have hsl : IntKind.u64.wrap (ds[i] * 2 ^ (min ((r : Int)).toNat IntKind.u64.bits)) = ds[i] * P := by
    rw [show min ((r : Int)).toNat IntKind.u64.bits = r by rw [Int.toNat_natCast]; exact Nat.min_eq_left (by show r ≤ 64; omega), ← hP]
    exact u64w hm0 oM
   obtain ⟨x, hx⟩ : ∃ x, x = ds[i] * P + last := ⟨_, rfl⟩
   have had : IntKind.u64.wrap (ds[i] * P + last) = x := by rw [hx]; exact u64w oM oM
   have hco : IntKind.u32.wrap x = x % 4294967296 := u32m _
   have hsh : x.fdiv (2 ^ (min (32 : Int).toNat IntKind.u64.bits)) = x / 4294967296 := shr32 oM
   have hel : (os.map u32).length = q + i := by simp [hol]
   have hnl : (os ++ [x % 4294967296]).length = q + (i + 1) := by simp [hol]; omega
   have hnv : vl (os ++ [x % 4294967296]) + x / 4294967296 * pw (q + (i + 1)) = val (fun i => ds.getD i 0) (i + 1) * P * pw q := by
    rw [vl_snoc, hol, show q + (i + 1) = q + i + 1 by omega, pw_succ, val_succ]
    show _ = (val (fun i => ds.getD i 0) i + ds.getD i 0 * pw i) * P * pw q
    rw [gx]
    have a1 : x % 4294967296 * pw (q + i) + x / 4294967296 * (pw (q + i) * 4294967296) = x * pw (q + i) := by
     have := Int.mul_ediv_add_emod x 4294967296
     rw [Int.mul_comm (pw (q + i)), ← Int.mul_assoc, ← Int.add_mul]
     congr 1
     omega
    have a2 : x * pw (q + i) = ds[i] * P * pw (q + i) + last * pw (q + i) := by rw [hx, Int.add_mul]
    have a3 : ds[i] * P * pw (q + i) = ds[i] * pw i * P * pw q := by
     rw [pw_add]
     simp only [Int.mul_assoc, Int.mul_comm, Int.mul_left_comm]
    rw [Int.add_mul, Int.add_mul, Int.add_assoc, a1, a2, a3, ← hv]
    omega
   refine T.seqE (mkS [(0, .v (.sl (ds.map u32))), (1, .v (iV n)), (5, .own 30 (q + i)), (6, .v (.p (.int .u64 last))), (7, .v (iV (i : Nat)))] [(30, .lst 1 74 (os.map u32))] 42 false) ?_ ?_
   ·refine goA ?_
    exact midE
   refine T.seq ?_
   refine T.block ?_
   refine T.seq ?_
   refine regA ?_
   refine runA ?_
   refine ixA hg ?_
   refine runA ?_
   refine evG ggA (Zbf (Zaa rfl) (Zau rfl) (Zau rfl) rfl (u64w h1.1 oM)) ?_
   refine runA ?_
   refine evG ggA (Zbx (Zaa rfl) rfl rfl dC hr) ?_
   refine evG ggA (Zbf (Zaa rfl) (Zau rfl) und_uint rfl (u64w oM oM)) ?_
   refine evG ggA (ss_shl (Zaa rfl) rfl rfl oM hsl) ?_
   refine runA ?_
   refine evG ggA (Zb3 (Zaa rfl) rfl rfl had) ?_
   refine runA ?_
   refine Zao ?_
   refine Za1 ?_
   refine T.seq ?_
   refine regA ?_
   refine runA ?_
   refine evG ggA (Zbf (Zaa rfl) (Zau rfl) (Zau rfl) rfl hco) ?_
   refine evG ggA (Zaw (Zaa rfl) (Zaf rfl) rfl rfl rfl rfl (Zci rfl rfl) (Nat.le_of_ble_eq_true rfl)) ?_
   refine evG ggA (Zcj (Zaa rfl) (Zaf rfl) rfl rfl hel rfl u32_one dC (by simp [maxLen]; omega) (by simp; omega) rfl (fun h => by cases h)) ?_
   refine runA ?_
   refine Zao ?_
   refine Za1 ?_
   refine regA ?_
   refine runA ?_
   refine evG ggA (Zfh (Zaa rfl) rfl rfl dC hsh) ?_
   refine goA ?_
   refine Zab (k := ds.length - (i + 1)) (s' := mkS [(0, .v (.sl (ds.map u32))), (1, .v (iV n)), (5, .own 30 (q + i + 1)), (6, .v (.p (.int .u64 (x / 4294967296)))), (7, .v (iV ((i : Int) + 1)))] [(30, .lst 1 74 (os.map u32 ++ [u32 (x % 4294967296)]))] 42 false) oM entA ⟨i + 1, os ++ [x % 4294967296], x / 4294967296, rfl, hlt, hnl, digs_snoc hod (Zce x), oM, oM, hnv, by rw [List.map_append]; rfl⟩
  ·obtain rfl : i = ds.length := oM
   have hA' : decide (((ds.length : Nat) : Int) < ((ds.map u32).length : Int)) = false := by simp
   refine goA ?_
   exact Zae (s' := mkS [(5, .own 30 (q + ds.length)), (6, .v (.p (.int .u64 last)))] [(30, .lst 1 74 (os.map u32))] 42 false) entA ⟨os, last, hol, hod, hl0, hl1, hv, rfl⟩
 rintro _ ⟨os, last, hol, hod, hl0, hl1, hv, rfl⟩
 have hel : (os.map u32).length = q + ds.length := by simp [hol]
 have hel2 : (os.map u32 ++ [u32 last]).length = q + ds.length + 1 := by simp [hol]
 have c := trim_p (digs_snoc hod (show Zal last from ⟨hl0, by unfold B; omega⟩)) (by simp [hol]; omega)
 have e : nd (os ++ [last]) = dgs ((vl ds).toNat * 2 ^ n) := by
  unfold nd
  congr 1
  rw [vl_snoc, hol, hv]
  have hv0 := Zcw hd
  have : vl ds * P * pw q = (((vl ds).toNat * 2 ^ n : Nat) : Int) := by
   rw [Int.natCast_mul, Int.mul_assoc, ← hsp, Int.toNat_of_nonneg hv0]
   rw [Int.natCast_pow]
   rfl
  rw [this, Int.toNat_natCast]
 rw [e, List.map_append] at c
 refine T.seq ?_
 refine T.regionW 5 ?_
 show EvL _ _ _ (_ :: _) _ _
 refine runA ?_
 refine evG ggA (Zbf (Zaa rfl) (Zau rfl) (Zau rfl) rfl (u32w hl0 oM)) ?_
 refine evG ggA (Zaw (Zaa rfl) (Zaf rfl) rfl rfl rfl rfl (Zci rfl rfl) (Nat.le_of_ble_eq_true rfl)) ?_
 refine evG ggA (Zcj (Zaa rfl) (Zaf rfl) rfl rfl hel rfl u32_one dC (by simp [maxLen]; omega) (by simp; omega) rfl (fun h => by cases h)) ?_
 refine Zao ?_
 refine ⟨mkS [(40, .v (.sl (os.map u32 ++ [u32 last])))] [] 42 false, by exact entA, ?_⟩
 show EvL _ _ _ (_ :: _) _ _
 refine clG c ?_
 exact rfl
theorem bit_top {ds : List Int} (hd : ∀ d, d ∈ ds → Zal d) {m : Nat} (hm : ds.length = m + 1) (h0 : ds.getD m 0 ≠ 0) : bit' (vl ds).toNat = 32 * m + bit' (ds.getD m 0).toNat := by
  obtain ⟨h1, h2⟩ := gd_b hd m
  obtain ⟨t, ht⟩ : ∃ t : Nat, ds.getD m 0 = t := ⟨(ds.getD m 0).toNat, oM⟩
  rw [ht] at h0 h2 ⊢
  obtain ⟨b, k1, k2, k3⟩ := Zc8 (z := t) oM
  rw [Int.toNat_natCast, k1]
  have hv : vl ds = val (fun i => ds.getD i 0) m + t * pw m := by rw [vl_def, hm, val_succ, ← ht]
  have hD : Digs (fun i => ds.getD i 0) m := fun i _ => gd_dig hd i
  have v0 := Zam hD
  have v1 := Zcg hD
  have p0 := Zch m
  have e1 : ((2 ^ (32 * m + b) : Nat) : Int) = 2 ^ b * pw m := by rw [pw_two, Int.natCast_pow, ← Int.pow_add, Nat.add_comm b]; rfl
  have e2 : ((2 ^ (32 * m + b + 1) : Nat) : Int) = 2 ^ (b + 1) * pw m := by rw [pw_two, Int.natCast_pow, ← Int.pow_add]; congr 1; omega
  have k2' : (2 : Int) ^ b ≤ t := by have : ((2 ^ b : Nat) : Int) ≤ t := oM
                                     rw [Int.natCast_pow] at this; exact this
  have k3' : (t : Int) + 1 ≤ 2 ^ (b + 1) := by have : (t : Int) + 1 ≤ ((2 ^ (b + 1) : Nat) : Int) := oM
                                               rw [Int.natCast_pow] at this; exact this
  have f1 := Int.mul_le_mul_of_nonneg_right k2' (show 0 ≤ pw m by omega)
  have f2 := Int.mul_le_mul_of_nonneg_right k3' (show 0 ≤ pw m by omega)
  rw [Int.add_mul, Int.one_mul] at f2
  rw [← Nat.add_assoc]
  exact bit_eq oM oM
theorem bit_le (z : Nat) : bit' z ≤ z := by
 by_cases h : z = 0
 ·subst h; exact Nat.le_refl _
 ·obtain ⟨b, h1, h2, -⟩ := Zc8 h
  have := @Nat.lt_two_pow_self b
  omega
set_option maxHeartbeats 1000000 in
theorem bits_p {a : AV} {k : Nat} {z : Int} (h : IsI a k z) (hk : k ≤ 17592186044416) : PW Tryz.prog 182 [a] (.p (.int .i64 (bit' z.natAbs))) := by
 obtain ⟨cs, rfl, g, ds, rfl, hd, hl, rfl⟩ := h
 have hz : (zof g (vl ds)).natAbs = (vl ds).toNat := by
  have := Zcw hd
  unfold zof; split <;> omega
 rw [hz]
 have c := trim_p hd oM
 have hll := nd_len hd
 have hnd : ∀ d, d ∈ nd ds → Zal d := fun d h => dgs_dig d h
 have hlast : Zb2 (fun i => (nd ds).getD i 0) (nd ds).length := canon_of (dgs_last _)
 have hvv : vl (nd ds) = ((vl ds).toNat : Int) := Zcc _
 have hbe : (vl (nd ds)).toNat = (vl ds).toNat := oM
 rw [← hbe]
 generalize nd ds = es at *
 by_cases h0 : es.length = 0
 ·have hb : (((es.map u32).length : Int) == 0) = true := by simp; exact List.eq_nil_of_length_eq_zero h0
  obtain rfl : es = [] := List.eq_nil_of_length_eq_zero h0
  refine Zaz false Tryz.func182 rfl rfl rfl (Nat.le_of_ble_eq_true rfl) Zac.tmp ?_
  refine goA ?_
  refine clG c ?_
  exact rfl
 ·have hb : (((es.map u32).length : Int) == 0) = false := by simp; intro e; subst e; exact h0 rfl
  obtain ⟨m, hm⟩ : ∃ m, es.length = m + 1 := ⟨es.length - 1, oM⟩
  have hlt : m < es.length := oM
  have gx : es.getD m 0 = es[m] := by simp [hlt]
  have htop : es.getD m 0 ≠ 0 := by
   rcases hlast with h1 | h1
   ·omega
   ·rw [hm] at h1; exact h1
  rw [bit_top hnd hm htop]
  have hx := gd_b hnd m
  obtain ⟨t, ht⟩ : ∃ t : Nat, es.getD m 0 = t := ⟨(es.getD m 0).toNat, oM⟩
  have hg : (es.map u32)[(((es.map u32).length : Int) - 1).toNat]? = some (.p (.int .u32 t)) := Zff (by rw [show (((es.map u32).length : Int) - 1).toNat = m by simp [hm], List.getElem?_eq_getElem hlt, ← gx, ht])
  rw [ht, Int.toNat_natCast]
  have htb : t < 4294967296 := oM
  have hbt := bit_le t
  refine Zaz false Tryz.func182 rfl rfl rfl (Nat.le_of_ble_eq_true rfl) Zac.tmp ?_
  refine r1A ?_
  refine T.seq ?_
  refine regA ?_
  refine runA ?_
  refine clA c ?_
  refine runA ?_
  refine Zao ?_
  refine Za1 ?_
  refine T.seqE (mkS [(3, .v (.sl (es.map u32)))] [] 29 false) ?_ ?_
  ·refine goA ?_
   exact midE
  have hmb : m ≤ 17592186044416 := oM
  have hlm : ((es.map u32).length : Int) = m + 1 := by simp [hm]
  rw [hlm] at hg
  refine T.seqE (mkS [(3, .v (.sl (es.map u32))), (4, .v (iV (32 * m : Nat)))] [] 29 false) ?_ ?_
  ·have hmul : (32 : Int) * (((es.map u32).length : Int) - 1) = ((32 * m : Nat) : Int) := oM
   refine goA ?_
   exact Zae (s' := mkS [(3, .v (.sl (es.map u32))), (4, .v (iV (32 * (((es.map u32).length : Int) - 1))))] [] 29 false) entA (by rw [hmul])
  refine T.seqE (mkS [(4, .v (iV ((32 * m + bit' t : Nat) : Int)))] [] 29 false) ?_ ?_
  ·refine T.seq ?_
   refine regA ?_
   refine runA ?_
   refine evG ggA (Zbh (Zaa rfl) (Zag rfl) rfl rfl oM (by rw [hlm]; exact hg) rfl) ?_
   refine runA ?_
   refine Zao ?_
   refine Za1 ?_
   refine T.block ?_
   refine T.loop (fun k s1 => ∃ (x j : Nat), k = x ∧ x < 4294967296 ∧ j + bit' x = 32 * m + bit' t ∧ s1 = mkS [(4, .v (iV (j : Nat))), (5, .v (.p (.int .u32 (x : Nat))))] [] 29 false) t
    (s' := mkS [(4, .v (iV (32 * m : Nat))), (5, .v (.p (.int .u32 t)))] [] 29 false) entA ⟨t, 32 * m, rfl, htb, rfl, rfl⟩ ?_
   rintro x _ ⟨_, j, rfl, hxb, hj, rfl⟩
   by_cases hx0 : x = 0
   ·subst hx0
    have hb : decide (((0 : Nat) : Int) > 0) = false := dC
    rw [bit_zero, Nat.add_zero] at hj
    subst hj
    refine goA ?_
    exact Zae (s' := mkS [(4, .v (iV ((32 * m + bit' t : Nat) : Int)))] [] 29 false) entA rfl
   ·have hb : decide ((x : Int) > 0) = true := by simp; omega
    have hdv : IntKind.u32.wrap ((x : Int).tdiv 2) = ((x / 2 : Nat) : Int) := by rw [Int.tdiv_eq_ediv_of_nonneg oM, u32w oM oM]; omega
    rw [bit_step hx0] at hj
    refine goA ?_
    refine evG ggA (Zbx (Zaa rfl) rfl rfl dC hdv) ?_
    refine goA ?_
    refine Zab (k := x / 2) (s' := mkS [(4, .v (iV ((j : Int) + 1))), (5, .v (.p (.int .u32 ((x / 2 : Nat) : Int))))] [] 29 false) oM entA ⟨x / 2, j + 1, rfl, oM, oM, rfl⟩
  refine goA ?_
  exact rfl
end Ab
