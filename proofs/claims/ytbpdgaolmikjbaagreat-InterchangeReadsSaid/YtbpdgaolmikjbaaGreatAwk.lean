/- Small numbers built; the example of the chapter. -/
import Derived.Test.YtbpdgaolmikjbaaGreatSaC
import Derived.Test.YtbpdgaolmikjbaaGreatRdQ
set_option linter.all false
namespace Ab
open Go Go.RowKit Go.Proofs Hp
set_option maxRecDepth 100000
theorem dg_eq : ∀ n k, n ≤ k → dg k n = dgs n := by
  intro n
  induction n using Nat.strongRecOn with
  | _ n ih =>
    intro k hk
    by_cases h0 : n = 0
    · subst h0
      cases k <;> simp [dg, dgs]
    · obtain ⟨k', rfl⟩ : ∃ k', k = k' + 1 := ⟨k - 1, by omega⟩
      obtain ⟨n', rfl⟩ : ∃ n', n = n' + 1 := ⟨n - 1, by omega⟩
      have hlt : (n' + 1) / 4294967296 < n' + 1 := Nat.div_lt_self (by omega) (by omega)
      have e1 : dg (k' + 1) (n' + 1) = (((n' + 1) % 4294967296 : Nat) : Int) :: dg k' ((n' + 1) / 4294967296) := by simp [dg]
      have e2 : dgs (n' + 1) = (((n' + 1) % 4294967296 : Nat) : Int) :: dg n' ((n' + 1) / 4294967296) := by simp [dgs, dg]
      rw [e1, e2, ih _ hlt k' (by omega), ih _ hlt n' (by omega)]
theorem dgs_step {n : Nat} (h : n ≠ 0) : dgs n = ((n % 4294967296 : Nat) : Int) :: dgs (n / 4294967296) := by
 obtain ⟨n', rfl⟩ : ∃ n', n = n' + 1 := ⟨n - 1, by omega⟩
 have hlt : (n' + 1) / 4294967296 < n' + 1 := Nat.div_lt_self (by omega) (by omega)
 have e2 : dgs (n' + 1) = (((n' + 1) % 4294967296 : Nat) : Int) :: dg n' ((n' + 1) / 4294967296) := by simp [dgs, dg]
 rw [e2, dg_eq _ n' (by omega)]
theorem dgs_zero : dgs 0 = [] := rfl
set_option maxHeartbeats 1000000 in
theorem z_p (x : Int) (h0 : -9223372036854775808 ≤ x) (h1 : x ≤ 9223372036854775807) : PC Tryz.prog 85 [.p (.int .i64 x)] (encI x) := by
 refine Zas false Tryz.func85 rfl rfl rfl (Nat.le_of_ble_eq_true rfl) (Za4.agg (l := ci x) Zce) ?_
 refine r1A ?_
 refine T.seq ?_
 refine regA ?_
 refine runA ?_
 refine evG ggA (Zag (Zaa rfl) (Zbh rfl) (Zbh rfl) rfl rfl) ?_
 refine runA ?_
 refine Zbs ?_
 refine Zbr ?_
 refine T.seqI (fun s1 => s1 = mkS [(0, .v (.p (.int .i64 x))), (2, .ptr 2 0), (3, .v (.p (.int .u64 (x.natAbs : Int))))] [(2, .var [.v (.p (.bool false)), .v (.p nilV)])] 26 false) ?_ ?_
 ·by_cases hx : x < 0
  ·have hb : decide (x < 0) = true := by simp [hx]
   have hw : IntKind.u64.wrap (0 - IntKind.u64.wrap x) = (x.natAbs : Int) := by rw [IntKind.wrap_u64, IntKind.wrap_u64]; omega
   refine goA ?_
   refine evG ggA (ss_neg (Zaa rfl) rfl hw) ?_
   refine goA ?_
   exact Zao (by exact entA) rfl
  ·have hb : decide (x < 0) = false := by simp; omega
   have hw : IntKind.u64.wrap x = (x.natAbs : Int) := by rw [IntKind.wrap_u64]; omega
   rw [hw]
   refine goA ?_
   exact Zao (by exact entA) rfl
 rintro _ rfl
 refine T.seq ?_
 refine regA ?_
 refine stpA ?_
 refine stpA ?_
 refine evG ggA (Zc1 (Zaa rfl) (Zb0 rfl) rfl rfl rfl) ?_
 refine runA ?_
 refine Zbs ?_
 refine Zbr ?_
 have hlen3 : (dgs x.natAbs).length ≤ 3 := Zf3 (z := x) (by rw [show pw 3 = 79228162514264337593543950336 from by decide]; omega)
 refine T.seqI (fun s1 => s1 = mkS [(2, .ptr 2 0), (4, .ptr 4 0)] [(2, .var [.v (.p (.bool false)), .v (.p nilV)]), (4, .var [.v (.p (.bool (decide (x < 0)))), .v (.sl ((dgs x.natAbs).map u32))])] 26 false) ?_ ?_
 ·refine T.block ?_
  refine T.loop (fun n s1 => ∃ (u : Nat) (es : List Int), n = u ∧ u < 18446744073709551616 ∧ es.length ≤ 18446744073709551616 - u ∧ dgs x.natAbs = es ++ dgs u ∧ s1 = mkS [(2, .ptr 2 0), (3, .v (.p (.int .u64 u))), (4, .ptr 4 0)] [(2, .var [.v (.p (.bool false)), .v (.p nilV)]), (4, .var [.v (.p (.bool (decide (x < 0)))), .own 100 es.length]), (100, .lst 1 95 (es.map u32))] 26 false) x.natAbs
   (s' := mkS [(2, .ptr 2 0), (3, .v (.p (.int .u64 (x.natAbs : Int)))), (4, .ptr 4 0)] [(2, .var [.v (.p (.bool false)), .v (.p nilV)]), (4, .var [.v (.p (.bool (decide (x < 0)))), .own 100 0]), (100, .lst 1 95 [])] 26 false) (by exact entA) ⟨x.natAbs, [], rfl, by omega, by simp, by simp, rfl⟩ ?_
  rintro u _ ⟨_, es, rfl, hu, hle, hes, rfl⟩
  by_cases h00 : u = 0
  ·subst h00
   have hb : decide (((0 : Nat) : Int) > 0) = false := by decide
   rw [dgs_zero, List.append_nil] at hes
   have hel : (es.map u32).length = es.length := by simp
   refine goA ?_
   exact Zao (s' := mkS [(2, .ptr 2 0), (4, .ptr 4 0)] [(2, .var [.v (.p (.bool false)), .v (.p nilV)]), (4, .var [.v (.p (.bool (decide (x < 0)))), .v (.sl (es.map u32))])] 26 false) (by exact entA) (by rw [hes])
  ·have hb : decide ((u : Int) > 0) = true := by simp; omega
   have hw : IntKind.u32.wrap (u : Int) = ((u % 4294967296 : Nat) : Int) := by rw [IntKind.wrap_u32']; omega
   have hsh : (u : Int).fdiv (2 ^ (min (32 : Int).toNat IntKind.u64.bits)) = ((u / 4294967296 : Nat) : Int) := by
    rw [show ((2 : Int) ^ (min (32 : Int).toNat IntKind.u64.bits)) = 4294967296 from by decide, Int.fdiv_eq_ediv_of_nonneg _ (by decide)]
    omega
   have hdl : u / 4294967296 < u := Nat.div_lt_self (by omega) (by omega)
   have hel : (es.map u32).length = es.length := by simp
   refine T.seq ?_
   refine T.seq ?_
   refine regA ?_
   refine runA ?_
   refine Zbs ?_
   refine Zbr ?_
   refine T.condT rfl hb ?_
   refine T.skip ?_
   refine Zbr ?_
   refine T.block ?_
   refine T.seq ?_
   refine regA ?_
   refine runA ?_
   refine evG ggA (Zag (Zaa rfl) (Zbh rfl) (Zbh rfl) rfl hw) ?_
   refine evG ggA (Zar (Zaa rfl) (Zaf rfl) rfl rfl rfl rfl (Zbo rfl rfl) (Nat.le_of_ble_eq_true rfl)) ?_
   refine evG ggA (Zb5 (Zaa rfl) (Zaf rfl) rfl rfl hel rfl (fun a ha => by rw [List.mem_singleton] at ha; subst ha; rfl) (by decide) ?_ ?_ rfl (fun h => by cases h)) ?_
   ·simp [maxLen]; have := congrArg List.length hes; simp at this; omega
   ·simp; have := congrArg List.length hes; simp at this; omega
   refine runA ?_
   refine Zbs ?_
   refine Zbr ?_
   refine regA ?_
   refine runA ?_
   refine evG ggA (Zbx (Zaa rfl) rfl rfl (by decide) hsh) ?_
   refine goA ?_
   refine Zad (k := u / 4294967296) (s' := mkS [(2, .ptr 2 0), (3, .v (.p (.int .u64 ((u / 4294967296 : Nat) : Int)))), (4, .ptr 4 0)] [(2, .var [.v (.p (.bool false)), .v (.p nilV)]), (4, .var [.v (.p (.bool (decide (x < 0)))), .own 100 (es.length + 1)]), (100, .lst 1 95 (es.map u32 ++ [u32 ((u % 4294967296 : Nat) : Int)]))] 26 false) hdl (by exact entA) ⟨u / 4294967296, es ++ [((u % 4294967296 : Nat) : Int)], rfl, by omega, by simp; omega, by rw [hes, dgs_step h00, List.append_assoc]; rfl, by simp⟩
 rintro _ rfl
 refine goA ?_
 exact rfl
theorem q_p (x : Int) (h0 : -9223372036854775808 ≤ x) (h1 : x ≤ 9223372036854775807) : PC Tryz.prog 20 [.p (.int .i64 x)] (encQ (x : Rat)) := by
 have c1 := z_p x h0 h1
 have c2 := z_p 1 (by decide) (by decide)
 have e : encQ (x : Rat) = .agg (ci x ++ ci 1) := by unfold encQ; rw [Rat.num_intCast, Rat.den_intCast]; rfl
 rw [e]
 refine Zas true Tryz.func20 rfl rfl rfl (Nat.le_of_ble_eq_true rfl) (Za4.agg Zgt) ?_
 refine goA ?_
 refine evG ggA (Zae (Zaa rfl) rfl rfl c1) ?_
 refine evG ggA (Zae (Zaa rfl) rfl rfl c2) ?_
 refine goA ?_
 exact rfl
def qsL (xs : List Int) : List Rat := xs.map fun (x : Int) => (x : Rat)
set_option maxHeartbeats 1000000 in
theorem qs_p (xs : List Int) (hx : ∀ x, x ∈ xs → -9223372036854775808 ≤ x ∧ x ≤ 9223372036854775807) (hl : xs.length ≤ 100000) : PC Tryz.prog 24 [.sl (xs.map iV)] (.sl ((qsL xs).map encQ)) := by
 refine Zas true Tryz.func24 rfl rfl rfl (Nat.le_of_ble_eq_true rfl) Za4.tmp ?_
 refine r1A ?_
 refine r1A ?_
 refine T.seqI (fun s1 => s1 = mkS [(3, .v (.sl ((qsL xs).map encQ)))] [] 20 true) ?_ ?_
 ·refine r1A ?_
  refine T.block ?_
  refine T.loop (fun n s1 => ∃ j : Nat, n = xs.length - j ∧ j ≤ xs.length ∧ s1 = mkS [(0, .v (.sl (xs.map iV))), (3, .own 100 j), (4, .v (.p (.int .i64 j)))] [(100, .lst 4 54 (((qsL xs).take j).map encQ))] 20 true) xs.length
   (s' := mkS [(0, .v (.sl (xs.map iV))), (3, .own 100 0), (4, .v (.p (.int .i64 (0 : Nat))))] [(100, .lst 4 54 [])] 20 true) (by exact entA) ⟨0, rfl, Nat.zero_le _, rfl⟩ ?_
  rintro n _ ⟨j, rfl, hj, rfl⟩
  by_cases hlt : j < xs.length
  ·have hb : decide ((j : Int) < ((xs.map iV).length : Int)) = true := by simp; omega
   have hq : (qsL xs)[j]? = some ((xs[j] : Int) : Rat) := by unfold qsL; rw [List.getElem?_map, List.getElem?_eq_getElem hlt]; rfl
   have he : (xs.map iV)[j]? = some (.p (.int .i64 xs[j])) := by rw [List.getElem?_map, List.getElem?_eq_getElem hlt]; rfl
   have ht : ((qsL xs).take j).length = j := by unfold qsL; simp; omega
   obtain ⟨x0, x1⟩ := hx xs[j] (List.getElem_mem hlt)
   have c := q_p xs[j] x0 x1
   refine goA ?_
   refine evG ggA (Zab (Zaa rfl) (Zac rfl) rfl rfl (by omega) he rfl) ?_
   refine goA ?_
   refine evG ggA (Zae (Zaa rfl) rfl rfl c) ?_
   have hli : (((qsL xs).take j).map encQ).length = j := by rw [List.length_map]; exact ht
   refine evG ggA (Zar (Zaa rfl) (Zaf rfl) rfl rfl rfl rfl (Zbo rfl rfl) (Nat.le_of_ble_eq_true rfl)) ?_
   refine evG ggA (Zbe (Zaa rfl) (Zaf rfl) rfl rfl hli rfl rfl (by decide) rfl (by omega) (Nat.le_of_ble_eq_true rfl) rfl) ?_
   refine goA ?_
   exact Zad (k := xs.length - (j + 1)) (s' := mkS [(0, .v (.sl (xs.map iV))), (3, .own 100 (j + 1)), (4, .v (.p (.int .i64 ((j : Int) + 1))))] [(100, .lst 4 54 (((qsL xs).take j).map encQ ++ [_]))] 20 true) (by omega) (by exact entA) ⟨j + 1, rfl, hlt, by rw [List.take_add_one, hq, List.map_append]; rfl⟩
  ·have hb : decide ((j : Int) < ((xs.map iV).length : Int)) = false := by simp; omega
   have ht : (qsL xs).take j = qsL xs := List.take_of_length_le (by unfold qsL; simp; omega)
   have hlen : ((qsL xs).map encQ).length = j := by unfold qsL; simp; omega
   rw [ht]
   refine goA ?_
   exact Zao (s' := mkS [(3, .v (.sl ((qsL xs).map encQ)))] [] 20 true) (by exact entA) rfl
 rintro _ rfl
 refine goA ?_
 exact rfl
def one1 : BR := ⟨⟨false, [1]⟩, ⟨false, [1]⟩⟩
def PA : PP := ⟨[⟨0, [one1]⟩], [], [], [], [], []⟩
theorem one1_ok : one1.ok := by
 refine ⟨⟨fun d hd => ?_, by decide⟩, ⟨fun d hd => ?_, by decide⟩⟩
 ·rw [show one1.n.ds = [1] from rfl, List.mem_singleton] at hd; omega
 ·rw [show one1.d.ds = [1] from rfl, List.mem_singleton] at hd; omega
theorem one1_av : encQ (((1 : Int)) : Rat) = one1.av := by unfold encQ; rw [Rat.num_intCast, Rat.den_intCast]; rfl
theorem one1_can : one1.can = one1 := by
 have e : one1.q = 1 := by
  show Rat.divInt (zof false (vl [1])) (zof false (vl [1])) = 1
  have : zof false (vl [1]) = 1 := by decide
  rw [this]; rfl
 show (⟨BI.of one1.q.num, BI.of one1.q.den⟩ : BR) = _
 rw [e]; rfl
theorem PA_ok : PA.ok := by
 refine ⟨⟨fun s hs => ?_, by decide⟩, ⟨fun _ h => (by cases h), by decide⟩, ⟨fun _ h => (by cases h), by decide⟩, ⟨fun _ h => (by cases h), by decide⟩, ⟨fun _ h => (by cases h), by decide⟩, fun _ h => (by cases h), by decide⟩
 rw [show PA.ser = [⟨0, [one1]⟩] from rfl, List.mem_singleton] at hs
 subst hs
 refine ⟨by unfold I64; show _ ≤ (0 : Int) ∧ (0 : Int) ≤ _; omega, fun r hr => ?_, by decide⟩
 have hr : r ∈ [one1] := hr
 rw [List.mem_singleton] at hr
 subst hr
 exact one1_ok
theorem PA_can : PA.can = PA := by
 show (⟨[⟨0, [one1.can]⟩], [], [], [], [], []⟩ : PP) = PA
 rw [one1_can]; rfl
theorem PA_bytes : eP PA = [1, 0, 1, 2, 1, 0, 0, 0, 2, 1, 0, 0, 0, 0, 0, 0, 0, 0] := by
 have n0 : eN 0 = [0] := eN_lt (by decide)
 have n1 : eN 1 = [1] := eN_lt (by decide)
 have n2 : eN 2 = [2] := eN_lt (by decide)
 have hB : eB ⟨false, [1]⟩ = [2, 1, 0, 0, 0] := by
  show eN 2 ++ [1 % 256, 1 / 256 % 256, 1 / 65536 % 256, 1 / 16777216] = _
  rw [n2]; rfl
 have hR : eR one1 = [2, 1, 0, 0, 0, 2, 1, 0, 0, 0] := by
  show eB ⟨false, [1]⟩ ++ eB ⟨false, [1]⟩ = _
  rw [hB]; rfl
 have hS : eS ⟨0, [one1]⟩ = [0, 1, 2, 1, 0, 0, 0, 2, 1, 0, 0, 0] := by
  show eN 0 ++ (eN 1 ++ (eR one1 ++ [])) = _
  rw [n0, n1, hR]; rfl
 show (eN 1 ++ (eS ⟨0, [one1]⟩ ++ [])) ++ ((eN 0 ++ []) ++ ((eN 0 ++ []) ++ ((eN 0 ++ []) ++ ((eN 0 ++ []) ++ (eN 0 ++ []))))) = _
 rw [n0, n1, hS]; rfl
theorem str_self (s : ByteArray) : (s.toList == s.toList) = true := by simp
theorem PA_few : fewB PA = true := rfl
set_option maxHeartbeats 4000000 in
theorem awake_p : PC Tryz.prog 11 [] (boV true) := by
 have cQ := qs_p [1] (fun x hx => by rw [List.mem_singleton] at hx; omega) (by decide)
 rw [show (qsL [1]).map encQ = [one1.av] from by show [encQ (((1 : Int)) : Rat)] = _; rw [one1_av]] at cQ
 have cE := encode_p PA_ok (by show (0 : Nat) ≤ _; omega) PA_few (by rw [PA_can, PA_bytes]; decide)
 have cD := decode_back PA_ok PA_can PA_few (by rw [PA_bytes]; decide)
 rw [PA_can] at cE
 have cS := Zfw (x := ⟨0, [one1]⟩) (PA_ok.1.1 _ (List.mem_singleton.2 rfl))
 have eE : (encB PA).map nV = [nV 72, nV 80, nV 1, nV 1, nV 0, nV 1, nV 2, nV 1, nV 0, nV 0, nV 0, nV 2, nV 1, nV 0, nV 0, nV 0, nV 0, nV 0, nV 0, nV 0, nV 0, nV (fnv (Zf5 PA) / 16777216), nV (fnv (Zf5 PA) / 65536 % 256), nV (fnv (Zf5 PA) / 256 % 256), nV (fnv (Zf5 PA) % 256)] := by
  show (((72 :: 80 :: 1 :: eP PA) ++ Zc5 (fnv (Zf5 PA))).map nV) = _
  rw [PA_bytes]; rfl
 rw [eE] at cE cD
 have ePA : PA.av = .agg [.sl [.agg [iV 0, .sl [one1.av]]], .sl [], .sl [], .sl [], .sl [], .sl []] := rfl
 rw [ePA] at cE cD
 have cS : PC Tryz.prog 25 [.agg [iV 0, .sl [one1.av]], .agg [iV 0, .sl [one1.av]]] (boV true) := cS
 have cQ : PC Tryz.prog 24 [.sl [iV 1]] (.sl [one1.av]) := cQ
 clear eE ePA
 generalize fnv (Zf5 PA) / 16777216 = y0 at *
 generalize fnv (Zf5 PA) / 65536 % 256 = y1 at *
 generalize fnv (Zf5 PA) / 256 % 256 = y2 at *
 generalize fnv (Zf5 PA) % 256 = y3 at *
 have hone : one1.av = .agg [boV false, .sl [u32 1], boV false, .sl [u32 1]] := rfl
 rw [hone] at cQ cE cD cS
 have W21 : ∀ x : AV, x ∈ ([nV 72, nV 80, nV 1, nV 1, nV 0, nV 1, nV 2, nV 1, nV 0, nV 0, nV 0, nV 2, nV 1, nV 0, nV 0, nV 0, nV 0, nV 0, nV 0, nV 0, nV 0] : List AV) → x.cells.length = 1 ∧ x.cells.all AV.one = true := fun x hx => by
  simp only [List.mem_cons, List.not_mem_nil, or_false] at hx
  rcases hx with rfl | rfl | rfl | rfl | rfl | rfl | rfl | rfl | rfl | rfl | rfl | rfl | rfl | rfl | rfl | rfl | rfl | rfl | rfl | rfl | rfl <;> exact ⟨rfl, rfl⟩
 have W25 : ∀ x : AV, x ∈ ([nV 72, nV 80, nV 1, nV 1, nV 0, nV 1, nV 2, nV 1, nV 0, nV 0, nV 0, nV 2, nV 1, nV 0, nV 0, nV 0, nV 0, nV 0, nV 0, nV 0, nV 0, nV y0, nV y1, nV y2, nV y3] : List AV) → x.cells.length = 1 := Zdw [72, 80, 1, 1, 0, 1, 2, 1, 0, 0, 0, 2, 1, 0, 0, 0, 0, 0, 0, 0, 0, y0, y1, y2, y3]
 refine Zas true Tryz.func11 rfl rfl rfl (Nat.le_of_ble_eq_true rfl) Za4.tmp ?_
 refine goJ ?_
 refine evG ggA (Zar (Zaa rfl) (Zaf rfl) rfl rfl rfl rfl (Zbo rfl rfl) (Nat.le_of_ble_eq_true rfl)) ?_
 refine evG ggA (Zae (Zaa rfl) rfl rfl cQ) ?_
 refine goJ ?_
 refine evG ggA (Zar (Zaa rfl) (Zaf rfl) rfl rfl rfl rfl (Zbo rfl rfl) (Nat.le_of_ble_eq_true rfl)) ?_
 refine goJ ?_
 refine evG ggA (Zae (Zaa rfl) rfl rfl cE) ?_
 refine goJ ?_
 refine evG ggA (Zae (Zaa rfl) rfl rfl cD) ?_
 refine goJ ?_
 refine evG ggA (Zar (Zaa rfl) (Zaf rfl) rfl rfl rfl rfl W21 (Nat.le_of_ble_eq_true rfl)) ?_
 refine goJ ?_
 refine T.drawF mixed ?_
 refine goJ ?_
 refine evG ggA (Zbk (c := 25) (Zaa rfl) rfl rfl rfl) ?_
 refine goJ ?_
 refine evG ggA (Zde (hi := 21) (Zaa rfl) (Zac rfl) rfl W25 rfl (by decide) (Nat.le_of_ble_eq_true rfl |> Int.ofNat_le.2)) ?_
 refine evG ggA (Zdg (l := [72, 80, 1, 1, 0, 1, 2, 1, 0, 0, 0, 2, 1, 0, 0, 0, 0, 0, 0, 0, 0]) (Zaa rfl) Zem Za3 Zel rfl) ?_
 refine goJ ?_
 refine evG ggA (Zdg (l := [72, 80, 1, 1, 0, 1, 2, 1, 0, 0, 0, 2, 1, 0, 0, 0, 0, 0, 0, 0, 0]) (Zaa rfl) Zem Za3 Zel rfl) ?_
 refine evG ggA (Zez (Zaa rfl) rfl rfl (congrArg some (str_self _))) ?_
 refine goJ ?_
 refine evG ggA (Zab (Zaa rfl) (Zac rfl) rfl rfl (by decide) rfl rfl) ?_
 refine goJ ?_
 refine evG ggA (Zar (Zaa rfl) (Zaf rfl) rfl rfl rfl rfl (Zbo rfl rfl) (Nat.le_of_ble_eq_true rfl)) ?_
 refine evG ggA (Zae (Zaa rfl) rfl rfl cQ) ?_
 refine goJ ?_
 refine evG ggA (Zae (Zaa rfl) rfl rfl cS) ?_
 refine goJ ?_
 refine ⟨by kernel_rfl, ?_⟩
 refine goJ ?_
 exact rfl
end Ab
