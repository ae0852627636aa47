/- Whether all expressions of a package are few and small: the program's few. -/
import Derived.Test.YtbpdgaolmikjbaaGreatSzA
set_option linter.all false
namespace Ab
open Go Go.RowKit Go.Proofs Hp
set_option maxRecDepth 100000
set_option maxHeartbeats 4000000
theorem und_bnds : Tryz.prog.underlying 24 = some (.slice 61) := by kernel_rfl
theorem cloneB_p (U : List PB) (hU : U.length ≤ 1000000000) : PCO Tryz.prog 90 [.sl (U.map PB.av)] 9 61 (U.map PB.av) := by
 have hc7 : ∀ a, a ∈ U.map PB.av → a.cells.length = 9 := fun a ha => by
  obtain ⟨⟨nm, ⟨op, ns, ⟨⟨ga, da⟩, ⟨gb, db⟩⟩, nx, gs⟩⟩, -, rfl⟩ := List.mem_map.1 ha; rfl
 have hnu : ∀ a, a ∈ U.map PB.av → ∀ c, c ∈ a.cells → c.nu = true := fun a ha => by
  obtain ⟨⟨nm, ⟨op, ns, ⟨⟨ga, da⟩, ⟨gb, db⟩⟩, nx, gs⟩⟩, -, rfl⟩ := List.mem_map.1 ha
  exact List.all_eq_true.1 rfl
 have hl : (U.map PB.av).length ≤ 1000000000 := by simpa using hU
 generalize U.map PB.av = xs at *
 refine pc_bodyO (t := 2) (id := 100) Tryz.func90 rfl rfl rfl (Nat.le_of_ble_eq_true rfl) ?_
 refine goA ?_
 refine evM (ms_eqnil' rfl und_bnds rfl fun b hb => ?_)
 refine goA ?_
 refine T.cond rfl (fun hbt => ?_) (fun hbf => ?_)
 ·have hx : xs = [] := by
   cases xs with
   | nil => rfl
   | cons x xs => have := hb (fun e => by cases e); rw [this] at hbt; cases hbt
  subst hx
  refine T.weak (s' := mkS [(0, .v (.sl [])), (2, .v (.p nilV))] [] 8 true) (by exact entA) ?_
  refine T.seq ?_
  refine regA ?_
  refine runA ?_
  refine Zbs ?_
  refine Zbr ?_
  refine T.weak (s' := mkS [(2, .own 100 0)] [(100, .lst 9 61 [])] 8 true) (by exact entA) ?_
  refine goA ?_
  exact ⟨.inr rfl, rfl, rfl, rfl⟩
 ·refine goA ?_
  refine evG ggA (Zd8 100 (xs := []) (Zaa rfl) rfl (Zaf rfl) rfl rfl rfl rfl (fun x hx => by cases hx) (Nat.le_of_ble_eq_true rfl) (by decide) (fun _ a ha => by cases ha)) ?_
  refine goA ?_
  refine evG ggA (Zb5 (Zaa rfl) (Zaf rfl) rfl rfl rfl rfl hc7 (by decide) (by unfold maxLen; simp; omega) (by simp; omega) rfl (fun _ => hnu)) ?_
  refine goA ?_
  exact ⟨.inr rfl, rfl, by simp [AS.act, AS.put, updo, upd], by simp [AS.act, mact, upd]⟩
def PP.binds (p : PP) : List PB := p.defs ++ p.cert.flatMap (·.ds)
def fewB (p : PP) : Bool := (p.cert.all fun c => fitB c.a && fitB c.b) && p.binds.all fun d => fitB d.e
theorem all_get {α : Type} {l : List α} {i : Nat} {x : α} {f : α → Bool} (hg : l[i]? = some x) (hf : f x = false) : l.all f = false := by
 cases h : l.all f with
 | false => rfl
 | true => rw [List.all_eq_true.1 h x (List.mem_of_getElem? hg)] at hf; cases hf
theorem all_take {α : Type} {l : List α} {i : Nat} {x : α} {f : α → Bool} (hg : l[i]? = some x) (h : (l.take i).all f = true) (hf : f x = true) : (l.take (i + 1)).all f = true := by
 rw [List.take_add_one, hg, List.all_append, h]
 simp [hf]
theorem flat_take {α β : Type} {l : List α} {i : Nat} {x : α} {f : α → List β} (hg : l[i]? = some x) : (l.take (i + 1)).flatMap f = (l.take i).flatMap f ++ f x := by
 rw [List.take_add_one, hg]; simp
theorem few_p {p : PP} (h : p.ok) (ht : p.binds.length ≤ 1000000000) : PC Tryz.prog 26 [p.av] (boV (fewB p)) := by
  obtain ⟨sr, et, df, ce, sp, ma⟩ := p
  obtain ⟨-, -, ⟨h2, n2⟩, ⟨h3, n3⟩, -, -⟩ := h
  have h2 : ∀ s, s ∈ df → s.ok := h2
  have h3 : ∀ s, s ∈ ce → s.ok := h3
  have n2 : df.length ≤ 1000000000 := n2
  have n3 : ce.length ≤ 1000000000 := n3
  have ccl := cloneB_p df n2
  have ht : (df ++ ce.flatMap (·.ds)).length ≤ 1000000000 := ht
  have eml : (ce.map PZ.av).length = ce.length := List.length_map ..
  have eF : fewB ⟨sr, et, df, ce, sp, ma⟩ = ((ce.all fun c => fitB c.a && fitB c.b) && (df ++ ce.flatMap (·.ds)).all fun d => fitB d.e) := rfl
  rw [eF]
  have hall : ∀ d, d ∈ df ++ ce.flatMap (·.ds) → d.ok := fun d hd => by
    rcases List.mem_append.1 hd with hd | hd
    · exact h2 d hd
    · obtain ⟨c, hc, hd⟩ := List.mem_flatMap.1 hd
      exact (h3 c hc).2.2.1.1 d hd
  have hdf : df.map PB.av = (df ++ (ce.take 0).flatMap (·.ds)).map PB.av := by simp
  have hdl : (df.map PB.av).length = (df ++ (ce.take 0).flatMap (·.ds)).length := by simp
  refine Zas true Tryz.func26 rfl rfl rfl (Nat.le_of_ble_eq_true rfl) Za4.tmp ?_
  refine T.seq ?_
  refine regA ?_
  refine runA ?_
  refine Zbs ?_
  refine Zbr ?_
  refine T.seq ?_
  refine T.regionO 2 ?_
  show EvL _ _ _ (_ :: _) _ _
  refine runA ?_
  refine Zbs ?_
  refine ocall 100 ccl rfl rfl rfl rfl ?_
  refine goI ?_
  refine T.loop (fun K s1 => ∃ i : Nat, K = ce.length - i ∧ i ≤ ce.length ∧ ((ce.take i).all fun c => fitB c.a && fitB c.b) = true ∧ s1 = mkS [(3, .own 100 (df ++ (ce.take i).flatMap (·.ds)).length), (12, .v (.sl (ce.map PZ.av))), (13, .v (iV ce.length)), (14, .v (iV i))] [(100, .lst 9 61 ((df ++ (ce.take i).flatMap (·.ds)).map PB.av))] 44 true) ce.length
    (s' := mkS [(3, .own 100 (df.map PB.av).length), (12, .v (.sl (ce.map PZ.av))), (13, .v (iV ((ce.map PZ.av).length : Nat))), (14, .v (iV ((0 : Nat) : Int)))] [(100, .lst 9 61 (df.map PB.av))] 44 true) (by exact entA) ⟨0, rfl, Nat.zero_le _, rfl, by rw [eml, hdl, ← hdf]⟩ ?_
  rintro _ _ ⟨i, rfl, hi, hok, rfl⟩
  by_cases hlt : i < ce.length
  rotate_left
  · obtain rfl : i = ce.length := by omega
    have d1 : decide ((ce.length : Int) < (ce.length : Int)) = false := decide_eq_false (by omega)
    rw [List.take_length] at hok ⊢
    rw [hok, Bool.true_and]
    clear hok hdf hdl ccl h2 h3
    generalize df ++ ce.flatMap (·.ds) = A at *
    have hAl : (A.map PB.av).length = A.length := List.length_map ..
    refine r1A ?_
    first
      | refine T.condF rfl (by assumption) ?_
      | (refine T.seq ?_; refine T.condF rfl (by assumption) ?_)
    refine T.exit ?_
    refine osA ?_
    refine T.weak (s' := mkS [(3, .v (.sl (A.map PB.av)))] [] 44 true) (by exact entA) ?_
    refine goI ?_
    refine T.loop (fun K s1 => ∃ i : Nat, K = A.length - i ∧ i ≤ A.length ∧ ((A.take i).all fun d => fitB d.e) = true ∧ s1 = mkS [(33, .v (.sl (A.map PB.av))), (34, .v (iV A.length)), (35, .v (iV i))] [] 44 true) A.length
      (s' := mkS [(33, .v (.sl (A.map PB.av))), (34, .v (iV ((A.map PB.av).length : Nat))), (35, .v (iV ((0 : Nat) : Int)))] [] 44 true) (by exact entA) ⟨0, rfl, Nat.zero_le _, rfl, by rw [hAl]⟩ ?_
    rintro _ _ ⟨i, rfl, hi, hok, rfl⟩
    by_cases hlt2 : i < A.length
    · have d2 : decide ((i : Int) < (A.length : Int)) = true := decide_eq_true (by omega)
      have hg : A[i]? = some A[i] := List.getElem?_eq_getElem hlt2
      have hxi : (A.map PB.av)[((i : Nat) : Int).toNat]? = some (PB.av A[i]) := by rw [Int.toNat_natCast, List.getElem?_map, hg]; rfl
      have c := small_p (hall _ (List.getElem_mem hlt2)).2
      have hT : fitB A[i].e = true → ((A.take (i + 1)).all fun d => fitB d.e) = true := fun hf => all_take hg hok hf
      have hF : fitB A[i].e = false → (A.all fun d => fitB d.e) = false := fun hf => all_get hg hf
      clear hg
      generalize A[i] = x at *
      obtain ⟨nx, e⟩ := x
      change PC _ _ [e.av] _ at c
      change fitB e = true → _ at hT
      change fitB e = false → _ at hF
      generalize fitB e = B at *
      obtain ⟨op, ns, ⟨⟨ga, da⟩, ⟨gb, db⟩⟩, nm, gs⟩ := e
      refine goI ?_
      refine evG ggA (Zab (Zaa rfl) (Zac rfl) rfl rfl (by omega) hxi rfl) ?_
      refine goI ?_
      refine evG ggA (Zae (Zaa rfl) rfl rfl c) ?_
      cases B with
      | false =>
        rw [hF rfl]
        refine goI ?_
        exact rfl
      | true =>
        refine goI ?_
        exact Zad (k := A.length - (i + 1)) (s' := mkS [(33, .v (.sl (A.map PB.av))), (34, .v (iV A.length)), (35, .v (iV ((i : Int) + 1)))] [] 44 true) (by omega) (by exact entA) ⟨i + 1, rfl, hlt2, hT rfl, rfl⟩
    · obtain rfl : i = A.length := by omega
      have d2 : decide ((A.length : Int) < (A.length : Int)) = false := decide_eq_false (by omega)
      rw [List.take_length] at hok
      rw [hok]
      refine goI ?_
      exact rfl
  · have d1 : decide ((i : Int) < (ce.length : Int)) = true := decide_eq_true (by omega)
    have hg : ce[i]? = some ce[i] := List.getElem?_eq_getElem hlt
    have hxi : (ce.map PZ.av)[((i : Nat) : Int).toNat]? = some (PZ.av ce[i]) := by rw [Int.toNat_natCast, List.getElem?_map, hg]; rfl
    obtain ⟨q1, q2, ⟨q3, q4⟩, -⟩ := h3 _ (List.getElem_mem hlt)
    have c1 := small_p q1
    have c2 := small_p q2
    have hT : fitB ce[i].a = true → fitB ce[i].b = true → ((ce.take (i + 1)).all fun c => fitB c.a && fitB c.b) = true := fun e1 e2 => all_take hg hok (by rw [e1, e2]; rfl)
    have hF : (fitB ce[i].a && fitB ce[i].b) = false → (ce.all fun c => fitB c.a && fitB c.b) = false := fun hf => all_get hg hf
    have hfl := flat_take (f := fun c : PZ => c.ds) hg
    have hle : (df ++ (ce.take (i + 1)).flatMap (·.ds)).length ≤ 1000000000 := by
      have : ((ce.take (i + 1)).flatMap (·.ds)).length ≤ (ce.flatMap (·.ds)).length := by
        conv => rhs; rw [← List.take_append_drop (i + 1) ce, List.flatMap_append, List.length_append]
        omega
      rw [List.length_append] at ht ⊢
      omega
    have hds : ∀ a, a ∈ ce[i].ds.map PB.av → a.cells.length = 9 := fun a ha => by
      obtain ⟨⟨nm, ⟨op, ns, ⟨⟨ga, da⟩, ⟨gb, db⟩⟩, nx, gs⟩⟩, -, rfl⟩ := List.mem_map.1 ha; rfl
    have hnu : ∀ a, a ∈ ce[i].ds.map PB.av → ∀ c, c ∈ a.cells → c.nu = true := fun a ha => by
      obtain ⟨⟨nm, ⟨op, ns, ⟨⟨ga, da⟩, ⟨gb, db⟩⟩, nx, gs⟩⟩, -, rfl⟩ := List.mem_map.1 ha
      exact List.all_eq_true.1 rfl
    rw [hfl, ← List.append_assoc] at hle
    have hnext : ∀ Q : List PB, Q = df ++ (ce.take i).flatMap (·.ds) → df ++ (ce.take (i + 1)).flatMap (·.ds) = Q ++ ce[i].ds := fun Q e => by rw [hfl, e, List.append_assoc]
    replace hnext := hnext _ rfl
    clear hg hfl hdf hdl ccl h2 h3 hall q1 q2 q3 q4
    generalize df ++ (ce.take i).flatMap (·.ds) = Q at *
    have hQl : (Q.map PB.av).length = Q.length := List.length_map ..
    generalize ce[i] = x at *
    obtain ⟨xa, xb, xd, xk, xo, xc⟩ := x
    change PC _ _ [xa.av] _ at c1
    change PC _ _ [xb.av] _ at c2
    change fitB xa = true → fitB xb = true → _ at hT
    change (fitB xa && fitB xb) = false → _ at hF
    change (Q ++ xd).length ≤ 1000000000 at hle
    have hadd : Q.length + (xd.map PB.av).length = (Q ++ xd).length := by simp
    have happ : Q.map PB.av ++ xd.map PB.av = (Q ++ xd).map PB.av := (List.map_append ..).symm
    generalize fitB xa = BA at *
    generalize fitB xb = BB at *
    obtain ⟨op, ns, ⟨⟨ga, da⟩, ⟨gb, db⟩⟩, nm, gs⟩ := xa
    obtain ⟨op', ns', ⟨⟨gc, dc⟩, ⟨gd, dd⟩⟩, nm', gs'⟩ := xb
    obtain ⟨k1, k2, k3, k4, ku⟩ := xk
    obtain ⟨xf, xc⟩ := xc
    refine goI ?_
    refine evG ggA (Zab (Zaa rfl) (Zac rfl) rfl rfl (by omega) hxi rfl) ?_
    refine goI ?_
    refine evG ggA (Zae (Zaa rfl) rfl rfl c1) ?_
    cases BA with
    | false =>
      rw [hF rfl]
      refine goI ?_
      exact rfl
    | true =>
      refine goI ?_
      refine evG ggA (Zae (Zaa rfl) rfl rfl c2) ?_
      cases BB with
      | false =>
        rw [hF rfl]
        refine goI ?_
        exact rfl
      | true =>
        refine goI ?_
        refine evG ggA (Zb5 (Zaa rfl) (Zaf rfl) rfl rfl hQl rfl hds (by decide) (by rw [hadd]; unfold maxLen; omega) (by rw [hadd]; omega) rfl (fun _ => hnu)) ?_
        rw [hadd, happ]
        refine goI ?_
        exact Zad (k := ce.length - (i + 1)) (s' := mkS [(3, .own 100 (Q ++ xd).length), (12, .v (.sl (ce.map PZ.av))), (13, .v (iV ce.length)), (14, .v (iV ((i : Int) + 1)))] [(100, .lst 9 61 ((Q ++ xd).map PB.av))] 44 true) (by omega) (by exact entA) ⟨i + 1, rfl, hlt, hT rfl rfl, by rw [hnext]; rfl⟩
end Ab
