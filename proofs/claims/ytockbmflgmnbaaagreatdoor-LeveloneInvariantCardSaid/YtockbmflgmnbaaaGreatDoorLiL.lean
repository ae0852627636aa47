/- The statement LeveloneInvariant: walked. -/
import Derived.Test.YtockbmflgmnbaaaGreatDoorLiK
set_option linter.all false
namespace Ab
open Go Go.RowKit Go.Proofs Hp
set_option maxRecDepth 100000
section
variable {dm : Bool} {P : Program} {ops : Array Oper} {s : AS} {dst : Option Tmp} {ty : TypeId} {pos : String} {after : Array Edge} {g : Option (Nat × Bool)}
def ArrT (P : Program) (t : TypeId) (len n : Nat) : Prop := ∃ e i, P.underlying t = some (.array len e) ∧ P.info? e = some i ∧ i.size = n
theorem Zaq {t : TypeId} {len n : Nat} {y z : Operand} {k : IntKind} {i : Int} {id o : Nat} (hin : InB s dst) (ht : ArrT P t len n) (hy : s.ev y = some (.ptr id o)) (hz : s.ev z = some (.v (.p (.int k i)))) (h0 : 0 ≤ i) (hi : i < len) : Zbe dm P ops ⟨dst, .indexAddr t y z, ty, pos, after, g⟩ s (.ptr id (o + i.toNat * n)) .none :=
 Za9 hin fun s' hag w0 M0 ρ a w _ hr => by
  obtain ⟨e, ei, h1, h2, h3⟩ := ht
  obtain ⟨h6, b, kk, h7, h8⟩ := hr.ev ((hag.ev (by simp [Op.operands])).trans hy)
  have h9 := Rep.p_inv (hr.ev ((hag.ev (by simp [Op.operands])).trans hz))
  refine ⟨.pointer (some ⟨b, o + i.toNat * n, none⟩), ?_, h6, b, kk, h7, rfl⟩
  have hi' : 0 ≤ i ∧ i < (len : Int) := ⟨h0, hi⟩
  simp [execOp, h8, h9, Instr.indexAt, asIntOf, run_underlying h1, hi', Go.sizeOf, typeInfo, h2, h3, addr_add, Instr.sureAddr]
end
theorem arrT_of {P : Program} {t : TypeId} {len n : Nat} (h : (match P.underlying t with | some (.array l e) => (match P.info? e with | some i => l == len && i.size == n | none => false) | _ => false) = true) : ArrT P t len n := by
  cases hu : P.underlying t with
  | none => rw [hu] at h; cases h
  | some d =>
    rw [hu] at h
    cases d <;> first | cases h | skip
    rename_i l e
    simp only at h
    cases hi : P.info? e with
    | none => rw [hi] at h; cases h
    | some i =>
      rw [hi] at h
      simp only [Bool.and_eq_true, beq_iff_eq] at h
      obtain ⟨rfl, rfl⟩ := h
      exact ⟨e, i, hu, hi, rfl⟩
theorem Zbi : ArrT Tryz.prog 26 2 1 := arrT_of (by kernel_rfl)
theorem inv_1 {fs es : List AV} {s x y : Int} (g1 : PC Tryz.prog 4 [.sl fs] (bV true)) : PC Tryz.prog 3 [.sl fs, serA s es, .agg [.p (.int .i64 x), .p (.int .i64 y)]] (bV true) := by
 have aw := Zd2
 refine pb1 Tryz.func3 Zab.tmp ?_
 refine goA ?_
 refine clG g1 ?_
 refine clG aw ?_
 exact rfl
theorem inv_2 {fs es : List AV} {s x y : Int} (g1 : PC Tryz.prog 4 [.sl fs] (bV false)) (g2 : PC Tryz.prog 4 [.sl es] (bV true)) : PC Tryz.prog 3 [.sl fs, serA s es, .agg [.p (.int .i64 x), .p (.int .i64 y)]] (bV true) := by
 have aw := Zd2
 refine pb1 Tryz.func3 Zab.tmp ?_
 refine goA ?_
 refine clG g1 ?_
 refine clG g2 ?_
 refine clG aw ?_
 exact rfl
theorem inv_3 {fs es : List AV} {s x y : Int} (g1 : PC Tryz.prog 4 [.sl fs] (bV false)) (g2 : PC Tryz.prog 4 [.sl es] (bV false)) (g3 : PC Tryz.prog 5 [iV y, iV 8] (bV true)) : PC Tryz.prog 3 [.sl fs, serA s es, .agg [.p (.int .i64 x), .p (.int .i64 y)]] (bV true) := by
 have aw := Zd2
 refine pb1 Tryz.func3 Zab.tmp ?_
 refine goA ?_
 refine clG g1 ?_
 refine clG g2 ?_
 refine evG ggA (Zaq (Zaa rfl) Zbi rfl rfl (by decide) (by decide)) ?_
 refine goA ?_
 refine clG g3 ?_
 refine clG aw ?_
 exact rfl
theorem inv_4 {fs es : List AV} {s x y : Int} (g1 : PC Tryz.prog 4 [.sl fs] (bV false)) (g2 : PC Tryz.prog 4 [.sl es] (bV false)) (g3 : PC Tryz.prog 5 [iV y, iV 8] (bV false)) (h : x > 8 ∧ x ≤ 20) : PC Tryz.prog 3 [.sl fs, serA s es, .agg [.p (.int .i64 x), .p (.int .i64 y)]] (bV true) := by
 have aw := Zd2
 have b1 : decide (x > 8) = true := decide_eq_true h.1
 have b2 : decide (x ≤ 20) = true := decide_eq_true h.2
 refine pb1 Tryz.func3 Zab.tmp ?_
 refine goA ?_
 refine clG g1 ?_
 refine clG g2 ?_
 refine evG ggA (Zaq (Zaa rfl) Zbi rfl rfl (by decide) (by decide)) ?_
 refine goA ?_
 refine clG g3 ?_
 refine evG ggA (Zaq (Zaa rfl) Zbi rfl rfl (by decide) (by decide)) ?_
 refine goA ?_
 refine evG ggA (Zaq (Zaa rfl) Zbi rfl rfl (by decide) (by decide)) ?_
 refine goA ?_
 refine clG aw ?_
 exact rfl
theorem inv_5 {fs es : List AV} {s x y : Int} {p : Int} (g1 : PC Tryz.prog 4 [.sl fs] (bV false)) (g2 : PC Tryz.prog 4 [.sl es] (bV false)) (g3 : PC Tryz.prog 5 [iV y, iV 8] (bV false)) (hx : ¬ (x > 8 ∧ x ≤ 20)) (ck : PC Tryz.prog 6 [serA s es] (iV 0)) (pr : PC Tryz.prog 7 [serA s es] (iV p)) (h : p > 12 ∧ p ≤ 900) : PC Tryz.prog 3 [.sl fs, serA s es, .agg [.p (.int .i64 x), .p (.int .i64 y)]] (bV true) := by
 have aw := Zd2
 have b3 : decide (p > 12) = true := decide_eq_true h.1
 have b4 : decide (p ≤ 900) = true := decide_eq_true h.2
 by_cases h8 : x > 8
 ·have b1 : decide (x > 8) = true := decide_eq_true h8
  have b2 : decide (x ≤ 20) = false := decide_eq_false (by omega)
  refine pb1 Tryz.func3 Zab.tmp ?_
  refine goA ?_
  refine clG g1 ?_
  refine clG g2 ?_
  refine evG ggA (Zaq (Zaa rfl) Zbi rfl rfl (by decide) (by decide)) ?_
  refine goA ?_
  refine clG g3 ?_
  refine evG ggA (Zaq (Zaa rfl) Zbi rfl rfl (by decide) (by decide)) ?_
  refine goA ?_
  refine evG ggA (Zaq (Zaa rfl) Zbi rfl rfl (by decide) (by decide)) ?_
  refine goA ?_
  refine clG ck ?_
  refine clG pr ?_
  refine clG pr ?_
  refine clG aw ?_
  exact rfl
 ·have b1 : decide (x > 8) = false := decide_eq_false h8
  refine pb1 Tryz.func3 Zab.tmp ?_
  refine goA ?_
  refine clG g1 ?_
  refine clG g2 ?_
  refine evG ggA (Zaq (Zaa rfl) Zbi rfl rfl (by decide) (by decide)) ?_
  refine goA ?_
  refine clG g3 ?_
  refine evG ggA (Zaq (Zaa rfl) Zbi rfl rfl (by decide) (by decide)) ?_
  refine goA ?_
  refine clG ck ?_
  refine clG pr ?_
  refine clG pr ?_
  refine clG aw ?_
  exact rfl
set_option maxHeartbeats 8000000 in
theorem inv_6 {fs es : List AV} {s x y : Int} {c e1 e2 e3 u : Int} {A B C : List AV} (g1 : PC Tryz.prog 4 [.sl fs] (bV false)) (g2 : PC Tryz.prog 4 [.sl es] (bV false)) (g3 : PC Tryz.prog 5 [iV y, iV 8] (bV false)) (hx : ¬ (x > 8 ∧ x ≤ 20)) (ck : PC Tryz.prog 6 [serA s es] (iV c)) (hc : c = 0 → ∃ p : Int, PC Tryz.prog 7 [serA s es] (iV p) ∧ ¬ (p > 12 ∧ p ≤ 900))
  (f1 : PC Tryz.prog 9 [iV x] (.tup [.sl A, iV e1])) (f2 : PC Tryz.prog 10 [iV x] (.tup [.sl A, iV e1]))
  (f3 : PC Tryz.prog 11 [.sl fs, iV y] (.tup [serA u B, iV e2])) (f4 : PC Tryz.prog 12 [.sl fs, iV y] (.tup [serA u B, iV e2]))
  (f5 : PC Tryz.prog 13 [serA s es] (.tup [.sl C, iV e3])) (f6 : PC Tryz.prog 14 [serA s es] (.tup [.sl C, iV e3]))
  (s1 : PC Tryz.prog 15 [.sl A, .sl A] (bV true)) (s2 : PC Tryz.prog 16 [serA u B, serA u B] (bV true)) (s3 : PC Tryz.prog 15 [.sl C, .sl C] (bV true)) :
  PC Tryz.prog 3 [.sl fs, serA s es, .agg [.p (.int .i64 x), .p (.int .i64 y)]] (bV true) := by
 have aw := Zd2
 have q1 : (e1 == e1) = true := by simp
 have q2 : (e2 == e2) = true := by simp
 have q3 : (e3 == e3) = true := by simp
 refine pb1 Tryz.func3 Zab.tmp ?_
 refine r1A ?_
 refine T.seqE (mkS [(0, .v (.sl fs)), (4, .ptr 4 0), (5, .ptr 5 0)] [(4, .var [.v (iV s), .v (.sl es)]), (5, .var [.v (iV x), .v (iV y)])] 124 true) ?_ ?_
 ·by_cases h8 : x > 8
  ·have b1 : decide (x > 8) = true := decide_eq_true h8
   have b2 : decide (x ≤ 20) = false := decide_eq_false (by omega)
   by_cases c0 : c = 0
   ·have b5 : (c == 0) = true := by rw [beq_iff_eq]; exact c0
    obtain ⟨p, pr, hp⟩ := hc c0
    by_cases h12 : p > 12
    ·have b3 : decide (p > 12) = true := decide_eq_true h12
     have b4 : decide (p ≤ 900) = false := decide_eq_false (by omega)
     refine goA ?_
     refine clG g1 ?_
     refine clG g2 ?_
     refine evG ggA (Zaq (Zaa rfl) Zbi rfl rfl (by decide) (by decide)) ?_
     refine goA ?_
     refine clG g3 ?_
     refine evG ggA (Zaq (Zaa rfl) Zbi rfl rfl (by decide) (by decide)) ?_
     refine goA ?_
     refine evG ggA (Zaq (Zaa rfl) Zbi rfl rfl (by decide) (by decide)) ?_
     refine goA ?_
     refine clG ck ?_
     refine clG pr ?_
     refine clG pr ?_
     exact midE
    ·have b3 : decide (p > 12) = false := decide_eq_false h12
     refine goA ?_
     refine clG g1 ?_
     refine clG g2 ?_
     refine evG ggA (Zaq (Zaa rfl) Zbi rfl rfl (by decide) (by decide)) ?_
     refine goA ?_
     refine clG g3 ?_
     refine evG ggA (Zaq (Zaa rfl) Zbi rfl rfl (by decide) (by decide)) ?_
     refine goA ?_
     refine evG ggA (Zaq (Zaa rfl) Zbi rfl rfl (by decide) (by decide)) ?_
     refine goA ?_
     refine clG ck ?_
     refine clG pr ?_
     exact midE
   ·have b5 : (c == 0) = false := by rw [beq_eq_false_iff_ne]; exact c0
    refine goA ?_
    refine clG g1 ?_
    refine clG g2 ?_
    refine evG ggA (Zaq (Zaa rfl) Zbi rfl rfl (by decide) (by decide)) ?_
    refine goA ?_
    refine clG g3 ?_
    refine evG ggA (Zaq (Zaa rfl) Zbi rfl rfl (by decide) (by decide)) ?_
    refine goA ?_
    refine evG ggA (Zaq (Zaa rfl) Zbi rfl rfl (by decide) (by decide)) ?_
    refine goA ?_
    refine clG ck ?_
    exact midE
  ·have b1 : decide (x > 8) = false := decide_eq_false h8
   by_cases c0 : c = 0
   ·have b5 : (c == 0) = true := by rw [beq_iff_eq]; exact c0
    obtain ⟨p, pr, hp⟩ := hc c0
    by_cases h12 : p > 12
    ·have b3 : decide (p > 12) = true := decide_eq_true h12
     have b4 : decide (p ≤ 900) = false := decide_eq_false (by omega)
     refine goA ?_
     refine clG g1 ?_
     refine clG g2 ?_
     refine evG ggA (Zaq (Zaa rfl) Zbi rfl rfl (by decide) (by decide)) ?_
     refine goA ?_
     refine clG g3 ?_
     refine evG ggA (Zaq (Zaa rfl) Zbi rfl rfl (by decide) (by decide)) ?_
     refine goA ?_
     refine clG ck ?_
     refine clG pr ?_
     refine clG pr ?_
     exact midE
    ·have b3 : decide (p > 12) = false := decide_eq_false h12
     refine goA ?_
     refine clG g1 ?_
     refine clG g2 ?_
     refine evG ggA (Zaq (Zaa rfl) Zbi rfl rfl (by decide) (by decide)) ?_
     refine goA ?_
     refine clG g3 ?_
     refine evG ggA (Zaq (Zaa rfl) Zbi rfl rfl (by decide) (by decide)) ?_
     refine goA ?_
     refine clG ck ?_
     refine clG pr ?_
     exact midE
   ·have b5 : (c == 0) = false := by rw [beq_eq_false_iff_ne]; exact c0
    refine goA ?_
    refine clG g1 ?_
    refine clG g2 ?_
    refine evG ggA (Zaq (Zaa rfl) Zbi rfl rfl (by decide) (by decide)) ?_
    refine goA ?_
    refine clG g3 ?_
    refine evG ggA (Zaq (Zaa rfl) Zbi rfl rfl (by decide) (by decide)) ?_
    refine goA ?_
    refine clG ck ?_
    exact midE
 refine goA ?_
 refine evG ggA (Zaq (Zaa rfl) Zbi rfl rfl (by decide) (by decide)) ?_
 refine goA ?_
 refine clG f1 ?_
 refine evG ggA (Zaq (Zaa rfl) Zbi rfl rfl (by decide) (by decide)) ?_
 refine goA ?_
 refine clG f2 ?_
 refine evG ggA (Zaq (Zaa rfl) Zbi rfl rfl (by decide) (by decide)) ?_
 refine goA ?_
 refine clG f3 ?_
 refine evG ggA (Zaq (Zaa rfl) Zbi rfl rfl (by decide) (by decide)) ?_
 refine goA ?_
 refine clG f4 ?_
 refine clG f5 ?_
 refine clG f6 ?_
 refine clG s1 ?_
 refine clG s2 ?_
 refine clG s3 ?_
 refine clG aw ?_
 exact rfl
theorem Zgj (R : List RQ) (g0 : ∀ r, r ∈ R → DigR r) (n0 : R.length ≤ maxN) (a : Ser) (o1 : SerOK a) (x y : Int) (x0 : -9223372036854775808 ≤ x) (x1 : x ≤ 9223372036854775807) (y0 : -9223372036854775808 ≤ y) (y1 : y ≤ 9223372036854775807) :
  PC Tryz.prog 3 [.sl (R.map rawA), serO a, .agg [.p (.int .i64 x), .p (.int .i64 y)]] (bV true) := by
 have hr := inR_ser o1
 have hN : (R.map rawA).length ≤ 9223372036854775807 := by
  rw [List.length_map]
  exact Nat.le_trans n0 (by decide)
 have g1 := great39_p (R.map rawA) c4_rawX hN
 have g2 := great39_p (a.coef.map rawA) c4_rawX hr.len
 have g3 := l39long_p y 8
 unfold serO
 cases b1 : grB (R.map rawA) with
 | true => rw [b1] at g1; exact inv_1 g1
 | false =>
 rw [b1] at g1
 cases b2 : grB (a.coef.map rawA) with
 | true => rw [b2] at g2; exact inv_2 g1 g2
 | false =>
 rw [b2] at g2
 cases b3 : l39L y 8 with
 | true => rw [b3] at g3; exact inv_3 g1 g2 g3
 | false =>
 rw [b3] at g3
 by_cases hx : x > 8 ∧ x ≤ 20
 ·exact inv_4 g1 g2 g3 hx
 obtain ⟨hF, hFl⟩ := isL_gr g0 b1
 obtain ⟨hA, hAl⟩ := isL_gr o1.dig b2
 have hchk := Zfu (es := a.coef.map rawA) hr.lo hr.hi hr.len
 have hAe : (a.coef.map rawA).length = (a.coef.map ratO).length := by simp
 have hy : y ≤ 8 ∨ 1000 < y := by
  unfold l39L at b3
  by_cases h : y ≤ 8
  ·exact .inl h
  ·refine .inr ?_
   rw [decide_eq_true (show y > 8 by omega), Bool.true_and] at b3
   have := of_decide_eq_false b3
   omega
 by_cases h5 : Zai a.from' (a.coef.map rawA).length = true ∧ (a.from' + (a.coef.map rawA).length > 12 ∧ a.from' + (a.coef.map rawA).length ≤ 900)
 ·obtain ⟨hv, h5⟩ := h5
  obtain ⟨v0, v1, v2⟩ := Zan.1 hv
  rw [hv] at hchk
  exact inv_5 g1 g2 g3 hx hchk (Zd5 v0 v1 v2) h5
 obtain ⟨A, e1, A1, A2, f1, f2⟩ := faberB (m := x) (by omega)
 obtain ⟨u, B, e2, B1, B2, f3, f4⟩ := ofjB (p := y) hF (by simpa using hFl) hy
 obtain ⟨C, e3, C1, C2, f5, f6⟩ := injB hr hA (fun hv => by
  by_cases h : a.from' + ((a.coef.map ratO).length : Int) ≤ 12
  ·exact .inl h
  ·refine .inr ?_
   by_cases h2 : a.from' + ((a.coef.map ratO).length : Int) ≤ 900
   ·exact absurd ⟨hv, by omega, by omega⟩ h5
   ·omega)
 have s1 := sameQsX_p A1 (by decide) (by omega)
 have s2 := sameQ_p (s := u) (t := u) (m := B) B1 (by decide) (by omega)
 rw [decide_eq_true ⟨rfl, rfl⟩] at s2
 have s3 := sameQsX_p C1 (by decide) (by omega)
 refine inv_6 g1 g2 g3 hx hchk (fun hc => ?_) f1 f2 f3 f4 f5 f6 s1 s2 s3
 have hv : Zai a.from' (a.coef.map rawA).length = true := by
  by_cases hv : Zai a.from' (a.coef.map rawA).length = true
  ·exact hv
  ·rw [if_neg hv] at hc
   exact absurd hc (by decide)
 obtain ⟨v0, v1, v2⟩ := Zan.1 hv
 exact ⟨_, Zd5 v0 v1 v2, fun h => h5 ⟨hv, h⟩⟩
end Ab
