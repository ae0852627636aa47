/- Kronecker's symbol of 1, the discriminant 1 and the factors of 1, in the program: walked; the number of trailing zeros by the library's contract. Kronecker's symbol of 1 in the document: walked. -/
import Derived.Test.YtmohfcpjgcgogaaGreatDoorFn
import Derived.Shelf.Spec.TrailingZeros
import Derived.Test.YtmohfcpjgcgogaaGreatDoorKrA
set_option linter.all false
namespace Ab
open Go Go.RowKit Go.Proofs
set_option maxRecDepth 100000
def rnT : Go.Shelf.Ren := ⟨fun _ => 176, fun k => match k with | 0 => 0 | 3 => 3 | 4 => 4 | 5 => 5 | 22 => 119 | 25 => 121 | 54 => 194 | _ => 0, fun _ => 0⟩
theorem layT : Lays7.n29 Tryz.prog rnT := by
 constructor
 all_goals first
  | kernel_rfl
  | (intro w; kernel_rfl)
def bV (b : Bool) : AV := .p (.bool b)
def Bn (N x : Int) : Prop := -N ≤ x ∧ x ≤ N
def uV (n : Nat) : AV := .p (.int .u64 (n : Int))
theorem ctz_sp {x : Nat} (h0 : x ≠ 0) (h : x < 18446744073709551616) : Lib.ctz 64 x < 64 ∧ 1 ≤ x >>> Lib.ctz 64 x ∧ x >>> Lib.ctz 64 x ≤ x := by
 obtain ⟨m, hm, hk⟩ := Lib.ctzFrom_spec 64 x (by omega) h
 have e : Lib.ctz 64 x = Lib.ctzFrom 64 x := by simp [Lib.ctz, h0]
 rw [e, Nat.shiftRight_eq_div_pow]
 refine ⟨hk, ?_, Nat.div_le_self _ _⟩
 generalize Lib.ctzFrom 64 x = c at *
 rw [hm, Nat.mul_div_cancel_left _ (Nat.pow_pos (by decide))]
 omega
theorem tz64_p {x : Nat} (h0 : x ≠ 0) (h : x < 18446744073709551616) : PC Tryz.prog 176 [uV x] (iV (Lib.ctz 64 x)) := by
  refine ⟨⟨_, Tryz.func176, rfl, rfl⟩, fun w M hM vs hvs => ?_⟩
  cases hvs with
  | cons _ v _ vs hv ht =>
    cases ht
    rw [Rep.p_inv hv]
    refine (Any7.bits_TrailingZeros64 layT x h w fun _ j hj => ?_).mono ?_
    · refine ((hM.2 0 _ rfl).2.2 j _ ?_)
      rw [List.getElem?_map]
      have : Lib.deBruijn64tab[j]? = some (Lib.deBruijn64tab.getD j 0) := by simp [hj]
      rw [this]
      rfl
    · rintro e w' ⟨rfl, rfl⟩
      refine ⟨_, rfl, Below.refl _ _, ?_⟩
      exact .p _ rfl
theorem shr_nat (a z : Nat) (hz : z < 64) : (a : Int).fdiv (2 ^ (min ((z : Int).toNat) IntKind.u64.bits)) = ((a >>> z : Nat) : Int) := by
 have e : min ((z : Int).toNat) IntKind.u64.bits = z := by simp [IntKind.bits]; omega
 rw [e, Nat.shiftRight_eq_div_pow, Int.fdiv_eq_ediv_of_nonneg _ (by exact_mod_cast Nat.zero_le _)]
 push_cast
 rfl
theorem tmod_lt {a b : Int} (h : b ≠ 0) : (a.tmod b).natAbs < b.natAbs := by
 rw [Int.natAbs_tmod]
 exact Nat.mod_lt _ (by omega)
theorem emod_t {x m : Int} (hm : 0 < m) : x % m = if x.tmod m < 0 then x.tmod m + m else x.tmod m := by
 have h1 := Int.emod_emod_of_dvd (x.tmod m) (Int.dvd_refl m)
 have h2 : x.tmod m % m = x % m := by rw [Int.tmod_def, Int.sub_mul_emod_self_left]
 have h3 := tmod_lt (a := x) (b := m) (by omega)
 rw [← h2]
 split
 ·rw [← Int.add_emod_right, Int.emod_eq_of_lt (by omega) (by omega)]
 ·rw [Int.emod_eq_of_lt (by omega) (by omega)]
theorem residue_p {x m : Int} (hm : 0 < m) (hm2 : m ≤ 1000000000000) : PC Tryz.prog 177 [iV x, iV m] (iV (x % m)) := by
 rw [emod_t hm]
 have h3 := tmod_lt (a := x) (b := m) (by omega)
 refine Zam true Tryz.func177 rfl rfl rfl (Nat.le_of_ble_eq_true rfl) Zao.tmp ?_
 refine goA ?_
 refine evG ggA (Zcc (op := .rem) (Zaa rfl) rfl rfl (by omega) rfl) ?_
 refine runA ?_
 by_cases h : x.tmod m < 0
 ·have k : decide (x.tmod m < 0) = true := by simpa using h
  rw [if_pos h]
  refine goA ?_
  exact rfl
 ·have k : decide (x.tmod m < 0) = false := by simpa using h
  rw [if_neg h]
  refine goA ?_
  exact rfl
theorem red1_p {m : Nat} (h1 : 1 ≤ m) (hm : m ≤ 1000000) : PC Tryz.prog 179 [iV 1, uV m] (uV (1 % m)) := by
 have k : decide ((1 : Int) ≥ 0) = true := rfl
 have e : (1 : Int).tmod (m : Int) = ((1 % m : Nat) : Int) := rfl
 refine Zam true Tryz.func179 rfl rfl rfl (Nat.le_of_ble_eq_true rfl) Zao.tmp ?_
 refine goA ?_
 refine evG ggA (Zb7 (Zaa rfl) Zb0 und_u64 rfl (u64w (by omega) (by omega))) ?_
 refine goA ?_
 refine evG ggA (Zcc (op := .rem) (Zaa rfl) rfl rfl (by omega) rfl) ?_
 refine goA ?_
 exact rfl
theorem jac1_p {m : Nat} (h1 : 1 ≤ m) (hm : m ≤ 1000000) : PC Tryz.prog 178 [uV (1 % m), uV m] (iV 1) := by
 have hb0 : (((0 : Nat) : Int) != 0) = false := rfl
 have hb1 : (((1 : Nat) : Int) != 1) = false := rfl
 by_cases c : m = 1
 ·subst c
  show PC _ _ [uV 0, uV 1] _
  refine Zam true Tryz.func178 rfl rfl rfl (Nat.le_of_ble_eq_true rfl) Zao.tmp ?_
  refine goA ?_
  refine T.loop (fun N s1 => s1 = mkS [(0, .v (uV 0)), (1, .v (uV 1)), (4, .v (iV 0)), (5, .v (iV 1))] [] 46 true) 1 (s' := mkS [(0, .v (uV 0)), (1, .v (uV 1)), (4, .v (iV 0)), (5, .v (iV 1))] [] 46 true) (by exact entA) rfl ?_
  rintro _ _ rfl
  refine goA ?_
  exact rfl
 ·rw [Nat.mod_eq_of_lt (show 1 < m by omega)]
  have hb2 : (((1 : Nat) : Int) != 0) = true := rfl
  have hcall := tz64_p (x := 1) (by decide) (by decide)
  have ez : Lib.ctz 64 1 = 0 := by decide
  rw [ez] at hcall
  have hshr := shr_nat 1 0 (by decide)
  have k1 : (((0 : Nat) : Int).tmod 2 == 1) = false := rfl
  have k2 : (((1 >>> 0 : Nat) : Int).tmod 4 == 3) = false := rfl
  have e0 : (m : Int).tmod ((1 >>> 0 : Nat) : Int) = ((0 : Nat) : Int) := Int.tmod_one _
  refine Zam true Tryz.func178 rfl rfl rfl (Nat.le_of_ble_eq_true rfl) Zao.tmp ?_
  refine goA ?_
  refine T.loop (fun N s1 => (N = 1 ∧ s1 = mkS [(0, .v (uV 1)), (1, .v (uV m)), (4, .v (iV 0)), (5, .v (iV 1))] [] 46 true) ∨ (N = 0 ∧ s1 = mkS [(0, .v (uV 0)), (1, .v (uV 1)), (4, .v (iV 0)), (5, .v (iV 1))] [] 46 true)) 1
   (s' := mkS [(0, .v (uV 1)), (1, .v (uV m)), (4, .v (iV 0)), (5, .v (iV 1))] [] 46 true) (by exact entA) (.inl ⟨rfl, rfl⟩) ?_
  rintro _ _ (⟨rfl, rfl⟩ | ⟨rfl, rfl⟩)
  ·refine goA ?_
   refine evG ggA (Zab (Zaa rfl) rfl rfl hcall) ?_
   refine goA ?_
   refine evG ggA (Zeb (Zaa rfl) rfl rfl (by decide) hshr) ?_
   refine goA ?_
   refine evG ggA (Zcc (op := .rem) (Zaa rfl) rfl rfl (by omega) rfl) ?_
   refine goA ?_
   refine evG ggA (Zcc (op := .rem) (Zaa rfl) rfl rfl (by omega) rfl) ?_
   refine goA ?_
   refine evG ggA (Zcc (op := .rem) (Zaa rfl) rfl rfl (by decide) rfl) ?_
   rw [e0]
   refine goA ?_
   exact Zae (k := 0) (s' := mkS [(0, .v (uV 0)), (1, .v (uV 1)), (4, .v (iV 0)), (5, .v (iV 1))] [] 46 true) (by omega) (by exact entA) (.inr ⟨rfl, rfl⟩)
  ·refine goA ?_
   exact rfl
theorem kr1_p {n : Nat} (hn : n ≤ 1000) (h1 : 1 ≤ n) : PC Tryz.prog 162 [iV 1, iV n] (iV 1) := by
 have k0 : ((n : Int) == 0) = false := by simp; omega
 have kn : decide ((n : Int) < 0) = false := decide_eq_false (by omega)
 have hcall := tz64_p (x := n) (by omega) (by omega)
 obtain ⟨z1, m1, m2⟩ := ctz_sp (x := n) (by omega) (by omega)
 have hshr := shr_nat n (Lib.ctz 64 n) z1
 have hz0 : Lib.ctz 64 n = 0 → n >>> Lib.ctz 64 n = n := fun e => by rw [e]; rfl
 generalize n >>> Lib.ctz 64 n = M at *
 generalize Lib.ctz 64 n = z at *
 have hred := red1_p (m := M) m1 (by omega)
 have hjac := jac1_p (m := M) m1 (by omega)
 have hres : PC Tryz.prog 177 [iV 1, iV 8] (iV 1) := residue_p (x := 1) (m := 8) (by decide) (by decide)
 have k2 : ((1 : Int).tmod 2 == 0) = false := rfl
 refine Zam true Tryz.func162 rfl rfl rfl (Nat.le_of_ble_eq_true rfl) Zao.tmp ?_
 refine goA ?_
 refine evG ggA (Zb7 (Zaa rfl) Zb0 und_u64 rfl (u64w (by omega) (by omega))) ?_
 refine goA ?_
 refine evG ggA (Zab (Zaa rfl) rfl rfl hcall) ?_
 refine runA ?_
 refine Za1 ?_
 refine osA ?_
 by_cases c0 : z = 0
 ·have := hz0 c0
  subst this c0
  have k1 : decide (((0 : Nat) : Int) > 0) = false := rfl
  refine goA ?_
  refine evG ggA (Zab (Zaa rfl) rfl rfl hred) ?_
  refine goA ?_
  refine evG ggA (Zab (Zaa rfl) rfl rfl hjac) ?_
  refine goA ?_
  exact rfl
 ·have k1 : decide ((z : Int) > 0) = true := by simp; omega
  by_cases c2 : z % 2 = 1
  ·have k3 : ((z : Int).tmod 2 == 1) = true := by show (((z % 2 : Nat) : Int) == 1) = true; rw [c2]; rfl
   refine goA ?_
   refine evG ggA (Zcc (op := .rem) (Zaa rfl) rfl rfl (by omega) rfl) ?_
   refine goA ?_
   refine evG ggA (Zeb (Zaa rfl) rfl rfl (by omega) hshr) ?_
   refine goA ?_
   refine evG ggA (Zab (Zaa rfl) rfl rfl hres) ?_
   refine goA ?_
   refine evG ggA (Zcc (op := .rem) (Zaa rfl) rfl rfl (by omega) rfl) ?_
   refine goA ?_
   refine evG ggA (Zab (Zaa rfl) rfl rfl hred) ?_
   refine goA ?_
   refine evG ggA (Zab (Zaa rfl) rfl rfl hjac) ?_
   refine goA ?_
   exact rfl
  ·have k3 : ((z : Int).tmod 2 == 1) = false := by show (((z % 2 : Nat) : Int) == 1) = false; simp; omega
   refine goA ?_
   refine evG ggA (Zcc (op := .rem) (Zaa rfl) rfl rfl (by omega) rfl) ?_
   refine goA ?_
   refine evG ggA (Zeb (Zaa rfl) rfl rfl (by omega) hshr) ?_
   refine goA ?_
   refine evG ggA (Zab (Zaa rfl) rfl rfl hres) ?_
   refine goA ?_
   refine evG ggA (Zcc (op := .rem) (Zaa rfl) rfl rfl (by omega) rfl) ?_
   refine goA ?_
   refine evG ggA (Zab (Zaa rfl) rfl rfl hred) ?_
   refine goA ?_
   refine evG ggA (Zab (Zaa rfl) rfl rfl hjac) ?_
   refine goA ?_
   exact rfl
def L2 (x y : Nat) : List (Nat × Blk) := [(0, .var [.v (iV x)]), (1, .var [.v (iV y)])]
theorem factors1_p : PCM true Tryz.prog 197 [.v (iV 1), .fn 198 [(0, 0), (1, 0)]] (L2 1 1) true (.v (.tup [])) (L2 1 1) := by
 refine Zbp Tryz.func197 rfl rfl rfl (Nat.le_of_ble_eq_true rfl) ?_
 refine goA ?_
 refine T.loop (fun k s1 => s1 = mkP [(0, .v (iV 1)), (1, .fn 198 [(0, 0), (1, 0)]), (4, .v (iV 2))] (L2 1 1) 31 true [0, 1]) 1
  (s' := mkP [(0, .v (iV 1)), (1, .fn 198 [(0, 0), (1, 0)]), (4, .v (iV 2))] (L2 1 1) 31 true [0, 1]) (by exact Za5) rfl ?_
 rintro k _ rfl
 refine goA ?_
 exact ⟨.inl rfl, by exact Za5⟩
def resC3 (t1 ad t3 : Nat) (a1 a2 a3 : AV) (s : AS) : Prop := s.t t1 = some (.v a1) ∧ (∃ id cs, s.t ad = some (.ptr id 0) ∧ s.m id = some (.var cs) ∧ cs[0]? = some (.v a2)) ∧ s.t t3 = some (.v a3)
def resCQ (t1 ad t3 : Nat) (a1 a2 a3 : AV) : Exit → AS → Prop
 | .normal, s => resC3 t1 ad t3 a1 a2 a3 s
 | .ret, s => resC3 t1 ad t3 a1 a2 a3 s
 | _, _ => False
theorem pc_bodyC3 {dm : Bool} {P : Program} {f : FuncId} {fn : Func} {c : Code} {args : List AV} {a1 a2 a3 : AV} {t1 t3 ad : Nat} {t : TypeId} (nd : Bool) (hf : P.funcs[f]? = some fn) (hname : (fn.name == "runtime.NumGoroutine") = false) (hb : fn.body = some c) (hres : fn.results = #[.tmp t1, .cell ad t, .tmp t3]) (hn : args.length ≤ fn.ntmps) (ht : OneT P t)
  (hT : T dm P c (start args fn.ntmps nd) (resCQ t1 ad t3 a1 a2 a3)) : PCD dm P f args (.tup [a1, a2, a3]) := by
 refine ⟨⟨fn, hf, hname, by rw [hb]; rfl⟩, fun w M hM vs hvs => ?_⟩
 refine calls_of_wp hf hb (Code.wp_mono (fun x a' w' hx => ?_) (hT w (.of M) (.of hM) _ w (Ze7 nd hvs hn)))
 obtain ⟨s', h1, ρ, h2⟩ := hx
 have key : resC3 t1 ad t3 a1 a2 a3 s' → a'.defers = [] ∧ ∃ v, (results fn a'.tmps).run P w' = .ok v w' ∧ ∃ v', Ending.returned v = .returned v' ∧ Below w.heap.size w w' ∧ Rep w' M (.tup [a1, a2, a3]) v' := by
  rintro ⟨g1, ⟨id, cs, g2, g3, g4⟩, g5⟩
  obtain ⟨v1, k1, k2⟩ := h2.tmps t1 _ g1
  obtain ⟨v3, k3, k4⟩ := h2.tmps t3 _ g5
  obtain ⟨u, u1, -, b, k, u2, rfl⟩ := h2.tmps ad _ g2
  obtain ⟨b', k', t', row, m1, m2, m3, m4, -⟩ := h2.slots id _ g3
  rw [u2] at m1
  injection m1 with m1
  injection m1 with e1 e2
  subst e1 e2
  obtain ⟨v2, p1, p2, p3⟩ := m4 0 _ g4
  have hcell : w'.cell? ⟨b, 0, none⟩ = some v2 := by simp [World.cell?, m2, p1]
  have r1 : (Zd9 a' (.tmp t1)).run P w' = .ok v1 w' := by simp [Zd9, k1]
  have r3 : (Zd9 a' (.tmp t3)).run P w' = .ok v3 w' := by simp [Zd9, k3]
  have r2 : (Zd9 a' (.cell ad t)).run P w' = .ok v2 w' := by
   have hag := (isAgg_one (w := w') ht).1
   simp [Zd9, u1, asAddr, loadVar, hag, hcell]
  refine ⟨h2.defers, _, results3 (P := P) (a := a') hres r1 r2 r3, _, rfl, h2.below.to, ?_⟩
  refine .tup _ _ rfl (fun i c v hi hv => ?_)
  rcases i with _ | _ | _ | i
  ·simp at hi hv; subst hi hv; exact Rep.mono (Zbn.refl _ _) (fun b _ h => .inl h) k2
  ·simp at hi hv; subst hi hv; exact Rep.mono (Zbn.refl _ _) (fun b _ h => .inl h) p3
  ·simp at hi hv; subst hi hv; exact Rep.mono (Zbn.refl _ _) (fun b _ h => .inl h) k4
  ·simp at hi
 cases x with
 | normal => exact key h1
 | ret => exact key h1
 | _ => exact h1.elim
theorem zero_i : Zep Tryz.prog 3 [.int .i64 0] := Zb2 (v := .int .i64 0) (by kernel_rfl) rfl
theorem fund1_p : PC Tryz.prog 181 [iV 1] (.tup [iV 1, iV 1, iV 0]) := by
 have cf := factors1_p
 have cr : PC Tryz.prog 177 [iV 1, iV 4] (iV 1) := residue_p (x := 1) (m := 4) (by decide) (by decide)
 have em : max (1 : Int) (0 - 1) = 1 := rfl
 refine pc_bodyC3 true Tryz.func181 rfl rfl rfl (Nat.le_of_ble_eq_true rfl) one_int ?_
 refine goA ?_
 refine evG ggA (Zcv (Zaa rfl) zero_i rfl rfl rfl) ?_
 refine goA ?_
 refine evG ggA (Zab (Zaa rfl) rfl rfl cr) ?_
 refine goA ?_
 refine evG ggA (Zcv (Zaa rfl) zero_i rfl rfl rfl) ?_
 refine goA ?_
 rw [em]
 refine evG ggA (Zgu (cs := [(6, 0), (3, 0)]) (Zaa rfl) rfl) ?_
 refine evM (Zbs [(0, 6), (1, 3)] cf rfl rfl rfl rfl rfl rfl ⟨rfl, rfl, trivial⟩ ⟨.inl rfl, .inl rfl, trivial⟩ ?_)
 refine goA ?_
 refine evG ggA (Zab (Zaa rfl) rfl rfl cr) ?_
 refine goA ?_
 exact ⟨rfl, ⟨_, _, rfl, rfl, rfl⟩, rfl⟩
def LFn (n : Nat) (es : List AV) : List (Nat × Blk) := [(0, .var [.own 1 n]), (1, .lst 2 156 es)]
theorem factors1b_p : PCM true Tryz.prog 197 [.v (iV 1), .fn 218 [(0, 0)]] (LFn 0 []) true (.v (.tup [])) (LFn 0 []) := by
 refine Zbp Tryz.func197 rfl rfl rfl (Nat.le_of_ble_eq_true rfl) ?_
 refine goA ?_
 refine T.loop (fun k s1 => s1 = mkP [(0, .v (iV 1)), (1, .fn 218 [(0, 0)]), (4, .v (iV 2))] (LFn 0 []) 31 true [0, 1]) 1
  (s' := mkP [(0, .v (iV 1)), (1, .fn 218 [(0, 0)]), (4, .v (iV 2))] (LFn 0 []) 31 true [0, 1]) (by exact Za5) rfl ?_
 rintro k _ rfl
 refine goA ?_
 exact ⟨.inl rfl, by exact Za5⟩
theorem zero_pps : Zep Tryz.prog 153 [.slice none 0 0] := Zb2 (v := .slice none 0 0) (by kernel_rfl) rfl
theorem inr1_p : PC Tryz.prog 216 [iV 1] (bV true) := by
 refine Zam true Tryz.func216 rfl rfl rfl (Nat.le_of_ble_eq_true rfl) Zao.tmp ?_
 refine goA ?_
 exact rfl
theorem factor1_p : PC Tryz.prog 214 [iV 1] (.tup [.sl [], iV 0]) := by
 have ci := inr1_p
 have cf := factors1b_p
 refine Zas true Tryz.func214 rfl rfl rfl (Nat.le_of_ble_eq_true rfl) Zao.tmp Zao.tmp ?_
 refine goA ?_
 refine evG ggA (Zab (Zaa rfl) rfl rfl ci) ?_
 refine goA ?_
 refine evG ggA (Zcv (Zaa rfl) zero_pps rfl rfl rfl) ?_
 refine runA ?_
 refine Za1 ?_
 refine osA ?_
 refine T.weak (s' := mkS [(0, .v (iV 1)), (4, .ptr 4 0)] [(4, .var [.own 100 0]), (100, .lst 2 156 [])] 12 true) (by exact entA) ?_
 refine T.seqI (fun s1 => s1 = mkS [(4, .ptr 4 0)] [(4, .var [.v (.sl [])])] 12 true) ?_ ?_
 ·refine goA ?_
  refine evG ggA (Zgu (cs := [(4, 0)]) (Zaa rfl) rfl) ?_
  refine evM (Zbs [(0, 4), (1, 100)] cf rfl rfl rfl rfl rfl rfl ⟨rfl, rfl, trivial⟩ ⟨.inl rfl, .inl rfl, trivial⟩ ?_)
  refine goA ?_
  exact Zag (s' := mkS [(4, .ptr 4 0)] [(4, .var [.v (.sl [])])] 12 true) (by exact entA) rfl
 rintro _ rfl
 refine goA ?_
 exact rfl
end Ab
namespace Ab
open Go Go.RowKit Go.Proofs Kr
set_option maxRecDepth 100000
theorem Zfy {dm : Bool} {P : Program} {ops : Array Oper} {s : AS} {dst : Option Tmp} {ty : TypeId} {pos : String} {after : Array Edge} {g : Option (Nat × Bool)} {t e : TypeId} {n bytes : Nat} {z : List Value} {y x : Operand} {id m : Nat} {es : List AV} {a : AV} (hin : InB s dst) (ht : Zdl P t e n bytes z) (hy : s.ev y = some (.own id m)) (hm : s.m id = some (.lst n e es)) (hlen : es.length = m) (hx : s.ev x = some (.v (.sl [a])))
  (hn : a.cells.length = n) (hn0 : 0 < n) (hnu : a.cells.all AV.nu = true) (h63 : m + 1 ≤ 1000000) (hby : bytes ≤ 64) (hz : z.all nuV = true) :
  Zbe dm P ops ⟨dst, .call ⟨.builtin .append, #[y, x], #[t, t]⟩, ty, pos, after, g⟩ s (.own id (m + 1)) (.set id (.lst n e (es ++ [a]))) :=
 Zce (xs := [a]) hin ht hy hm hlen hx (fun b hb => by simp at hb; subst hb; exact hn) hn0 (by simp [maxLen]; omega) (by simp; have := Nat.mul_le_mul_left (m + 1) hby; omega) (by simp [hz]) (fun _ b hb c hc => by simp at hb; subst hb; exact List.all_eq_true.1 hnu c hc)
theorem T.cutI {dm : Bool} {P : Program} {c y : Code} {s : AS} {Q : Exit → AS → Prop} (I : AS → Prop) (h : T dm P c s (midQ I Q)) (k : ∀ s, I s → T dm P y s Q) : T dm P c s (seqQ dm P y Q) :=
 T.mono h (fun e s' he => by
  cases e with
  | normal => obtain ⟨s2, h1, h2⟩ := he; exact T.weak h1 (k s2 h2)
  | _ => exact he)
end Ab
