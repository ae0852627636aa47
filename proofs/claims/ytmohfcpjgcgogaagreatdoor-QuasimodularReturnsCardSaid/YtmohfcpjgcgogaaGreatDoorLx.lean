/- Monomial, of the program and of the document, Zeros of the base; in abstract values (as in XMakB). What Levelone's statement on the discriminant needs: the power of E6, products, differences and cuts of listed series; the identities to q^30 by the kernel. Miller's basis of weight 12, of the program: walked. Condition: the contracts of what it calls. -/
import Derived.Test.YtmohfcpjgcgogaaGreatDoorZJ
import Derived.Test.YtmohfcpjgcgogaaGreatDoorLe
import Derived.Test.YtmohfcpjgcgogaaGreatDoorSHK
set_option linter.all false
namespace Ab
open Go Go.RowKit Go.Proofs Hp
set_option maxRecDepth 100000
def MV (n p : Int) : Bool := decide (-100 ≤ n) && decide (n ≤ 1000) && decide (-100 ≤ p) && decide (p ≤ 1000)
def monR (c : Rat) (n p : Int) : Option (Int × List Rat) := if MV n p then (if n ≥ p then some (p, []) else nrm n (c :: List.replicate ((p - n).toNat - 1) 0)) else none
theorem isL_rep {e : AV} {k : Nat} (h : IsV e k 0) : ∀ n, IsL (List.replicate n e) k (List.replicate n 0)
 | 0 => trivial
 | n + 1 => ⟨h, isL_rep h n⟩
theorem mv_cases {n p : Int} {Q : Prop} (h0 : MV n p = false → decide (n < -100) = true → Q) (h1 : MV n p = false → decide (n < -100) = false → decide (n > 1000) = true → Q)
  (h2 : MV n p = false → decide (n < -100) = false → decide (n > 1000) = false → decide (p < -100) = true → Q) (h3 : MV n p = false → decide (n < -100) = false → decide (n > 1000) = false → decide (p < -100) = false → decide (p > 1000) = true → Q)
  (h4 : MV n p = true → decide (n < -100) = false → decide (n > 1000) = false → decide (p < -100) = false → decide (p > 1000) = false → Q) : Q := by
 unfold MV at *
 by_cases a0 : n < -100
 ·exact h0 (by simp; omega) (by simp [a0])
 by_cases a1 : n > 1000
 ·exact h1 (by simp; omega) (by simp; omega) (by simp; omega)
 by_cases a2 : p < -100
 ·exact h2 (by simp; omega) (by simp; omega) (by simp; omega) (by simp; omega)
 by_cases a3 : p > 1000
 ·exact h3 (by simp; omega) (by simp; omega) (by simp; omega) (by simp; omega) (by simp; omega)
 ·exact h4 (by simp; omega) (by simp; omega) (by simp; omega) (by simp; omega) (by simp; omega)
set_option maxHeartbeats 2000000 in
theorem monomial_p {a : AV} {c : Rat} {K : Nat} {n p : Int} (ha : IsV a K c) (hK : 1 ≤ K ∧ K ≤ 100000000) : PC Tryz.prog 40 [a, .p (.int .i64 n), .p (.int .i64 p)] (serE (monR c n p)) := by
 obtain ⟨g, xs, g', xs', rfl⟩ := Zbi ha
 rw [Zdn]
 unfold monR
 refine mv_cases (n := n) (p := p) (fun e b0 => ?_) (fun e b0 b1 => ?_) (fun e b0 b1 b2 => ?_) (fun e b0 b1 b2 b3 => ?_) (fun e b0 b1 b2 b3 => ?_)
 ·rw [e]
  refine Zas true Tryz.func40 rfl rfl rfl (Nat.le_of_ble_eq_true rfl) (Zao.agg Zbq) Zao.tmp ?_
  refine goA ?_
  exact rfl
 ·rw [e]
  refine Zas true Tryz.func40 rfl rfl rfl (Nat.le_of_ble_eq_true rfl) (Zao.agg Zbq) Zao.tmp ?_
  refine goA ?_
  exact rfl
 ·rw [e]
  refine Zas true Tryz.func40 rfl rfl rfl (Nat.le_of_ble_eq_true rfl) (Zao.agg Zbq) Zao.tmp ?_
  refine goA ?_
  exact rfl
 ·rw [e]
  refine Zas true Tryz.func40 rfl rfl rfl (Nat.le_of_ble_eq_true rfl) (Zao.agg Zbq) Zao.tmp ?_
  refine goA ?_
  exact rfl
 rw [e]
 simp only [if_true]
 unfold MV at e
 simp only [Bool.and_eq_true, decide_eq_true_eq] at e
 obtain ⟨⟨⟨a0, a1⟩, a2⟩, a3⟩ := e
 by_cases h1 : n ≥ p
 ·have hb : decide (n ≥ p) = true := by simp [h1]
  rw [if_pos h1]
  refine Zas true Tryz.func40 rfl rfl rfl (Nat.le_of_ble_eq_true rfl) (Zao.agg Zbq) Zao.tmp ?_
  refine goA ?_
  exact rfl
 have hb : decide (n ≥ p) = false := by simp; omega
 rw [if_neg h1]
 obtain ⟨k, hk⟩ : ∃ k : Nat, (p - n).toNat = k + 1 := ⟨(p - n).toNat - 1, by omega⟩
 have hbuild := build_p (s := n) (es := .agg [.p (.bool g), .sl xs, .p (.bool g'), .sl xs'] :: List.replicate k rz) (l := c :: List.replicate k 0) (K := K) ⟨ha, isL_rep (isV_rz K) k⟩ (by omega) (by omega) (by omega) (by simp; omega)
 rw [Zdn] at hbuild
 rw [show (p - n).toNat - 1 = k by omega]
 refine Zas true Tryz.func40 rfl rfl rfl (Nat.le_of_ble_eq_true rfl) (Zao.agg Zbq) Zao.tmp ?_
 refine r1A ?_
 refine T.seqI (fun s1 => s1 = mkS [(1, .v (.p (.int .i64 n))), (2, .v (.p (.int .i64 p))), (3, .ptr 3 0), (6, .ptr 6 0)] [(3, .var [.v (.p (.bool g)), .v (.sl xs), .v (.p (.bool g')), .v (.sl xs')]), (6, var0)] 41 true) ?_ ?_
 ·refine goA ?_
  exact Zag (by exact entA) rfl
 rintro _ rfl
 refine T.seqI (fun s1 => s1 = mkS [(1, .v (.p (.int .i64 n))), (2, .v (.p (.int .i64 p))), (3, .ptr 3 0), (6, .ptr 6 0)] [(3, .var [.v (.p (.bool g)), .v (.sl xs), .v (.p (.bool g')), .v (.sl xs')]), (6, var0)] 41 true) ?_ ?_
 ·refine goA ?_
  exact Zag (by exact entA) rfl
 rintro _ rfl
 refine T.seqI (fun s1 => s1 = mkS [(1, .v (.p (.int .i64 n))), (3, .ptr 3 0), (6, .ptr 6 0), (8, .own 30 (k + 1))] [(3, .var [.v (.p (.bool g)), .v (.sl xs), .v (.p (.bool g')), .v (.sl xs')]), (6, var0), (30, .lst 4 49 (List.replicate (k + 1) rz))] 41 true) ?_ ?_
 ·refine goA ?_
  refine evG ggA (Zeq 30 (e0 := rz) (Zaa rfl) (Zak rfl) rfl rfl rfl (by omega) (by omega) (by omega) (by omega) rfl rfl rfl) ?_
  refine goA ?_
  exact Zag (s' := mkS [(1, .v (.p (.int .i64 n))), (3, .ptr 3 0), (6, .ptr 6 0), (8, .own 30 (p - n).toNat)] [(3, .var [.v (.p (.bool g)), .v (.sl xs), .v (.p (.bool g')), .v (.sl xs')]), (6, var0), (30, .lst 4 49 (List.replicate (p - n).toNat rz))] 41 true) (by exact entA) (by rw [hk])
 rintro _ rfl
 have hel : (List.replicate (k + 1) rz).length = k + 1 := by simp
 refine T.seqI (fun s1 => s1 = mkS [(1, .v (.p (.int .i64 n))), (6, .ptr 6 0), (8, .own 30 (k + 1))] [(6, var0), (30, .lst 4 49 (.agg [.p (.bool g), .sl xs, .p (.bool g'), .sl xs'] :: List.replicate k rz))] 41 true) ?_ ?_
 ·refine goA ?_
  refine evG ggA (Zaf (Zaa rfl) (Zac rfl) rfl rfl hel rfl (by omega) (by omega)) ?_
  refine evG ggA (Za8 rfl (Zbj rfl) rfl rfl hel (Nat.succ_pos k) rfl rfl (fun l e => by cases e) rfl) ?_
  refine goA ?_
  exact Zag (by exact entA) rfl
 rintro _ rfl
 have hx0 : (AV.agg [.p (.bool g), .sl xs, .p (.bool g'), .sl xs'] :: List.replicate k rz).length = k + 1 := by simp
 refine T.weak (s' := mkS [(1, .v (.p (.int .i64 n))), (6, .ptr 6 0), (8, .v (.sl (.agg [.p (.bool g), .sl xs, .p (.bool g'), .sl xs'] :: List.replicate k rz)))] [(6, var0)] 41 true) (by exact entA) ?_
 refine goA ?_
 refine evG ggA (Zab (Zaa rfl) rfl rfl hbuild) ?_
 refine goA ?_
 exact rfl
end Ab
namespace Ab
open Go Go.RowKit Go.Proofs Hp
set_option maxRecDepth 100000
theorem tk_cons (f : Nat → Rat) (k : Nat) : tk f (k + 1) = f 0 :: tk (fun i => f (i + 1)) k := by
 unfold tk
 rw [List.range_succ_eq_map, List.map_cons, List.map_map]
 rfl
theorem both_tk {s t : Int} {f g : Nat → Rat} {n m K : Nat} (hf : ∀ i, i < n → Ht (f i) K) (hg : ∀ i, i < m → Ht (g i) K) (s0 : -1000 ≤ s) (s1 : s ≤ 1000) (t0 : -1000 ≤ t) (t1 : t ≤ 1000) (hn : n ≤ 1000) (hm : m ≤ 1000) :
  Both s ((tk f n).map encQ) t ((tk g m).map encQ) K (tk f n) (tk g m) := ⟨fun _ _ => ⟨Zct (ht_tk hf), Zct (ht_tk hg)⟩, by simp, by simp, inR_tk s0 s1 hn, inR_tk t0 t1 hm⟩
def w6 : List Rat := powL (eiL 6 40) 2 39
theorem w6_eq : tk (pq (eiV 6) 2) 40 = w6 := (powL_tk (f := eiV 6) (n := 40) (eiV_ne rfl) (by decide) 2 (m := 39) (by decide)).symm
theorem w4_at {n : Nat} (h : n < 40) : pq (eiV 4) 3 n = w4.getD n 0 := by rw [← w4_eq, Zco h]
theorem w6_at {n : Nat} (h : n < 40) : pq (eiV 6) 2 n = w6.getD n 0 := by rw [← w6_eq, Zco h]
theorem id1_b : ((List.range 30).all fun i => decide (w4.getD (i + 1) 0 + -1 * w6.getD (i + 1) 0 = 1728 * dL.getD i 0)) = true := by decide +kernel
theorem id1 {i : Nat} (h : i < 30) : pq (eiV 4) 3 (i + 1) + -1 * pq (eiV 6) 2 (i + 1) = 1728 * dV i := by
 rw [w4_at (by omega), w6_at (by omega)]
 exact of_decide_eq_true (List.all_eq_true.1 id1_b i (List.mem_range.2 h))
theorem id2_b : ((List.range 30).all fun i => decide (conv jL dL i = w4.getD i 0)) = true := by decide +kernel
theorem id2 {i : Nat} (h : i < 30) : nc jV dV i = pq (eiV 4) 3 i := by
 have e := List.all_eq_true.1 id2_b i (List.mem_range.2 h)
 have e : conv jL dL i = w4.getD i 0 := of_decide_eq_true e
 rw [w4_at (by omega), ← e, ← jV_eq, ← List.take_of_length_le (l := dL) (i := 151) (by rw [dL_len]; decide), dV_tk (by decide), conv_tk (by omega) (by omega)]
end Ab
namespace Ab
open Go Go.RowKit Go.Proofs Hp
set_option maxRecDepth 100000
end Ab
