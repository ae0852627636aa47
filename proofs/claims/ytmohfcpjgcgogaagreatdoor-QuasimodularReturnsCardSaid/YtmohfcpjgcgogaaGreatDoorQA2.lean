/- Expansions of polynomials in E2, E4, E6: sums of listed series; the statement QuasimodularExpansions: its walk. Polynomials in E2, E4, E6 among the arguments, opened: from data to abstract values. -/
import Derived.Test.YtmohfcpjgcgogaaGreatDoorQeC
import Derived.Test.YtmohfcpjgcgogaaGreatDoorQD
import Derived.Test.YtmohfcpjgcgogaaGreatDoorOCG
import Derived.Test.YtmohfcpjgcgogaaGreatDoorLc
import Derived.Test.YtmohfcpjgcgogaaGreatDoorLd
import Derived.Test.YtmohfcpjgcgogaaGreatDoorLe
import Derived.Test.YtmohfcpjgcgogaaGreatDoorLx
import Derived.Test.YtmohfcpjgcgogaaGreatDoorFL
set_option linter.all false
namespace Ab
open Go Go.RowKit Go.Proofs Hp
set_option maxRecDepth 100000
def xstep (P : Nat) (acc : Int × List Rat) (t : QT) : Int × List Rat := (combR acc.1 acc.2 0 (tk (qX t.q (qW t)) P) 1).getD (0, [])
def xS (P : Nat) (A : List QT) : Int × List Rat := A.foldl (xstep P) ((P : Int), [])
structure TermsOK (L : List QT) : Prop where
 ne : ∀ t, t ∈ L → t.q ≠ 0
 ht : ∀ t, t ∈ L → Ht t.q 33
 ex : ∀ t, t ∈ L → 0 ≤ t.a ∧ 0 ≤ t.b ∧ 0 ≤ t.c ∧ t.a + t.b + t.c ≤ 30
 len : L.length ≤ 8
theorem qW_len {t : QT} (h : 0 ≤ t.a ∧ 0 ≤ t.b ∧ 0 ≤ t.c ∧ t.a + t.b + t.c ≤ 30) : (qW t).length ≤ 30 := by
 unfold qW
 simp only [List.length_append, List.length_replicate]
 omega
theorem mon_tk {c : Rat} (hc : c ≠ 0) {P : Nat} (hP : P ≤ 1000) : monR c 0 P = some (0, tk (qX c []) P) := by
 unfold monR
 rw [show MV 0 P = true by unfold MV; simp; omega, if_pos rfl]
 by_cases h0 : P = 0
 ·subst h0
  rfl
 ·rw [if_neg (by omega)]
  obtain ⟨k, rfl⟩ : ∃ k, P = k + 1 := ⟨P - 1, by omega⟩
  have e : c :: List.replicate ((((k + 1 : Nat) : Int) - 0).toNat - 1) 0 = tk (qX c []) (k + 1) := by
   rw [qX_nil, tk_cons]
   congr 1
   exact (List.eq_replicate_iff.2 ⟨by rw [tk_len]; omega, fun b hb => by obtain ⟨i, -, rfl⟩ := tk_mem hb; rfl⟩).symm
  rw [e]
  exact nrm_tk (by rw [qX_nil]; exact hc) (by decide) (by omega)
theorem lead_rep : ∀ n, lead (List.replicate n (0 : Rat)) = n
 | 0 => rfl
 | n + 1 => by rw [List.replicate_succ, lead, if_pos rfl, lead_rep n]
theorem mon_zero {P : Nat} (hP : P ≤ 1000) : monR 0 0 P = some ((P : Int), []) := by
 unfold monR
 rw [show MV 0 P = true by unfold MV; simp; omega, if_pos rfl]
 by_cases h0 : P = 0
 ·subst h0
  rfl
 ·rw [if_neg (by omega)]
  have e : (0 : Rat) :: List.replicate (((P : Int) - 0).toNat - 1) 0 = List.replicate P 0 := by
   rw [← List.replicate_succ]
   congr 1
   omega
  rw [e, Zg3 (by decide) (by decide) (by rw [List.length_replicate]; omega), lead_rep, List.drop_replicate]
  simp
section
variable {L : List QT} {P : Nat}
abbrev xE (P k : Nat) : List AV := (eiL k P).map encQ
abbrev xF (P : Nat) (q : Rat) (l : List Nat) : List AV := (tk (qX q l) P).map encQ
abbrev xV (P : Nat) (A : List QT) : Int × List AV := ((xS P A).1, (xS P A).2.map encQ)
end
theorem qn_ne : ∀ {p : List QT}, QN p → ∀ t, t ∈ p → t.q ≠ 0
  | [], _, t, h => by cases h
  | u :: p, hn, t, h => by
    rcases List.mem_cons.1 h with rfl | h
    · exact hn.1
    · exact qn_ne hn.2.2 t h
abbrev RTm := Int × Int × Int × RQ
def tmQ (r : RTm) : QE := ⟨r.1, r.2.1, r.2.2.1, r.2.2.2.1.1, r.2.2.2.1.2.map u32, r.2.2.2.2.1, r.2.2.2.2.2.map u32, ratO r.2.2.2⟩
def QpOK (s : List RTm) : Prop := ∀ r, r ∈ s → DigR r.2.2.2
theorem tmQ_ok {r : RTm} (h : DigR r.2.2.2) (hb : bigQ (tmQ r) = false) : (tmQ r).ok 3 := by
 unfold bigQ tmQ at hb
 simp only [Bool.or_eq_false_iff, decide_eq_false_iff_not, List.length_map] at hb
 exact isV_raw h (by omega) (by omega)
end Ab
namespace Ab
open Go Go.RowKit Go.Proofs Hp Go.ChangeShapes Go.WideShapes
set_option maxRecDepth 100000
theorem sl_qpoly : Tryz.prog.underlying 29 = some (.slice 54) := by kernel_rfl
section
variable {H : Type} {enc : TypeId × Value → H} {w : World} {base : Nat} {spare : Nat → Bool} {held : Bool} {fuel : Nat} {cs : List Value} {x : DataW H × List MemPlace}
theorem open_term7 (h : DataW.trod enc Tryz.prog w base (fun _ => true) held fuel 54 cs = some x) : ∃ (a b c : Int) (c3 c4 c5 c6 : Value) (r : RQ), cs = [.int .i64 a, .int .i64 b, .int .i64 c, c3, c4, c5, c6] ∧ Rep w NoM (.p (.bool r.1.1)) c3 ∧ Rep w NoM (.sl (r.1.2.map u32)) c4 ∧ Rep w NoM (.p (.bool r.2.1)) c5 ∧ Rep w NoM (.sl (r.2.2.map u32)) c6 ∧ DigR r := by
  obtain ⟨y0, y1, y2, y3, n, -, hl, h0, h1, h2, h3⟩ := Go.Joins.trod_struct4 Tryz.underlying54 h
  have hl : cs.length = 7 := hl.trans (by kernel_rfl)
  match cs, hl with
  | [c0, c1, c2, c3, c4, c5, c6], _ =>
    have h0 : DataW.trod enc Tryz.prog w base (fun _ => true) held n 3 [c0] = some y0 := h0
    have h1 : DataW.trod enc Tryz.prog w base (fun _ => true) held n 3 [c1] = some y1 := h1
    have h2 : DataW.trod enc Tryz.prog w base (fun _ => true) held n 3 [c2] = some y2 := h2
    have h3 : DataW.trod enc Tryz.prog w base (fun _ => true) held n 49 [c3, c4, c5, c6] = some y3 := h3
    obtain ⟨a, e0, -, -⟩ := DataW.trod_int Zb0 h0
    obtain ⟨b, e1, -, -⟩ := DataW.trod_int Zb0 h1
    obtain ⟨c, e2, -, -⟩ := DataW.trod_int Zb0 h2
    obtain ⟨d0, d1, d2, d3, r, e, g0, g1, g2, g3, hr⟩ := open_rat4 h3
    injection e0 with e0
    injection e1 with e1
    injection e2 with e2
    simp only [List.cons.injEq, and_true] at e
    obtain ⟨rfl, rfl, rfl, rfl⟩ := e
    subst e0 e1 e2
    exact ⟨a, b, c, _, _, _, _, r, rfl, g0, g1, g2, g3, hr⟩
def tmA (r : RTm) : AV := (tmQ r).av
theorem open_terms (h : DataW.trod enc Tryz.prog w base (fun _ => true) held fuel 29 cs = some x) : ∃ (c : Value) (R : List RTm), cs = [c] ∧ Rep w NoM (.sl (R.map tmA)) c ∧ QpOK R := by
 rcases Go.Deep.open_slice sl_qpoly h with ⟨h1, -⟩ | ⟨a, len, cap, m, n, D, Pl, rfl, -, hl, hm, hmm, -, hx⟩
 ·exact ⟨_, [], h1, .emp _ _, fun d hd => by simp at hd⟩
 ·have hmm : m = cap := hmm
  have h7 : Tryz.prog.cellsOf 54 = 7 := by kernel_rfl
  rw [h7] at hx
  by_cases h0 : len = 0
  ·subst h0
   exact ⟨_, [], rfl, .emp _ _, fun d hd => by simp at hd⟩
  obtain ⟨cs0, hc0, -⟩ := hx 0 (by omega)
  obtain ⟨c, hc⟩ := plain_cells hc0 (by decide)
  rw [Nat.zero_mul] at hc
  obtain ⟨b, off, rfl⟩ := plain_at hc
  obtain ⟨G, hG⟩ := Go.Deep.choose_lt (α := RTm × (Nat → Value)) (n := m) (p := fun i g => DigR g.1.2.2.2 ∧ (∀ j, j < 7 → w.cell? ⟨b, off + i * 7 + j, none⟩ = some (g.2 j)) ∧ ∀ (j : Nat) c, (tmA g.1).cells[j]? = some c → Rep w NoM c (g.2 j)) (fun i hi => by
   obtain ⟨cs', hc', ht⟩ := hx i hi
   obtain ⟨ta, tb, tc, c3, c4, c5, c6, r, rfl, g0, g1, g2, g3, hr⟩ := open_term7 ht
   obtain ⟨_, -, hcell⟩ := World.cells?_some hc'
   refine ⟨((ta, tb, tc, r), fun j => [.int .i64 ta, .int .i64 tb, .int .i64 tc, c3, c4, c5, c6].getD j (.bool false)), hr, fun j hj => ?_, fun j c hjc => ?_⟩
   ·have := hcell j hj
    rw [Go.WideShapes.add_plain, Go.WideShapes.add_plain] at this
    rw [this]
    rcases j with _ | _ | _ | _ | _ | _ | _ | j
    ·rfl
    ·rfl
    ·rfl
    ·rfl
    ·rfl
    ·rfl
    ·rfl
    ·omega
   ·rcases j with _ | _ | _ | _ | _ | _ | _ | j
    ·simp [tmA, tmQ, QE.av, AV.cells] at hjc; subst hjc; exact .p _ rfl
    ·simp [tmA, tmQ, QE.av, AV.cells] at hjc; subst hjc; exact .p _ rfl
    ·simp [tmA, tmQ, QE.av, AV.cells] at hjc; subst hjc; exact .p _ rfl
    ·simp [tmA, tmQ, QE.av, AV.cells] at hjc; subst hjc; exact g0
    ·simp [tmA, tmQ, QE.av, AV.cells] at hjc; subst hjc; exact g1
    ·simp [tmA, tmQ, QE.av, AV.cells] at hjc; subst hjc; exact g2
    ·simp [tmA, tmQ, QE.av, AV.cells] at hjc; subst hjc; exact g3
    ·simp [tmA, tmQ, QE.av, AV.cells] at hjc)
  have hlen : (((List.range len).map fun i => (G i).1).map tmA).length = len := by simp
  have hget : ∀ (i : Nat) e, (((List.range len).map fun i => (G i).1).map tmA)[i]? = some e → i < len ∧ e = tmA (G i).1 := fun i e he => by
   have hi : i < len := by rw [← hlen]; exact (List.getElem?_eq_some_iff.1 he).1
   refine ⟨hi, ?_⟩
   simp [hi] at he
   exact he.symm
  refine ⟨_, (List.range len).map fun i => (G i).1, rfl, ?_, fun r hr => ?_⟩
  ·have := Rep.sl (w := w) (M := NoM) (((List.range len).map fun i => (G i).1).map tmA) b off cap 7 (fun i j => (G i).2 j) (by rw [hlen]; exact hl) (fun i j hi hj hm => hm) (fun e he => ?_) (fun e he c hc' => ?_) (fun i j hi hj => ?_) (fun i e j c he hj => ?_)
   ·rw [hlen] at this; exact this
   ·obtain ⟨i, hi⟩ := List.getElem?_of_mem he
    rw [(hget i e hi).2]; rfl
   ·obtain ⟨i, hi⟩ := List.getElem?_of_mem he
    rw [(hget i e hi).2] at hc'
    simp [tmA, tmQ, QE.av, AV.cells] at hc'
    rcases hc' with rfl | rfl | rfl | rfl | rfl | rfl | rfl <;> rfl
   ·rw [hlen] at hi
    exact (hG i (by omega)).2.1 j hj
   ·obtain ⟨hi, rfl⟩ := hget i e he
    exact (hG i (by omega)).2.2 j c hj
  ·obtain ⟨i, hi, rfl⟩ := List.mem_map.1 hr
   exact (hG i (by simp at hi; omega)).1
end
end Ab
namespace Go.Proofs.YtmohfcpjgcgogaaGreatDoor
open Go.ChangeShapes Go.WideShapes Go.ChangeAt Go.RowKit Ab
set_option maxRecDepth 100000
theorem open_qp {H : Type} {enc : TypeId × Value → H} {w : World} {base b0 : Nat} {held : Bool} {r : Reach} {v : Value} {d : DataW H} {p : List MemPlace} (hv : Value.okWide Tryz.prog w r b0 29 v) (h : DataW.Trod enc Tryz.prog w base (fun _ => true) held 29 v d p) : ∃ R : List RTm, Rep w NoM (.sl ((R.map tmQ).map QE.av)) v ∧ QpOK R := by
 obtain ⟨a, len, cap, rfl⟩ := okWide_slice sl_qpoly hv
 obtain ⟨fuel, hf⟩ := h
 obtain ⟨c, R, hc, hR, hd⟩ := open_terms hf
 simp [Value.cells] at hc
 subst hc
 refine ⟨R, ?_, hd⟩
 rw [List.map_map]
 exact hR
theorem qpAgain {H : Type} {enc : TypeId × Value → H} {W W' : World} {v : Value} {d : DataW H} {ps : List MemPlace} (h : DataW.Trod enc Tryz.prog W 0 (fun _ => true) true 29 v d ps) (hb : Below W.heap.size W W') (hlt : ∀ x ∈ ps, x.block < W.heap.size) :
  DataW.Trod enc Tryz.prog W' 0 (fun b => decide (b < W.heap.size)) true 29 v d ps := Below.trod laidOut (by kernel_rfl) (of_decide_eq_true (by kernel_rfl)) h hb hlt
end Go.Proofs.YtmohfcpjgcgogaaGreatDoor
