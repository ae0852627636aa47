/- Polynomials, numbers and integers among the arguments, opened: from data to abstract values. -/
import Derived.Test.YtkbccidalhefaaaGreatQrE
import Derived.Test.YtkbccidalhefaaaGreatRows
set_option linter.all false
namespace Ab
open Go Go.RowKit Go.Proofs Hp Go.ChangeShapes Go.WideShapes
set_option maxRecDepth 100000

theorem sl_qpoly : Tryz.prog.underlying 23 = some (.slice 50) := by kernel_rfl
section
variable {H : Type} {enc : TypeId × Value → H} {w : World} {base : Nat} {spare : Nat → Bool} {held : Bool} {fuel : Nat} {cs : List Value} {x : DataW H × List MemPlace}
theorem open_term7 (h : DataW.trod enc Tryz.prog w base (fun _ => true) held fuel 50 cs = some x) : ∃ (a b c : Int) (c3 c4 c5 c6 : Value) (r : RQ), cs = [.int .i64 a, .int .i64 b, .int .i64 c, c3, c4, c5, c6] ∧ Rep w NoM (.p (.bool r.1.1)) c3 ∧ Rep w NoM (.sl (r.1.2.map u32)) c4 ∧ Rep w NoM (.p (.bool r.2.1)) c5 ∧ Rep w NoM (.sl (r.2.2.map u32)) c6 ∧ DigR r := by
  obtain ⟨y0, y1, y2, y3, n, -, hl, h0, h1, h2, h3⟩ := Go.Joins.trod_struct4 Tryz.underlying50 h
  have hl : cs.length = 7 := hl.trans (by kernel_rfl)
  match cs, hl with
  | [c0, c1, c2, c3, c4, c5, c6], _ =>
    have h0 : DataW.trod enc Tryz.prog w base (fun _ => true) held n 3 [c0] = some y0 := h0
    have h1 : DataW.trod enc Tryz.prog w base (fun _ => true) held n 3 [c1] = some y1 := h1
    have h2 : DataW.trod enc Tryz.prog w base (fun _ => true) held n 3 [c2] = some y2 := h2
    have h3 : DataW.trod enc Tryz.prog w base (fun _ => true) held n 39 [c3, c4, c5, c6] = some y3 := h3
    obtain ⟨a, e0, -, -⟩ := DataW.trod_int und_int h0
    obtain ⟨b, e1, -, -⟩ := DataW.trod_int und_int h1
    obtain ⟨c, e2, -, -⟩ := DataW.trod_int und_int h2
    obtain ⟨d0, d1, d2, d3, r, e, g0, g1, g2, g3, hr⟩ := open_rat4 h3
    injection e0 with e0
    injection e1 with e1
    injection e2 with e2
    simp only [List.cons.injEq, and_true] at e
    obtain ⟨rfl, rfl, rfl, rfl⟩ := e
    subst e0 e1 e2
    exact ⟨a, b, c, _, _, _, _, r, rfl, g0, g1, g2, g3, hr⟩
def tmA (r : RTm) : AV := (tmQ r).av
theorem open_terms (h : DataW.trod enc Tryz.prog w base (fun _ => true) held fuel 23 cs = some x) : ∃ (c : Value) (R : List RTm), cs = [c] ∧ Rep w NoM (.sl (R.map tmA)) c ∧ QpOK R := by
  rcases Go.Deep.open_slice sl_qpoly h with ⟨h1, -⟩ | ⟨a, len, cap, m, n, D, Pl, rfl, -, hl, hm, hmm, -, hx⟩
  · exact ⟨_, [], h1, .emp _ _, fun d hd => by simp at hd⟩
  · have hmm : m = cap := hmm
    have h7 : Tryz.prog.cellsOf 50 = 7 := by kernel_rfl
    rw [h7] at hx
    by_cases h0 : len = 0
    · subst h0
      exact ⟨_, [], rfl, .emp _ _, fun d hd => by simp at hd⟩
    obtain ⟨cs0, hc0, -⟩ := hx 0 (by omega)
    obtain ⟨c, hc⟩ := plain_cells hc0 (by decide)
    rw [Nat.zero_mul] at hc
    obtain ⟨b, off, rfl⟩ := plain_at hc
    obtain ⟨G, hG⟩ := Go.Deep.choose_lt (α := RTm × (Nat → Value)) (n := m) (p := fun i g => DigR g.1.2.2.2 ∧ (∀ j, j < 7 → w.cell? ⟨b, off + i * 7 + j, none⟩ = some (g.2 j)) ∧ ∀ (j : Nat) c, (tmA g.1).cells[j]? = some c → Rep w NoM c (g.2 j)) (fun i hi => by
      obtain ⟨cs', hc', ht⟩ := hx i hi
      obtain ⟨ta, tb, tc, c3, c4, c5, c6, r, rfl, g0, g1, g2, g3, hr⟩ := open_term7 ht
      obtain ⟨_, -, hcell⟩ := World.cells?_some hc'
      refine ⟨((ta, tb, tc, r), fun j => [.int .i64 ta, .int .i64 tb, .int .i64 tc, c3, c4, c5, c6].getD j (.bool false)), hr, fun j hj => ?_, fun j c hjc => ?_⟩
      · have := hcell j hj
        rw [Go.WideShapes.add_plain, Go.WideShapes.add_plain] at this
        rw [this]
        rcases j with _ | _ | _ | _ | _ | _ | _ | j
        · rfl
        · rfl
        · rfl
        · rfl
        · rfl
        · rfl
        · rfl
        · omega
      · rcases j with _ | _ | _ | _ | _ | _ | _ | j
        · simp [tmA, tmQ, QE.av, AV.cells] at hjc; subst hjc; exact .p _ rfl
        · simp [tmA, tmQ, QE.av, AV.cells] at hjc; subst hjc; exact .p _ rfl
        · simp [tmA, tmQ, QE.av, AV.cells] at hjc; subst hjc; exact .p _ rfl
        · simp [tmA, tmQ, QE.av, AV.cells] at hjc; subst hjc; exact g0
        · simp [tmA, tmQ, QE.av, AV.cells] at hjc; subst hjc; exact g1
        · simp [tmA, tmQ, QE.av, AV.cells] at hjc; subst hjc; exact g2
        · simp [tmA, tmQ, QE.av, AV.cells] at hjc; subst hjc; exact g3
        · simp [tmA, tmQ, QE.av, AV.cells] at hjc)
    have hlen : (((List.range len).map fun i => (G i).1).map tmA).length = len := by simp
    have hget : ∀ (i : Nat) e, (((List.range len).map fun i => (G i).1).map tmA)[i]? = some e → i < len ∧ e = tmA (G i).1 := fun i e he => by
      have hi : i < len := by rw [← hlen]; exact (List.getElem?_eq_some_iff.1 he).1
      refine ⟨hi, ?_⟩
      simp [hi] at he
      exact he.symm
    refine ⟨_, (List.range len).map fun i => (G i).1, rfl, ?_, fun r hr => ?_⟩
    · have := Rep.sl (w := w) (M := NoM) (((List.range len).map fun i => (G i).1).map tmA) b off cap 7 (fun i j => (G i).2 j) (by rw [hlen]; exact hl) (fun i j hi hj hm => hm) (fun e he => ?_) (fun e he c hc' => ?_) (fun i j hi hj => ?_) (fun i e j c he hj => ?_)
      · rw [hlen] at this; exact this
      · obtain ⟨i, hi⟩ := List.getElem?_of_mem he
        rw [(hget i e hi).2]; rfl
      · obtain ⟨i, hi⟩ := List.getElem?_of_mem he
        rw [(hget i e hi).2] at hc'
        simp [tmA, tmQ, QE.av, AV.cells] at hc'
        rcases hc' with rfl | rfl | rfl | rfl | rfl | rfl | rfl <;> rfl
      · rw [hlen] at hi
        exact (hG i (by omega)).2.1 j hj
      · obtain ⟨hi, rfl⟩ := hget i e he
        exact (hG i (by omega)).2.2 j c hj
    · obtain ⟨i, hi, rfl⟩ := List.mem_map.1 hr
      exact (hG i (by simp at hi; omega)).1
end
end Ab
namespace Go.Proofs.YtkbccidalhefaaaGreat
open Go.ChangeShapes Go.WideShapes Go.ChangeAt Go.RowKit Ab
set_option maxRecDepth 100000

theorem own : ownKnob Tryz.prog.godebug = none := by kernel_rfl
theorem laidOut : laidOutB Tryz.prog = true := by kernel_rfl
theorem repsCons {w : World} {M : Nat → Prop} {a : AV} {v : Value} {l : List AV} {vs : List Value} (h : Rep w M a v) (t : Reps w M l vs) : Reps w M (a :: l) (v :: vs) := .cons a v l vs h t
set_option maxRecDepth 100000 in
theorem ratAgain {H : Type} {enc : TypeId × Value → H} {W W' : World} {v : Value} {d : DataW H} {ps : List MemPlace} (h : DataW.Trod enc Tryz.prog W 0 (fun _ => true) true 39 v d ps) (hb : Below W.heap.size W W') (hlt : ∀ x ∈ ps, x.block < W.heap.size) :
    DataW.Trod enc Tryz.prog W' 0 (fun b => decide (b < W.heap.size)) true 39 v d ps := Below.trod laidOut (by kernel_rfl) (of_decide_eq_true (by kernel_rfl)) h hb hlt
set_option maxRecDepth 100000 in
theorem rat_in {H : Type} {enc : TypeId × Value → H} {w : World} {base b0 : Nat} {held : Bool} {r : Reach} {v : Value} {d : DataW H} {p : List MemPlace} (hv : Value.okWide Tryz.prog w r b0 39 v) (h : DataW.Trod enc Tryz.prog w base (fun _ => true) held 39 v d p) : ∃ c : RQ, Rep w NoM (rawA c) v ∧ DigR c := by
  obtain ⟨cs, rfl, hsz⟩ := okWide_struct Tryz.underlying39 hv
  obtain ⟨fuel, hf⟩ := h
  obtain ⟨c0, c1, c2, c3, c, hc, g0, g1, g2, g3, hd⟩ := open_rat4 hf
  obtain rfl : cs = #[c0, c1, c2, c3] := Array.ext' hc
  refine ⟨c, .agg _ _ rfl (fun e he => ?_) (fun i e u hi hu => ?_), hd⟩
  · simp at he
    rcases he with rfl | rfl | rfl | rfl <;> rfl
  · rcases i with _ | _ | _ | _ | i
    · simp at hi hu; subst hi hu; exact g0
    · simp at hi hu; subst hi hu; exact g1
    · simp at hi hu; subst hi hu; exact g2
    · simp at hi hu; subst hi hu; exact g3
    · simp at hi
set_option maxRecDepth 100000 in
theorem intAgain {H : Type} {enc : TypeId × Value → H} {W W' : World} {v : Value} {d : DataW H} {ps : List MemPlace} (h : DataW.Trod enc Tryz.prog W 0 (fun _ => true) true 3 v d ps) (hb : Below W.heap.size W W') (hlt : ∀ x ∈ ps, x.block < W.heap.size) :
    DataW.Trod enc Tryz.prog W' 0 (fun b => decide (b < W.heap.size)) true 3 v d ps := Below.trod laidOut (by kernel_rfl) (of_decide_eq_true (by kernel_rfl)) h hb hlt
set_option maxRecDepth 100000 in
theorem int_in {H : Type} {enc : TypeId × Value → H} {w : World} {base b0 : Nat} {spr : Nat → Bool} {held : Bool} {r : Reach} {v : Value} {d : DataW H} {p : List MemPlace} (hv : Value.okWide Tryz.prog w r b0 3 v) (h : DataW.Trod enc Tryz.prog w base spr held 3 v d p) : ∃ x : Int, v = .int .i64 x ∧ -9223372036854775808 ≤ x ∧ x ≤ 9223372036854775807 := by
  obtain ⟨n, rfl, -, -, hw⟩ := open_int und_int hv h
  refine ⟨n, rfl, ?_⟩
  have h2 : IntKind.i64.min ≤ n ∧ n ≤ 9223372036854775807 := by simpa [Lit.wf] using hw
  have e0 : IntKind.i64.min = -9223372036854775808 := by decide
  omega
theorem open_qp {H : Type} {enc : TypeId × Value → H} {w : World} {base b0 : Nat} {held : Bool} {r : Reach} {v : Value} {d : DataW H} {p : List MemPlace} (hv : Value.okWide Tryz.prog w r b0 23 v) (h : DataW.Trod enc Tryz.prog w base (fun _ => true) held 23 v d p) : ∃ R : List RTm, Rep w NoM (.sl ((R.map tmQ).map QE.av)) v ∧ QpOK R := by
  obtain ⟨a, len, cap, rfl⟩ := okWide_slice sl_qpoly hv
  obtain ⟨fuel, hf⟩ := h
  obtain ⟨c, R, hc, hR, hd⟩ := open_terms hf
  simp [Value.cells] at hc
  subst hc
  refine ⟨R, ?_, hd⟩
  rw [List.map_map]
  exact hR
theorem qpAgain {H : Type} {enc : TypeId × Value → H} {W W' : World} {v : Value} {d : DataW H} {ps : List MemPlace} (h : DataW.Trod enc Tryz.prog W 0 (fun _ => true) true 23 v d ps) (hb : Below W.heap.size W W') (hlt : ∀ x ∈ ps, x.block < W.heap.size) :
    DataW.Trod enc Tryz.prog W' 0 (fun b => decide (b < W.heap.size)) true 23 v d ps := Below.trod laidOut (by kernel_rfl) (of_decide_eq_true (by kernel_rfl)) h hb hlt
end Go.Proofs.YtkbccidalhefaaaGreat
