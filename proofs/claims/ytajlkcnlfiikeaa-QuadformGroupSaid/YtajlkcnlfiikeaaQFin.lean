/- From a contract over forms to a row; arguments opened, read again. -/
import Derived.Test.YtajlkcnlfiikeaaRows
import Derived.Test.YtajlkcnlfiikeaaQwA
import Derived.ProofKit
import Derived.Deep.Slices
import Derived.Lib.SmallJoins
set_option linter.all false
namespace Ab
open Go Go.RowKit Go.Proofs Go.ChangeShapes Go.WideShapes Qf
set_option maxRecDepth 100000

def NoM : Nat → Prop := fun _ => False
theorem okNo {dm : Bool} (w : World) : OKM dm NoM w := fun b h => h.elim
theorem int64_b {n : Int} (hw : (Lit.int .i64 n).wf = true) : -9223372036854775808 ≤ n ∧ n ≤ 9223372036854775807 := by
  have h2 : IntKind.i64.min ≤ n ∧ n ≤ 9223372036854775807 := by simpa [Lit.wf] using hw
  have e0 : IntKind.i64.min = -9223372036854775808 := by decide
  omega
theorem open_form {H : Type} {enc : TypeId × Value → H} {w : World} {base b0 : Nat} {held : Bool} {r : Reach} {v : Value} {d : DataW H} {p : List MemPlace} (hv : Value.okWide Try.prog w r b0 23 v) (h : DataW.Trod enc Try.prog w base (fun _ => true) held 23 v d p) : ∃ f : F, Rep w NoM (fA f) v := by
  obtain ⟨v0, v1, v2, y0, y1, y2, n, rfl, -, -, h0, h1, h2⟩ := Go.Joins.open_agg3 Try.underlying23 (by kernel_rfl) (by kernel_rfl) hv h
  have h0 : DataW.trod enc Try.prog w base (fun _ => true) held n 3 [v0] = some y0 := h0
  have h1 : DataW.trod enc Try.prog w base (fun _ => true) held n 3 [v1] = some y1 := h1
  have h2 : DataW.trod enc Try.prog w base (fun _ => true) held n 3 [v2] = some y2 := h2
  obtain ⟨a, e0, -, -⟩ := DataW.trod_int und_int h0
  obtain ⟨b, e1, -, -⟩ := DataW.trod_int und_int h1
  obtain ⟨c, e2, -, -⟩ := DataW.trod_int und_int h2
  injection e0 with e0
  injection e1 with e1
  injection e2 with e2
  subst e0 e1 e2
  refine ⟨⟨a, b, c⟩, .agg _ _ rfl (fun c hc => ?_) (fun i c v hi hv => ?_)⟩
  · simp at hc
    rcases hc with rfl | rfl | rfl <;> rfl
  · rcases i with _ | _ | _ | i
    · simp at hi hv; subst hi hv; exact .p _ rfl
    · simp at hi hv; subst hi hv; exact .p _ rfl
    · simp at hi hv; subst hi hv; exact .p _ rfl
    · simp at hi
end Ab
namespace Go.Proofs.Ytajlkcnlfiikeaa
open Go.ChangeShapes Go.WideShapes Go.ChangeAt Go.RowKit Ab
set_option maxRecDepth 100000

theorem own : ownKnob Try.prog.godebug = none := by kernel_rfl
theorem laidOut : laidOutB Try.prog = true := by kernel_rfl
theorem repsCons {w : World} {M : Nat → Prop} {a : AV} {v : Value} {l : List AV} {vs : List Value} (h : Rep w M a v) (t : Reps w M l vs) : Reps w M (a :: l) (v :: vs) := .cons a v l vs h t
theorem formAgain {H : Type} {enc : TypeId × Value → H} {W W' : World} {v : Value} {d : DataW H} {ps : List MemPlace} (h : DataW.Trod enc Try.prog W 0 (fun _ => true) true 23 v d ps) (hb : Below W.heap.size W W') (hlt : ∀ x ∈ ps, x.block < W.heap.size) :
    DataW.Trod enc Try.prog W' 0 (fun b => decide (b < W.heap.size)) true 23 v d ps := Below.trod laidOut (by kernel_rfl) (of_decide_eq_true (by kernel_rfl)) h hb hlt
theorem intAgain {H : Type} {enc : TypeId × Value → H} {W W' : World} {v : Value} {d : DataW H} {ps : List MemPlace} (h : DataW.Trod enc Try.prog W 0 (fun _ => true) true 3 v d ps) (hb : Below W.heap.size W W') (hlt : ∀ x ∈ ps, x.block < W.heap.size) :
    DataW.Trod enc Try.prog W' 0 (fun b => decide (b < W.heap.size)) true 3 v d ps := Below.trod laidOut (by kernel_rfl) (of_decide_eq_true (by kernel_rfl)) h hb hlt
theorem int_in {H : Type} {enc : TypeId × Value → H} {w : World} {base b0 : Nat} {sp : Nat → Bool} {held : Bool} {r : Reach} {v : Value} {d : DataW H} {p : List MemPlace} (hv : Value.okWide Try.prog w r b0 3 v) (h : DataW.Trod enc Try.prog w base sp held 3 v d p) : ∃ x : Int, v = .int .i64 x ∧ -9223372036854775808 ≤ x ∧ x ≤ 9223372036854775807 := by
  obtain ⟨n, rfl, -, -, hw⟩ := open_int und_int hv h
  exact ⟨n, rfl, int64_b hw⟩
end Go.Proofs.Ytajlkcnlfiikeaa
