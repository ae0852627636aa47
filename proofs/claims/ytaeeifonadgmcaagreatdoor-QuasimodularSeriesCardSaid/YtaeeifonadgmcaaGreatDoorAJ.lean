/- Lists of whole fractions, small series, the example of the chapter; in abstract values. The helpers of the statements on series, in abstract values. The gate of the statements on series, in abstract values. -/
import Derived.Test.YtaeeifonadgmcaaGreatDoorIB
import Derived.KernelRfl
set_option linter.all false
namespace Ab
open Go Go.RowKit Go.Proofs Hp
set_option maxRecDepth 100000
def qsL (xs : List Int) : List Rat := xs.map fun (x : Int) => (x : Rat)
theorem small_enc {l : List Rat} {k : Nat} (h : ∀ q, q ∈ l → Ht q k) : Small k (l.map rq) := fun r hr => by
 obtain ⟨q, hq, rfl⟩ := List.mem_map.1 hr
 obtain ⟨h1, h2⟩ := h q hq
 exact ⟨Zez (by simpa [rq, ri] using h1), Zez (by simpa [rq, ri] using h2)⟩
theorem sameQ_p {s t : Int} {l m : List Rat} {k : Nat} (h : ∀ q, q ∈ l → Ht q k) (hk : k ≤ 4611686018427387904) (hl : l.length ≤ 4611686018427387904) : PC Tryz.prog 9 [serA s (l.map encQ), serA t (m.map encQ)] (.p (.bool (decide (s = t ∧ l = m)))) := by
 have c := sameSeries_p s t (l.map rq) (m.map rq) (fun r hr => ⟨Nat.le_trans (small_enc h r hr).1 hk, Nat.le_trans (small_enc h r hr).2 hk⟩) (by simpa using hl)
 have e : decide (s = t ∧ l.map rq = m.map rq) = decide (s = t ∧ l = m) := by
  rw [decide_eq_decide]
  exact ⟨fun h => ⟨h.1, rqs_inj h.2⟩, fun h => ⟨h.1, by rw [h.2]⟩⟩
 unfold serR at c
 rw [e, ← encs_raw, ← encs_raw] at c
 exact c
theorem small4 {xs : List Int} (h : ∀ x, x ∈ xs → x.natAbs < 4294967296) : ∀ q, q ∈ qsL xs → Ht q 1 := fun q hq => by
 obtain ⟨x, hx, rfl⟩ := List.mem_map.1 hq
 exact Zcj (h x hx)
end Ab
namespace Ab
open Go Go.RowKit Go.Proofs Hp
set_option maxRecDepth 100000
theorem Zbu {xs : List AV} {n : Nat} (h : (xs.all fun a => a.cells.length == n && a.cells.all AV.one) = true) : ∀ x, x ∈ xs → x.cells.length = n ∧ x.cells.all AV.one = true := fun x hx => by
 have := List.all_eq_true.1 h x hx
 simpa using this
theorem int_ok {xs : List Int} (h : (xs.all fun x => decide (x.natAbs < 1000)) = true) : ∀ x, x ∈ xs → x.natAbs < 1000 := fun x hx => by
 have := List.all_eq_true.1 h x hx
 simpa using this
theorem sm {xs : List Int} (h : (xs.all fun x => decide (x.natAbs < 1000)) = true) : ∀ q, q ∈ qsL xs → Ht q 1 := small4 fun x hx => by have := int_ok h x hx; omega
def agr (s : Int) (l : List Rat) (t : Int) (m : List Rat) : Bool := !(difR s l t m).2.1 && (difR s l t m).2.2 == 0
def C4 (e : AV) : Prop := ∃ g ds g' ds', e = .agg [.p (.bool g), .sl ds, .p (.bool g'), .sl ds']
def big : AV → Bool
 | .agg [_, .sl ds, _, .sl ds'] => decide ((ds.length : Int) > 4) || decide ((ds'.length : Int) > 4)
 | _ => false
def longB (n : Nat) (es : List AV) : Bool := decide (n < es.length) || es.any big
end Ab
namespace Ab
open Go Go.RowKit Go.Proofs Hp
set_option maxRecDepth 100000
def inn (x : Int × List AV) : Bool := Zaq x.1 x.2.length && !longB 12 x.2 && decide (-8 ≤ x.1) && decide (x.1 ≤ 40)
end Ab
