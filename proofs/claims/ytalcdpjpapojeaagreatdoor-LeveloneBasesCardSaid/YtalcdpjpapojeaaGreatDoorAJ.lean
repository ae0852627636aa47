/- Lists of whole fractions, small series, the example of the chapter. -/
import Derived.Test.YtalcdpjpapojeaaGreatDoorIB
import Derived.KernelRfl
set_option linter.all false
namespace Ab
open Go Go.RowKit Go.Proofs Hp
set_option maxRecDepth 100000
def qsL (xs : List Int) : List Rat := xs.map fun (x : Int) => (x : Rat)
def iv (x : Int) : AV := .p (.int .i64 x)
set_option maxHeartbeats 1000000 in
theorem qs_p (xs : List Int) (hx : ∀ x, x ∈ xs → -9223372036854775808 ≤ x ∧ x ≤ 9223372036854775807) (hl : xs.length ≤ 100000) : PC Tryz.prog 29 [.sl (xs.map iv)] (.sl ((qsL xs).map encQ)) := by
 refine pb1 Tryz.func29 Zac.tmp ?_
 refine r1A ?_
 refine r1A ?_
 refine T.seqE (mkS [(3, .v (.sl ((qsL xs).map encQ)))] [] 20 true) ?_ ?_
 ·refine r1A ?_
  refine T.block ?_
  refine T.loop (fun n s1 => ∃ j : Nat, n = xs.length - j ∧ j ≤ xs.length ∧ s1 = mkS [(0, .v (.sl (xs.map iv))), (3, .own 100 j), (4, .v (.p (.int .i64 j)))] [(100, .lst 4 39 (((qsL xs).take j).map encQ))] 20 true) xs.length
   (s' := mkS [(0, .v (.sl (xs.map iv))), (3, .own 100 0), (4, .v (.p (.int .i64 (0 : Nat))))] [(100, .lst 4 39 [])] 20 true) entA ⟨0, rfl, Nat.zero_le _, rfl⟩ ?_
  rintro n _ ⟨j, rfl, hj, rfl⟩
  by_cases hlt : j < xs.length
  ·have hb : decide ((j : Int) < ((xs.map iv).length : Int)) = true := by simp; omega
   have hq : (qsL xs)[j]? = some ((xs[j] : Int) : Rat) := by unfold qsL; rw [List.getElem?_map, List.getElem?_eq_getElem hlt]; rfl
   have he : (xs.map iv)[j]? = some (.p (.int .i64 xs[j])) := by rw [List.getElem?_map, List.getElem?_eq_getElem hlt]; rfl
   have ht : ((qsL xs).take j).length = j := by unfold qsL; simp; omega
   obtain ⟨x0, x1⟩ := hx xs[j] (List.getElem_mem hlt)
   have c := q_p xs[j] x0 x1
   refine goA ?_
   refine ixG he ?_
   refine clA c ?_
   refine appA ?_
   refine goA ?_
   exact Zab (k := xs.length - (j + 1)) (s' := mkS [(0, .v (.sl (xs.map iv))), (3, .own 100 (j + 1)), (4, .v (.p (.int .i64 ((j : Int) + 1))))] [(100, .lst 4 39 (((qsL xs).take j ++ [((xs[j] : Int) : Rat)]).map encQ))] 20 true) oM entA ⟨j + 1, rfl, hlt, by rw [take_succ hq]; rfl⟩
  ·have hb : decide ((j : Int) < ((xs.map iv).length : Int)) = false := by simp; omega
   have ht : (qsL xs).take j = qsL xs := List.take_of_length_le (by unfold qsL; simp; omega)
   have hlen : ((qsL xs).map encQ).length = j := by unfold qsL; simp; omega
   rw [ht]
   refine goA ?_
   exact Zae (s' := mkS [(3, .v (.sl ((qsL xs).map encQ)))] [] 20 true) entA rfl
 refine goA ?_
 exact rfl
theorem small_enc {l : List Rat} {k : Nat} (h : ∀ q, q ∈ l → Ht q k) : Small k (l.map rq) := fun r hr => by
 obtain ⟨q, hq, rfl⟩ := List.mem_map.1 hr
 obtain ⟨h1, h2⟩ := h q hq
 exact ⟨Zfp (by simpa [rq, ri] using h1), Zfp (by simpa [rq, ri] using h2)⟩
theorem sameQ_p {s t : Int} {l m : List Rat} {k : Nat} (h : ∀ q, q ∈ l → Ht q k) (hk : k ≤ 4611686018427387904) (hl : l.length ≤ 4611686018427387904) : PC Tryz.prog 10 [serA s (l.map encQ), serA t (m.map encQ)] (.p (.bool (decide (s = t ∧ l = m)))) := by
 have c := sameSeries_p s t (l.map rq) (m.map rq) (fun r hr => ⟨Nat.le_trans (small_enc h r hr).1 hk, Nat.le_trans (small_enc h r hr).2 hk⟩) (by simpa using hl)
 have e : decide (s = t ∧ l.map rq = m.map rq) = decide (s = t ∧ l = m) := by
  rw [decide_eq_decide]
  exact ⟨fun h => ⟨h.1, rqs_inj h.2⟩, fun h => ⟨h.1, by rw [h.2]⟩⟩
 unfold serR at c
 rw [e, ← encs_raw, ← encs_raw] at c
 exact c
theorem small4 {xs : List Int} (h : ∀ x, x ∈ xs → x.natAbs < 4294967296) : ∀ q, q ∈ qsL xs → Ht q 1 := fun q hq => by
 obtain ⟨x, hx, rfl⟩ := List.mem_map.1 hq
 exact Zcq (h x hx)
theorem Zee {xs : List AV} {n : Nat} (h : (xs.all fun a => a.cells.length == n && a.cells.all AV.one) = true) : ∀ x, x ∈ xs → x.cells.length = n ∧ x.cells.all AV.one = true := fun x hx => by
 have := List.all_eq_true.1 h x hx
 simpa using this
end Ab
