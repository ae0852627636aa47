/- The checksum (FNV-1a, 32 bits): the program's and the document's. -/
import Derived.Test.YtbpdgaolmikjbaaGreatIcA
set_option linter.all false
namespace Ab
open Go Go.RowKit Go.Proofs Hp
set_option maxRecDepth 100000
set_option maxHeartbeats 4000000
@[irreducible] def fnvS (h c : Nat) : Nat := ((h ^^^ c) * 16777619) % 4294967296
def fnv (l : List Nat) : Nat := l.foldl fnvS 2166136261
def uV (n : Nat) : AV := .p (.int .u32 n)
theorem fnvS_lt (h c : Nat) : fnvS h c < 4294967296 := by
 unfold fnvS
 exact Nat.mod_lt _ (by omega)
theorem Zf1 (l : List Nat) : fnv l < 4294967296 := by
 rcases List.eq_nil_or_concat l with rfl | ⟨k, x, rfl⟩
 ·unfold fnv
  rw [List.foldl_nil]
  omega
 ·unfold fnv
  rw [List.concat_eq_append, List.foldl_append, List.foldl_cons, List.foldl_nil]
  exact fnvS_lt _ _
theorem fnv_snoc {l : List Nat} {i c : Nat} (hg : l[i]? = some c) : fnv (l.take (i + 1)) = fnvS (fnv (l.take i)) c := by
 unfold fnv
 rw [List.take_add_one, hg, List.foldl_append, Option.toList_some, List.foldl_cons, List.foldl_nil]
theorem xor_bit {h c : Nat} (hh : h < 4294967296) (hc : c < 256) : bits .xor .u32 (h : Int) (c : Int) = ((h ^^^ c : Nat) : Int) := xor32 (by omega) (by omega)
theorem sum_p {l : List Nat} (hl : ∀ c, c ∈ l → c < 256) (hn : l.length ≤ 1000000000) : PC Tryz.prog 39 [.sl (l.map nV)] (uV (fnv l)) := by
 have eml : (l.map nV).length = l.length := List.length_map ..
 refine Zas true Tryz.func39 rfl rfl rfl (Nat.le_of_ble_eq_true rfl) Za4.tmp ?_
 refine goI ?_
 refine T.loop (fun K s1 => ∃ i : Nat, K = l.length - i ∧ i ≤ l.length ∧ s1 = mkS [(3, .v (uV (fnv (l.take i)))), (6, .v (.sl (l.map nV))), (7, .v (iV l.length)), (8, .v (iV i))] [] 19 true) l.length
  (s' := mkS [(3, .v (uV 2166136261)), (6, .v (.sl (l.map nV))), (7, .v (iV ((l.map nV).length : Nat))), (8, .v (iV ((0 : Nat) : Int)))] [] 19 true) (by exact entA) ⟨0, rfl, Nat.zero_le _, by rw [eml]; rfl⟩ ?_
 rintro _ _ ⟨i, rfl, hi, rfl⟩
 by_cases hlt : i < l.length
 ·have d1 : decide ((i : Int) < (l.length : Int)) = true := decide_eq_true (by omega)
  have hg : l[i]? = some l[i] := List.getElem?_eq_getElem hlt
  have hxi : (l.map nV)[((i : Nat) : Int).toNat]? = some (nV l[i]) := by rw [Int.toNat_natCast, List.getElem?_map, hg]; rfl
  have hc := hl _ (List.getElem_mem hlt)
  have hs := fnv_snoc hg
  have hh := Zf1 (l.take i)
  clear hg
  generalize l[i] = c at *
  generalize fnv (l.take i) = h at *
  have e2 : IntKind.u32.wrap (((h ^^^ c : Nat) : Int) * 16777619) = ((fnvS h c : Nat) : Int) := by rw [u32m]; unfold fnvS; omega
  refine goI ?_
  refine evG ggA (Zab (Zaa rfl) (Zac rfl) rfl rfl (by omega) hxi rfl) ?_
  refine goI ?_
  refine evG ggA (Zag (Zaa rfl) Za3 Za2 rfl (u32w (by omega) (by omega))) ?_
  refine evG ggA (Zbp (Zaa rfl) rfl rfl rfl (xor_bit hh hc)) ?_
  refine evG ggA (Zbk (Zaa rfl) rfl rfl e2) ?_
  refine goI ?_
  exact Zad (k := l.length - (i + 1)) (s' := mkS [(3, .v (uV (fnvS h c))), (6, .v (.sl (l.map nV))), (7, .v (iV l.length)), (8, .v (iV ((i : Int) + 1)))] [] 19 true) (by omega) (by exact entA) ⟨i + 1, rfl, hlt, by rw [hs]; rfl⟩
 ·obtain rfl : i = l.length := by omega
  have d1 : decide ((l.length : Int) < (l.length : Int)) = false := decide_eq_false (by omega)
  rw [List.take_length]
  refine goI ?_
  exact rfl
abbrev RL1 (l : List Nat) : List (Nat × Blk) := [(101, .lst 1 5 (l.map nV))]
theorem sumO_p {l : List Nat} (hl : ∀ c, c ∈ l → c < 256) (hn : l.length ≤ 1000000000) : PCM true Tryz.prog 39 [.own 101 l.length] (RL1 l) true (.v (uV (fnv l))) (RL1 l) := by
 have eml : (l.map nV).length = l.length := List.length_map ..
 refine Zay Tryz.func39 rfl rfl rfl (Nat.le_of_ble_eq_true rfl) ?_
 refine goI ?_
 refine T.loop (fun K s1 => ∃ i : Nat, K = l.length - i ∧ i ≤ l.length ∧ s1 = mkP [(3, .v (uV (fnv (l.take i)))), (6, .own 101 l.length), (7, .v (iV l.length)), (8, .v (iV i))] (RL1 l) 19 true [101]) l.length
  (s' := mkP [(3, .v (uV 2166136261)), (6, .own 101 l.length), (7, .v (iV l.length)), (8, .v (iV ((0 : Nat) : Int)))] (RL1 l) 19 true [101]) (by exact Zak) ⟨0, rfl, Nat.zero_le _, rfl⟩ ?_
 rintro _ _ ⟨i, rfl, hi, rfl⟩
 by_cases hlt : i < l.length
 ·have d1 : decide ((i : Int) < (l.length : Int)) = true := decide_eq_true (by omega)
  have hg : l[i]? = some l[i] := List.getElem?_eq_getElem hlt
  have hxi : (l.map nV)[i]? = some (nV l[i]) := by rw [List.getElem?_map, hg]; rfl
  have hc := hl _ (List.getElem_mem hlt)
  have hs := fnv_snoc hg
  have hh := Zf1 (l.take i)
  have ei : ((i : Nat) : Int).toNat = i := by omega
  clear hg
  generalize l[i] = c at *
  generalize fnv (l.take i) = h at *
  have e2 : IntKind.u32.wrap (((h ^^^ c : Nat) : Int) * 16777619) = ((fnvS h c : Nat) : Int) := by rw [u32m]; unfold fnvS; omega
  refine goI ?_
  refine evG ggA (Zen (Zaa rfl) (Zac rfl) rfl rfl eml rfl (by omega) (by omega)) ?_
  rw [ei]
  refine evG ggA (Zgn (Zaa rfl) (Za8 rfl) rfl rfl eml hxi rfl) ?_
  refine goI ?_
  refine evG ggA (Zag (Zaa rfl) Za3 Za2 rfl (u32w (by omega) (by omega))) ?_
  refine evG ggA (Zbp (Zaa rfl) rfl rfl rfl (xor_bit hh hc)) ?_
  refine evG ggA (Zbk (Zaa rfl) rfl rfl e2) ?_
  refine goI ?_
  exact Zad (k := l.length - (i + 1)) (s' := mkP [(3, .v (uV (fnvS h c))), (6, .own 101 l.length), (7, .v (iV l.length)), (8, .v (iV ((i : Int) + 1)))] (RL1 l) 19 true [101]) (by omega) (by exact Zak) ⟨i + 1, rfl, hlt, by rw [hs]; rfl⟩
 ·obtain rfl : i = l.length := by omega
  have d1 : decide ((l.length : Int) < (l.length : Int)) = false := decide_eq_false (by omega)
  rw [List.take_length]
  refine goI ?_
  exact ⟨.inr rfl, by exact Zak⟩
end Ab
