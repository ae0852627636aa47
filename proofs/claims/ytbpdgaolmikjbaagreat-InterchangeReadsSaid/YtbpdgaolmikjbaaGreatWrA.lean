/- The writer's parts: bytes, numbers, integers, texts, fractions. -/
import Derived.Test.YtbpdgaolmikjbaaGreatIcA
set_option linter.all false
namespace Ab
open Go Go.RowKit Go.Proofs
set_option maxRecDepth 100000
abbrev RW (l : List Nat) : List (Nat × Blk) := [(100, .var [.own 101 l.length, .v (.p (.bool false))]), (101, .lst 1 5 (l.map nV))]
theorem nV_one (l : List Nat) : ∀ a, a ∈ l.map nV → a.cells.length = 1 := fun a h => by
 obtain ⟨n, -, rfl⟩ := List.mem_map.1 h; rfl
theorem nV_nu (l : List Nat) : ∀ a, a ∈ l.map nV → ∀ c, c ∈ a.cells → c.nu = true := fun a h c hc => by
 obtain ⟨n, -, rfl⟩ := List.mem_map.1 h
 simp [nV, bV, AV.cells] at hc
 subst hc; rfl
theorem w_put (l e : List Nat) (h : l.length + e.length ≤ 16777216) : PCM true Tryz.prog 40 [.ptr 100 0, .v (.sl (e.map nV))] (RW l) true (.v (.tup [])) (RW (l ++ e)) := by
 refine Zbl Tryz.func40 rfl rfl rfl (Nat.le_of_ble_eq_true rfl) ?_
 have d1 : decide ((l.length : Int) > 16777216) = false := decide_eq_false (by omega)
 have hl : (l.map nV).length = l.length := List.length_map ..
 have e1 : l.length + (e.map nV).length = (l ++ e).length := by simp
 have e2 : l.map nV ++ e.map nV = (l ++ e).map nV := (List.map_append ..).symm
 refine goI ?_
 refine evG ggA (Zb5 (Zaa rfl) (Zaf rfl) rfl rfl hl rfl (nV_one e) (Nat.le_of_ble_eq_true rfl) (by unfold maxLen; simp; omega) (by simp; omega) rfl (fun _ => nV_nu e)) ?_
 rw [e1, e2]
 refine goI ?_
 exact ⟨.inl rfl, by exact Zak⟩
theorem Zdt : Tryz.prog.underlying 3 = some (.int .i64) := by kernel_rfl
theorem und_str : Tryz.prog.underlying 9 = some .string := by kernel_rfl
theorem und_byt : Tryz.prog.underlying 32 = some (.slice 5) := by kernel_rfl
def qV (n : Nat) : AV := .p (.int .u64 n)
theorem Zc4 (l : List Nat) {n : Nat} (hn : n < 18446744073709551616) (h : l.length + (eN n).length ≤ 16777216) : PCM true Tryz.prog 92 [.ptr 100 0, .v (qV n)] (RW l) true (.v (.tup [])) (RW (l ++ eN n)) := by
 refine Zbl Tryz.func92 rfl rfl rfl (Nat.le_of_ble_eq_true rfl) ?_
 refine goI ?_
 refine T.loop (fun N s1 => ∃ m pre, N = m ∧ eN n = pre ++ eN m ∧ m < 18446744073709551616 ∧ s1 = mkP [(0, .ptr 100 0), (1, .v (qV m))] (RW (l ++ pre)) 20 true [100, 101]) n
  (s' := mkP [(0, .ptr 100 0), (1, .v (qV n))] (RW (l ++ [])) 20 true [100, 101]) (by rw [List.append_nil]; exact Zak) ⟨n, [], rfl, rfl, hn, rfl⟩ ?_
 rintro m _ ⟨_, pre, rfl, hp, hm, rfl⟩
 by_cases hlt : m < 128
 ·have d1 : decide ((m : Int) ≥ 128) = false := decide_eq_false (by omega)
  rw [eN_lt hlt] at hp
  have c := w_put (l ++ pre) [m] (by rw [hp] at h; simp at h ⊢; omega)
  rw [List.append_assoc, ← hp] at c
  refine goI ?_
  refine evG ggA (Zag (Zaa rfl) Za0 Za3 rfl (u8w (by omega) (by omega))) ?_
  refine goI ?_
  refine evG ggA (Zar (Zaa rfl) (Zaf rfl) rfl rfl rfl rfl (Zbo rfl rfl) (Nat.le_of_ble_eq_true rfl)) ?_
  refine mcW [(100, 100), (101, 101)] c ?_
  refine goI ?_
  exact ⟨.inl rfl, by exact Zak⟩
 ·have d1 : decide ((m : Int) ≥ 128) = true := decide_eq_true (by omega)
  rw [eN_ge hlt] at hp
  have c := w_put (l ++ pre) [m % 128 + 128] (by rw [hp] at h; simp at h ⊢; omega)
  rw [List.append_assoc] at c
  have hp' : eN n = (pre ++ [m % 128 + 128]) ++ eN (m / 128) := by rw [hp]; simp
  refine goI ?_
  refine evG ggA (Zbp (Zaa rfl) rfl rfl rfl (and127 (by omega))) ?_
  refine evG ggA (Zag (Zaa rfl) Za0 Za3 rfl (u8w (by omega) (by omega))) ?_
  refine evG ggA (Zbp (Zaa rfl) rfl rfl rfl (or8 (by omega))) ?_
  refine evG ggA (Zar (Zaa rfl) (Zaf rfl) rfl rfl rfl rfl (Zbo rfl rfl) (Nat.le_of_ble_eq_true rfl)) ?_
  refine mcW [(100, 100), (101, 101)] c ?_
  refine goI ?_
  refine evG ggA (Zbx (Zaa rfl) rfl rfl (by decide) (show (m : Int).fdiv (2 ^ (min (7 : Int).toNat 64)) = ((m / 128 : Nat) : Int) from by rw [Int.fdiv_eq_ediv_of_nonneg _ (by decide)]; rfl)) ?_
  refine goI ?_
  exact Zad (k := m / 128) (s' := mkP [(0, .ptr 100 0), (1, .v (qV (m / 128)))] (RW (l ++ (pre ++ [m % 128 + 128]))) 20 true [100, 101]) (by omega) (by exact Zak) ⟨m / 128, pre ++ [m % 128 + 128], rfl, hp', by omega, rfl⟩
theorem Zgh (l : List Nat) {n : Int} (hn : I64 n) (h : l.length + (eI n).length ≤ 16777216) : PCM true Tryz.prog 93 [.ptr 100 0, .v (iV n)] (RW l) true (.v (.tup [])) (RW (l ++ eI n)) := by
 have c := Zc4 l (zg_lt hn) h
 refine Zbl Tryz.func93 rfl rfl rfl (Nat.le_of_ble_eq_true rfl) ?_
 obtain ⟨h1, h2⟩ := hn
 have e1 : IntKind.u64.wrap n = if n < 0 then n + 18446744073709551616 else n := by rw [IntKind.wrap_u64]; split <;> omega
 have hpw : (2 : Int) ^ (min (1 : Int).toNat 64) = 2 := rfl
 by_cases hneg : n < 0
 ·have d1 : decide (n < 0) = true := decide_eq_true hneg
  have ez : zg n = 2 * (-(n + 1)).toNat + 1 := by unfold zg; rw [if_pos hneg]
  have e2 : IntKind.u64.wrap ((n + 18446744073709551616) * 2 ^ (min (1 : Int).toNat 64)) = ((18446744073709551615 - zg n : Nat) : Int) := by
   rw [IntKind.wrap_u64, hpw]; omega
  have e3 := not64 (x := 18446744073709551615 - zg n) (by omega)
  have e4 : 18446744073709551615 - (18446744073709551615 - zg n) = zg n := by omega
  rw [e4] at e3
  rw [if_pos hneg] at e1
  refine goI ?_
  refine evG ggA (Zag (Zaa rfl) Zdt Za0 rfl e1) ?_
  refine evG ggA (Zdf (Zaa rfl) rfl rfl (by decide) e2) ?_
  refine goI ?_
  refine evG ggA (ss_not64 (Zaa rfl) rfl e3) ?_
  refine goI ?_
  refine mcW [(100, 100), (101, 101)] c ?_
  refine goI ?_
  exact ⟨.inl rfl, by exact Zak⟩
 ·have d1 : decide (n < 0) = false := decide_eq_false hneg
  have ez : zg n = 2 * n.toNat := by unfold zg; rw [if_neg hneg]
  have e2 : IntKind.u64.wrap (n * 2 ^ (min (1 : Int).toNat 64)) = (zg n : Int) := by
   rw [IntKind.wrap_u64, hpw]; omega
  rw [if_neg hneg] at e1
  refine goI ?_
  refine evG ggA (Zag (Zaa rfl) Zdt Za0 rfl e1) ?_
  refine evG ggA (Zdf (Zaa rfl) rfl rfl (by decide) e2) ?_
  refine goI ?_
  refine mcW [(100, 100), (101, 101)] c ?_
  refine goI ?_
  exact ⟨.inl rfl, by exact Zak⟩
theorem bytesV_n (s : ByteArray) : Zds s = (s.data.toList.map (·.toNat)).map nV := by
 unfold Zds
 rw [List.map_map]; rfl
theorem w_text (l : List Nat) {s : ByteArray} (hs : s.size < 9223372036854775808) (h : l.length + (eT s).length ≤ 16777216) : PCM true Tryz.prog 97 [.ptr 100 0, .v (tV s)] (RW l) true (.v (.tup [])) (RW (l ++ eT s)) := by
 have hlen : (eT s).length = (eN s.size).length + (s.data.toList.map (·.toNat)).length := by unfold eT; rw [List.length_append]
 have c := Zc4 l (n := s.size) (by omega) (by omega)
 have c2 := w_put (l ++ eN s.size) (s.data.toList.map (·.toNat)) (by rw [List.length_append]; omega)
 rw [List.append_assoc, show eN s.size ++ s.data.toList.map (·.toNat) = eT s from rfl] at c2
 have eb := bytesV_n s
 refine Zbl Tryz.func97 rfl rfl rfl (Nat.le_of_ble_eq_true rfl) ?_
 refine goI ?_
 refine evG ggA (ss_len_str (Zaa rfl) rfl und_str rfl) ?_
 refine evG ggA (Zag (Zaa rfl) Zdt Za0 rfl (u64w (by omega) (by omega))) ?_
 refine mcW [(100, 100), (101, 101)] c ?_
 refine goI ?_
 refine evG ggA (ss_str_bytes (Zaa rfl) und_str und_byt Za3 rfl) ?_
 rw [eb]
 refine mcW [(100, 100), (101, 101)] c2 ?_
 refine goI ?_
 exact ⟨.inl rfl, by exact Zak⟩
theorem Zat {α : Type} {f : α → List Nat} {l : List α} {i : Nat} {x : α} (h : l[i]? = some x) : (l.take (i + 1)).flatMap f = (l.take i).flatMap f ++ f x := by
 rw [List.take_add_one, h]; simp
theorem Zcn {α : Type} (f : α → List Nat) (l : List α) (i : Nat) : ((l.take i).flatMap f).length ≤ (l.flatMap f).length := by
 conv => rhs; rw [← List.take_append_drop i l, List.flatMap_append, List.length_append]
 omega
theorem w_big (l : List Nat) {a : BI} (ha : a.ok) (h : l.length + (eB a).length ≤ 16777216) : PCM true Tryz.prog 122 [.ptr 100 0, .v (.agg a.cs)] (RW l) true (.v (.tup [])) (RW (l ++ eB a)) := by
 obtain ⟨g, ds⟩ := a
 have hl : (eB ⟨g, ds⟩).length = (eN (2 * ds.length + if g then 1 else 0)).length + (ds.flatMap e4).length := by unfold eB; rw [List.length_append]
 obtain ⟨ha, hm⟩ := ha
 have hm : ds.length ≤ 1000000000 := hm
 have ha : ∀ d, d ∈ ds → 0 ≤ d ∧ d < 4294967296 := ha
 have c := Zc4 l (n := 2 * ds.length + if g then 1 else 0) (by split <;> omega) (by omega)
 have eml : (ds.map u32).length = ds.length := List.length_map ..
 have e1 : IntKind.u64.wrap (((ds.map u32).length : Int)) = (ds.length : Int) := by rw [eml]; exact u64w (by omega) (by omega)
 have e2 : IntKind.u64.wrap ((ds.length : Int) * 2) = ((2 * ds.length : Nat) : Int) := by rw [u64w (by omega) (by omega)]; omega
 have e3 : IntKind.u64.wrap (((2 * ds.length : Nat) : Int) + 1) = ((2 * ds.length + 1 : Nat) : Int) := by rw [u64w (by omega) (by omega)]; omega
 refine Zbl Tryz.func122 rfl rfl rfl (Nat.le_of_ble_eq_true rfl) ?_
 refine goI ?_
 refine evG ggA (Zag (Zaa rfl) Zdt Za0 rfl e1) ?_
 refine evG ggA (Zbk (Zaa rfl) rfl rfl e2) ?_
 refine goI ?_
 generalize hE : (eN (2 * ds.length + if g then 1 else 0)) = E at *
 have hB : eB ⟨g, ds⟩ = E ++ ds.flatMap e4 := by unfold eB; rw [← hE]
 rw [hB]
 clear hB hE
 cases g
 case' true =>
  refine goI ?_
  refine evG ggA (Zbk (Zaa rfl) rfl rfl e3) ?_
  refine goI ?_
 case' false =>
  refine goI ?_
 all_goals
  refine mcW [(100, 100), (101, 101)] c ?_
  refine goI ?_
  refine T.loop (fun N s1 => ∃ i : Nat, N = ds.length - i ∧ i ≤ ds.length ∧ s1 = mkP [(0, .ptr 100 0), (20, .v (.sl (ds.map u32))), (21, .v (iV ds.length)), (22, .v (iV i))] (RW (l ++ E ++ (ds.take i).flatMap e4)) 41 true [100, 101]) ds.length
   (s' := mkP [(0, .ptr 100 0), (20, .v (.sl (ds.map u32))), (21, .v (iV ((ds.map u32).length : Nat))), (22, .v (iV ((0 : Nat) : Int)))] (RW (l ++ E ++ [])) 41 true [100, 101]) (by rw [List.append_nil]; exact Zak) ⟨0, rfl, Nat.zero_le _, by rw [eml]; rfl⟩ ?_
  rintro _ _ ⟨i, rfl, hi, rfl⟩
  by_cases hlt : i < ds.length
  ·have d1 : decide ((i : Int) < (ds.length : Int)) = true := decide_eq_true (by omega)
   have hg : ds[i]? = some ds[i] := List.getElem?_eq_getElem hlt
   have hx : (ds.map u32)[((i : Nat) : Int).toNat]? = some (u32 ds[i]) := by rw [Int.toNat_natCast, List.getElem?_map, hg]; rfl
   obtain ⟨h0, h1⟩ := ha ds[i] (List.getElem_mem hlt)
   have hfl := Zcn e4 ds (i + 1)
   rw [Zat hg, List.length_append] at hfl
   have c2 := w_put (l ++ E ++ (ds.take i).flatMap e4) (e4 ds[i]) (by rw [List.length_append, List.length_append]; omega)
   rw [List.append_assoc (l ++ E), ← Zat hg] at c2
   generalize ds[i] = d at *
   have s0 : IntKind.u8.wrap d = ((d.toNat % 256 : Nat) : Int) := by rw [u8m]; omega
   have t1 : d.fdiv (2 ^ (min (8 : Int).toNat 32)) = d / 256 := by rw [Int.fdiv_eq_ediv_of_nonneg _ (by decide)]; rfl
   have t2 : d.fdiv (2 ^ (min (16 : Int).toNat 32)) = d / 65536 := by rw [Int.fdiv_eq_ediv_of_nonneg _ (by decide)]; rfl
   have t3 : d.fdiv (2 ^ (min (24 : Int).toNat 32)) = d / 16777216 := by rw [Int.fdiv_eq_ediv_of_nonneg _ (by decide)]; rfl
   have s1 : IntKind.u8.wrap (d / 256) = ((d.toNat / 256 % 256 : Nat) : Int) := by rw [u8m]; omega
   have s2 : IntKind.u8.wrap (d / 65536) = ((d.toNat / 65536 % 256 : Nat) : Int) := by rw [u8m]; omega
   have s3 : IntKind.u8.wrap (d / 16777216) = ((d.toNat / 16777216 : Nat) : Int) := by rw [u8m]; omega
   refine goI ?_
   refine evG ggA (Zab (Zaa rfl) (Zac rfl) rfl rfl (by omega) hx rfl) ?_
   refine goI ?_
   refine evG ggA (Zag (Zaa rfl) Za2 Za3 rfl s0) ?_
   refine goI ?_
   refine evG ggA (Zbx (Zaa rfl) rfl rfl (by decide) t1) ?_
   refine evG ggA (Zag (Zaa rfl) Za2 Za3 rfl s1) ?_
   refine goI ?_
   refine evG ggA (Zbx (Zaa rfl) rfl rfl (by decide) t2) ?_
   refine evG ggA (Zag (Zaa rfl) Za2 Za3 rfl s2) ?_
   refine goI ?_
   refine evG ggA (Zbx (Zaa rfl) rfl rfl (by decide) t3) ?_
   refine evG ggA (Zag (Zaa rfl) Za2 Za3 rfl s3) ?_
   refine evG ggA (Zar (Zaa rfl) (Zaf rfl) rfl rfl rfl rfl (fun x hx => ⟨nV_one (e4 d) x hx, by simp [e4] at hx; rcases hx with rfl | rfl | rfl | rfl <;> rfl⟩) (Nat.le_of_ble_eq_true rfl)) ?_
   refine mcW [(100, 100), (101, 101)] c2 ?_
   refine goI ?_
   exact Zad (k := ds.length - (i + 1)) (s' := mkP [(0, .ptr 100 0), (20, .v (.sl (ds.map u32))), (21, .v (iV ds.length)), (22, .v (iV ((i : Int) + 1)))] (RW (l ++ E ++ (ds.take (i + 1)).flatMap e4)) 41 true [100, 101]) (by omega) (by exact Zak) ⟨i + 1, rfl, hlt, rfl⟩
  ·obtain rfl : i = ds.length := by omega
   have d1 : decide ((ds.length : Int) < (ds.length : Int)) = false := decide_eq_false (by omega)
   rw [List.take_length, List.append_assoc]
   refine goI ?_
   exact ⟨.inl rfl, by exact Zak⟩
theorem w_rat (l : List Nat) {a : BR} (ha : a.ok) (h : l.length + (eR a).length ≤ 16777216) : PCM true Tryz.prog 95 [.ptr 100 0, .v a.av] (RW l) true (.v (.tup [])) (RW (l ++ eR a)) := by
 obtain ⟨n, d⟩ := a
 have hl : (eR ⟨n, d⟩).length = (eB n).length + (eB d).length := by unfold eR; rw [List.length_append]
 have c := w_big l ha.1 (by show l.length + (eB n).length ≤ _; omega)
 have c2 := w_big (l ++ eB n) ha.2 (by rw [List.length_append]; show _ + (eB d).length ≤ _; omega)
 rw [List.append_assoc, show eB n ++ eB _ = eR ⟨n, d⟩ from rfl] at c2
 obtain ⟨g, ds⟩ := n
 obtain ⟨g', ds'⟩ := d
 refine Zbl Tryz.func95 rfl rfl rfl (Nat.le_of_ble_eq_true rfl) ?_
 refine goI ?_
 refine mcW [(100, 100), (101, 101)] c ?_
 refine goI ?_
 refine mcW [(100, 100), (101, 101)] c2 ?_
 refine goI ?_
 exact ⟨.inl rfl, by exact Zak⟩
end Ab
