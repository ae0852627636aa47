/- Integers of any size read: the walk. -/
import Derived.Test.YtbpdgaolmikjbaaGreatRdF
set_option linter.all false
namespace Ab
open Go Go.RowKit Go.Proofs Hp
set_option maxRecDepth 100000
set_option maxHeartbeats 4000000
theorem qdiv {n k : Nat} (hn : n < 18446744073709551616) (hk : 0 < k) : IntKind.u64.wrap ((n : Int).tdiv (k : Int)) = ((n / k : Nat) : Int) := by
 rw [show (n : Int).tdiv (k : Int) = ((n / k : Nat) : Int) from rfl]
 have := Nat.div_le_self n k
 generalize n / k = q at *
 exact u64w (by omega) (by omega)
theorem big_no {l l' : List Nat} {b b1 : Bool} {lv : Int} {n : Nat} (c : PCM false Tryz.prog 129 [.ptr 100 0] (RR l b lv) true (.v (qV' n)) (RR l' b1 lv)) (hn : n < 18446744073709551616) (hl : l'.length ≤ 1000000000) (h : l'.length / 4 < n / 2) : PCM false Tryz.prog 130 [.ptr 100 0] (RR l b lv) true (.v (.agg (BI.cs ⟨false, []⟩))) (RR l' true lv) := by
 have eml : (l'.map nV).length = l'.length := List.length_map ..
 have e1 : IntKind.u64.wrap (((l'.map nV).length : Int)) = (l'.length : Int) := by rw [eml]; exact u64w (by omega) (by omega)
 have e2 := qdiv (k := 2) hn (by omega)
 have e3 := qdiv (n := l'.length) (k := 4) (by omega) (by omega)
 have d1 : decide (((n / 2 : Nat) : Int) > ((l'.length / 4 : Nat) : Int)) = true := decide_eq_true (by omega)
 refine Zbz Tryz.func130 rfl rfl rfl (Nat.le_of_ble_eq_true rfl) (Za1 rfl) ?_
 refine goI ?_
 refine mcA c ?_
 refine goI ?_
 refine evG ggA (Zbv (Zaa rfl) rfl rfl (by omega) e2) ?_
 refine goI ?_
 refine evG ggA (Zag (Zaa rfl) Zbd Za0 rfl e1) ?_
 refine evG ggA (Zbv (Zaa rfl) rfl rfl (by omega) e3) ?_
 refine goI ?_
 exact ⟨.inr rfl, rfl, rfl, by exact Zak⟩
theorem four : ∀ q : List Nat, 4 ≤ q.length → ∃ a b c d t, q = a :: b :: c :: d :: t
 | a :: b :: c :: d :: t, _ => ⟨a, b, c, d, t, rfl⟩
 | [], h => by simp at h
 | [_], h => by simp at h
 | [_, _], h => by simp at h
 | [_, _, _], h => by simp at h
theorem big_ok {l l' : List Nat} {b : Bool} {lv : Int} {n : Nat} (c : PCM false Tryz.prog 129 [.ptr 100 0] (RR l b lv) true (.v (qV' n)) (RR l' false lv)) (hby : By l') (hn : n < 18446744073709551616) (hl : l'.length ≤ 1000000000) (h : n / 2 ≤ l'.length / 4) : PCM false Tryz.prog 130 [.ptr 100 0] (RR l b lv) true (.v (.agg (BI.cs ⟨n % 2 != 0, digs (n / 2) l'⟩))) (RR (l'.drop (4 * (n / 2))) false lv) := by
 have eml : (l'.map nV).length = l'.length := List.length_map ..
 have e1 : IntKind.u64.wrap (((l'.map nV).length : Int)) = (l'.length : Int) := by rw [eml]; exact u64w (by omega) (by omega)
 have e2 := qdiv (k := 2) hn (by omega)
 have e3 := qdiv (n := l'.length) (k := 4) (by omega) (by omega)
 have e4' : ((n : Int).tmod 2) = ((n % 2 : Nat) : Int) := rfl
 have d1 : decide (((n / 2 : Nat) : Int) > ((l'.length / 4 : Nat) : Int)) = false := decide_eq_false (by omega)
 have eg : (((n % 2 : Nat) : Int) != 0) = (n % 2 != 0) := by
  have : n % 2 = 0 ∨ n % 2 = 1 := by omega
  rcases this with h | h <;> rw [h] <;> rfl
 generalize hm : n / 2 = m at *
 generalize hgg : (n % 2 != 0) = g at *
 refine Zbz Tryz.func130 rfl rfl rfl (Nat.le_of_ble_eq_true rfl) (Za1 rfl) ?_
 refine goI ?_
 refine mcA c ?_
 refine goI ?_
 refine evG ggA (Zbv (Zaa rfl) rfl rfl (by omega) e2) ?_
 refine goI ?_
 refine evG ggA (Zag (Zaa rfl) Zbd Za0 rfl e1) ?_
 refine evG ggA (Zbv (Zaa rfl) rfl rfl (by omega) e3) ?_
 refine goI ?_
 refine evG ggA (Zbv (op := .rem) (Zaa rfl) rfl rfl (by omega) e4') ?_
 refine evG ggA (Zfu (Zaa rfl) rfl rfl (congrArg some eg)) ?_
 refine evG ggA (Zc1 (Zaa rfl) (Zb0 rfl) rfl rfl rfl) ?_
 refine goI ?_
 refine evG ggA (Zbv (Zaa rfl) rfl rfl (by omega) e2) ?_
 refine goI ?_
 refine T.loop (fun N s1 => ∃ i : Nat, N = m - i ∧ i ≤ m ∧ s1 = mkP [(0, .ptr 100 0), (2, .ptr 2 0), (4, .ptr 4 0), (27, .v (qV' m)), (28, .v (qV' i))] (RR (l'.drop (4 * i)) false lv ++ [(2, .var [.v (boV false), .v (.p nilV)]), (4, .var [.v (boV g), .own 102 i]), (102, .lst 1 95 ((digs i l').map u32))]) 59 false [100]) m
  (s' := mkP [(0, .ptr 100 0), (2, .ptr 2 0), (4, .ptr 4 0), (27, .v (qV' m)), (28, .v (qV' 0))] (RR l' false lv ++ [(2, .var [.v (boV false), .v (.p nilV)]), (4, .var [.v (boV g), .own 102 0]), (102, .lst 1 95 [])]) 59 false [100]) (by exact Zak) ⟨0, rfl, Nat.zero_le _, rfl⟩ ?_
 rintro _ _ ⟨i, rfl, hi, rfl⟩
 by_cases hlt : i < m
 ·have d2 : decide ((i : Int) < (m : Int)) = true := decide_eq_true (by omega)
  obtain ⟨a, b', c', d, t, hq⟩ := four (l'.drop (4 * i)) (by rw [List.length_drop]; omega)
  have hbq := By.drop hby (4 * i)
  have ht : l'.drop (4 * (i + 1)) = t := by
   have := congrArg (List.drop 4) hq
   rw [List.drop_drop] at this
   exact this
  have hs := digs_snoc i l' hq
  have hli : ((digs i l').map u32).length = i := by rw [List.length_map]; exact Zfh i l' (by omega)
  rw [hq] at hbq ⊢
  have h1 := hbq a (by simp)
  have h2 := hbq b' (by simp)
  have h3 := hbq c' (by simp)
  have h4 := hbq d (by simp)
  have k1 := r_byte a (b' :: c' :: d :: t) lv false
  have k2 := r_byte b' (c' :: d :: t) lv false
  have k3 := r_byte c' (d :: t) lv false
  have k4 := r_byte d t lv false
  have s1 : IntKind.u32.wrap ((b' : Int) * 2 ^ (min (8 : Int).toNat 32)) = ((b' * 2 ^ 8 : Nat) : Int) := by rw [show (2 : Int) ^ (min (8 : Int).toNat 32) = 256 from rfl, u32m]; omega
  have s2 : IntKind.u32.wrap ((c' : Int) * 2 ^ (min (16 : Int).toNat 32)) = ((c' * 2 ^ 16 : Nat) : Int) := by rw [show (2 : Int) ^ (min (16 : Int).toNat 32) = 65536 from rfl, u32m]; omega
  have s3 : IntKind.u32.wrap ((d : Int) * 2 ^ (min (24 : Int).toNat 32)) = ((d * 2 ^ 24 : Nat) : Int) := by rw [show (2 : Int) ^ (min (24 : Int).toNat 32) = 16777216 from rfl, u32m]; omega
  have o1 := or32 (a := a) (b := b') (i := 8) (by omega) (by omega)
  have o2 := or32 (a := a + b' * 2 ^ 8) (b := c') (i := 16) (by omega) (by omega)
  have o3 := or32 (a := a + b' * 2 ^ 8 + c' * 2 ^ 16) (b := d) (i := 24) (by omega) (by omega)
  have hD : (digs (i + 1) l').map u32 = (digs i l').map u32 ++ [u32 ((d4 a b' c' d : Nat) : Int)] := by rw [hs]; simp
  have hinc : IntKind.u64.wrap ((i : Int) + 1) = ((i + 1 : Nat) : Int) := by rw [u64w (by omega) (by omega)]; omega
  generalize (digs i l').map u32 = D at *
  refine goI ?_
  refine mcA k1 ?_
  refine evG ggA (Zag (Zaa rfl) Za3 Za2 rfl (u32w (by omega) (by omega))) ?_
  refine goI ?_
  refine mcA k2 ?_
  refine evG ggA (Zag (Zaa rfl) Za3 Za2 rfl (u32w (by omega) (by omega))) ?_
  refine evG ggA (Zdf (Zaa rfl) rfl rfl (by decide) s1) ?_
  refine evG ggA (Zbp (Zaa rfl) rfl rfl rfl o1) ?_
  refine goI ?_
  refine mcA k3 ?_
  refine evG ggA (Zag (Zaa rfl) Za3 Za2 rfl (u32w (by omega) (by omega))) ?_
  refine evG ggA (Zdf (Zaa rfl) rfl rfl (by decide) s2) ?_
  refine evG ggA (Zbp (Zaa rfl) rfl rfl rfl o2) ?_
  refine goI ?_
  refine mcA k4 ?_
  refine evG ggA (Zag (Zaa rfl) Za3 Za2 rfl (u32w (by omega) (by omega))) ?_
  refine evG ggA (Zdf (Zaa rfl) rfl rfl (by decide) s3) ?_
  refine evG ggA (Zbp (Zaa rfl) rfl rfl rfl o3) ?_
  refine goI ?_
  refine evG ggA (Zar (Zaa rfl) (Zaf rfl) rfl rfl rfl rfl (Zbo rfl rfl) (Nat.le_of_ble_eq_true rfl)) ?_
  refine evG ggA (Zb5 (xs := [u32 ((d4 a b' c' d : Nat) : Int)]) (Zaa rfl) (Zaf rfl) rfl rfl hli rfl (fun b hb => by simp at hb; subst hb; rfl) (by decide) (by unfold maxLen; simp; omega) (by simp; omega) rfl (fun e => by cases e)) ?_
  rw [← hD]
  refine goI ?_
  refine evG ggA (Zbk (Zaa rfl) rfl rfl hinc) ?_
  refine goI ?_
  exact Zad (k := m - (i + 1)) (s' := mkP [(0, .ptr 100 0), (2, .ptr 2 0), (4, .ptr 4 0), (27, .v (qV' m)), (28, .v (qV' (i + 1)))] (RR t false lv ++ [(2, .var [.v (boV false), .v (.p nilV)]), (4, .var [.v (boV g), .own 102 (i + 1)]), (102, .lst 1 95 ((digs (i + 1) l').map u32))]) 59 false [100]) (by omega) (by exact Zak) ⟨i + 1, rfl, hlt, by rw [ht]⟩
 ·obtain rfl : i = m := by omega
  have d2 : decide ((i : Int) < (i : Int)) = false := decide_eq_false (by omega)
  have hli : ((digs i l').map u32).length = i := by rw [List.length_map]; exact Zfh i l' (by omega)
  refine r1A ?_
  first
   | refine T.condF rfl (by assumption) ?_
   | (refine T.seq ?_; refine T.condF rfl (by assumption) ?_)
  refine T.exit ?_
  refine osA ?_
  refine T.weak (s' := mkP [(2, .ptr 2 0), (4, .ptr 4 0)] (RR (l'.drop (4 * i)) false lv ++ [(2, .var [.v (boV false), .v (.p nilV)]), (4, .var [.v (boV g), .v (.sl ((digs i l').map u32))])]) 59 false [100]) (by exact Zak) ?_
  refine T.weak (Ent.ndP rfl) ?_
  refine goI ?_
  exact ⟨.inr rfl, rfl, rfl, by exact Zak⟩
theorem big_bad {l l' : List Nat} {b : Bool} {lv : Int} {n : Nat} (c : PCM false Tryz.prog 129 [.ptr 100 0] (RR l b lv) true (.v (qV' n)) (RR l' true lv)) (hn : n < 18446744073709551616) (hl : l'.length ≤ 1000000000) (h : n / 2 ≤ l'.length / 4) : PCM false Tryz.prog 130 [.ptr 100 0] (RR l b lv) true (.v (.agg (BI.cs ⟨n % 2 != 0, List.replicate (n / 2) 0⟩))) (RR l' true lv) := by
 have eml : (l'.map nV).length = l'.length := List.length_map ..
 have e1 : IntKind.u64.wrap (((l'.map nV).length : Int)) = (l'.length : Int) := by rw [eml]; exact u64w (by omega) (by omega)
 have e2 := qdiv (k := 2) hn (by omega)
 have e3 := qdiv (n := l'.length) (k := 4) (by omega) (by omega)
 have e4' : ((n : Int).tmod 2) = ((n % 2 : Nat) : Int) := rfl
 have d1 : decide (((n / 2 : Nat) : Int) > ((l'.length / 4 : Nat) : Int)) = false := decide_eq_false (by omega)
 have eg : (((n % 2 : Nat) : Int) != 0) = (n % 2 != 0) := by
  have : n % 2 = 0 ∨ n % 2 = 1 := by omega
  rcases this with h | h <;> rw [h] <;> rfl
 generalize hm : n / 2 = m at *
 generalize hgg : (n % 2 != 0) = g at *
 refine Zbz Tryz.func130 rfl rfl rfl (Nat.le_of_ble_eq_true rfl) (Za1 rfl) ?_
 refine goI ?_
 refine mcA c ?_
 refine goI ?_
 refine evG ggA (Zbv (Zaa rfl) rfl rfl (by omega) e2) ?_
 refine goI ?_
 refine evG ggA (Zag (Zaa rfl) Zbd Za0 rfl e1) ?_
 refine evG ggA (Zbv (Zaa rfl) rfl rfl (by omega) e3) ?_
 refine goI ?_
 refine evG ggA (Zbv (op := .rem) (Zaa rfl) rfl rfl (by omega) e4') ?_
 refine evG ggA (Zfu (Zaa rfl) rfl rfl (congrArg some eg)) ?_
 refine evG ggA (Zc1 (Zaa rfl) (Zb0 rfl) rfl rfl rfl) ?_
 refine goI ?_
 refine evG ggA (Zbv (Zaa rfl) rfl rfl (by omega) e2) ?_
 refine goI ?_
 refine T.loop (fun N s1 => ∃ i : Nat, N = m - i ∧ i ≤ m ∧ s1 = mkP [(0, .ptr 100 0), (2, .ptr 2 0), (4, .ptr 4 0), (27, .v (qV' m)), (28, .v (qV' i))] (RR l' true lv ++ [(2, .var [.v (boV false), .v (.p nilV)]), (4, .var [.v (boV g), .own 102 i]), (102, .lst 1 95 ((List.replicate i (0 : Int)).map u32))]) 59 false [100]) m
  (s' := mkP [(0, .ptr 100 0), (2, .ptr 2 0), (4, .ptr 4 0), (27, .v (qV' m)), (28, .v (qV' 0))] (RR l' true lv ++ [(2, .var [.v (boV false), .v (.p nilV)]), (4, .var [.v (boV g), .own 102 0]), (102, .lst 1 95 [])]) 59 false [100]) (by exact Zak) ⟨0, rfl, Nat.zero_le _, rfl⟩ ?_
 rintro _ _ ⟨i, rfl, hi, rfl⟩
 by_cases hlt : i < m
 ·have d2 : decide ((i : Int) < (m : Int)) = true := decide_eq_true (by omega)
  have hli : ((List.replicate i (0 : Int)).map u32).length = i := by simp
  have k1 := r_byte_bad l' true lv (.inl rfl) false
  have s1 : IntKind.u32.wrap (((0 : Nat) : Int) * 2 ^ (min (8 : Int).toNat 32)) = ((0 : Nat) : Int) := rfl
  have s2 : IntKind.u32.wrap (((0 : Nat) : Int) * 2 ^ (min (16 : Int).toNat 32)) = ((0 : Nat) : Int) := rfl
  have s3 : IntKind.u32.wrap (((0 : Nat) : Int) * 2 ^ (min (24 : Int).toNat 32)) = ((0 : Nat) : Int) := rfl
  have o1 : bits .or .u32 ((0 : Nat) : Int) ((0 : Nat) : Int) = ((0 : Nat) : Int) := rfl
  have hD : (List.replicate (i + 1) (0 : Int)).map u32 = (List.replicate i (0 : Int)).map u32 ++ [u32 ((0 : Nat) : Int)] := by rw [List.replicate_succ']; simp
  have hinc : IntKind.u64.wrap ((i : Int) + 1) = ((i + 1 : Nat) : Int) := by rw [u64w (by omega) (by omega)]; omega
  generalize (List.replicate i (0 : Int)).map u32 = D at *
  refine goI ?_
  refine mcA k1 ?_
  refine evG ggA (Zag (Zaa rfl) Za3 Za2 rfl (u32w (by omega) (by omega))) ?_
  refine goI ?_
  refine mcA k1 ?_
  refine evG ggA (Zag (Zaa rfl) Za3 Za2 rfl (u32w (by omega) (by omega))) ?_
  refine evG ggA (Zdf (Zaa rfl) rfl rfl (by decide) s1) ?_
  refine evG ggA (Zbp (Zaa rfl) rfl rfl rfl o1) ?_
  refine goI ?_
  refine mcA k1 ?_
  refine evG ggA (Zag (Zaa rfl) Za3 Za2 rfl (u32w (by omega) (by omega))) ?_
  refine evG ggA (Zdf (Zaa rfl) rfl rfl (by decide) s2) ?_
  refine evG ggA (Zbp (Zaa rfl) rfl rfl rfl o1) ?_
  refine goI ?_
  refine mcA k1 ?_
  refine evG ggA (Zag (Zaa rfl) Za3 Za2 rfl (u32w (by omega) (by omega))) ?_
  refine evG ggA (Zdf (Zaa rfl) rfl rfl (by decide) s3) ?_
  refine evG ggA (Zbp (Zaa rfl) rfl rfl rfl o1) ?_
  refine goI ?_
  refine evG ggA (Zar (Zaa rfl) (Zaf rfl) rfl rfl rfl rfl (Zbo rfl rfl) (Nat.le_of_ble_eq_true rfl)) ?_
  refine evG ggA (Zb5 (xs := [u32 ((0 : Nat) : Int)]) (Zaa rfl) (Zaf rfl) rfl rfl hli rfl (fun b hb => by simp at hb; subst hb; rfl) (by decide) (by unfold maxLen; simp; omega) (by simp; omega) rfl (fun e => by cases e)) ?_
  rw [← hD]
  refine goI ?_
  refine evG ggA (Zbk (Zaa rfl) rfl rfl hinc) ?_
  refine goI ?_
  exact Zad (k := m - (i + 1)) (s' := mkP [(0, .ptr 100 0), (2, .ptr 2 0), (4, .ptr 4 0), (27, .v (qV' m)), (28, .v (qV' (i + 1)))] (RR l' true lv ++ [(2, .var [.v (boV false), .v (.p nilV)]), (4, .var [.v (boV g), .own 102 (i + 1)]), (102, .lst 1 95 ((List.replicate (i + 1) (0 : Int)).map u32))]) 59 false [100]) (by omega) (by exact Zak) ⟨i + 1, rfl, hlt, rfl⟩
 ·obtain rfl : i = m := by omega
  have d2 : decide ((i : Int) < (i : Int)) = false := decide_eq_false (by omega)
  have hli : ((List.replicate i (0 : Int)).map u32).length = i := by simp
  refine r1A ?_
  first
   | refine T.condF rfl (by assumption) ?_
   | (refine T.seq ?_; refine T.condF rfl (by assumption) ?_)
  refine T.exit ?_
  refine osA ?_
  refine T.weak (s' := mkP [(2, .ptr 2 0), (4, .ptr 4 0)] (RR l' true lv ++ [(2, .var [.v (boV false), .v (.p nilV)]), (4, .var [.v (boV g), .v (.sl ((List.replicate i (0 : Int)).map u32))])]) 59 false [100]) (by exact Zak) ?_
  refine T.weak (Ent.ndP rfl) ?_
  refine goI ?_
  exact ⟨.inr rfl, rfl, rfl, by exact Zak⟩
end Ab
