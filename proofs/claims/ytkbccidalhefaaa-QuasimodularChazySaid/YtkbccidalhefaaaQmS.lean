/- Sorting of terms by their exponents: what insertion, rotation and merging by symmetric comparison rest on. Plain arithmetic. -/
import Derived.Test.YtkbccidalhefaaaQmM
set_option linter.all false
namespace Ab
open Go Go.RowKit Go.Proofs Hp

/-- a term as it came in: its exponents, the four cells of its number, and the number -/
structure QE where
  a : Int
  b : Int
  c : Int
  g : Bool
  d : List AV
  g' : Bool
  d' : List AV
  q : Rat
def QE.r (e : QE) : AV := .agg [.p (.bool e.g), .sl e.d, .p (.bool e.g'), .sl e.d']
/-- its number is q, of at most K digits -/
def QE.ok (K : Nat) (e : QE) : Prop := IsV e.r K e.q
def QE.t (e : QE) : QT := ⟨e.a, e.b, e.c, e.q⟩
def QE.k (e : QE) : Ky := (e.a, e.b, e.c)
def QE.av (e : QE) : AV := .agg [.p (.int .i64 e.a), .p (.int .i64 e.b), .p (.int .i64 e.c), .p (.bool e.g), .sl e.d, .p (.bool e.g'), .sl e.d']
def ke (x y : QE) : Prop := ¬ kl y.k x.k
theorem ke_tr {x y z : QE} (h : ke x y) (k : ke y z) : ke x z := by unfold ke kl at *; omega
theorem ke_lt {x y : QE} (h : kl x.k y.k) : ke x y := fun k => kl_as h k
theorem ke_rf (x : QE) : ke x x := kl_irr _
def ES (l : List QE) : Prop := l.Pairwise ke
theorem es_app {l r : List QE} : ES (l ++ r) ↔ ES l ∧ ES r ∧ ∀ x, x ∈ l → ∀ y, y ∈ r → ke x y := List.pairwise_append
theorem es_cons {x : QE} {l : List QE} : ES (x :: l) ↔ (∀ y, y ∈ l → ke x y) ∧ ES l := List.pairwise_cons
theorem es_last {l : List QE} {z : QE} (h : ES (l ++ [z])) : ∀ x, x ∈ l ++ [z] → ke x z := fun x hx => by
  rcases List.mem_append.1 hx with hx | hx
  · exact (es_app.1 h).2.2 x hx z (List.mem_singleton.2 rfl)
  · rw [List.mem_singleton.1 hx]; exact ke_rf z
theorem es_head {l : List QE} {z : QE} (h : ES (z :: l)) : ∀ x, x ∈ z :: l → ke z x := fun x hx => by
  rcases List.mem_cons.1 hx with rfl | hx
  · exact ke_rf x
  · exact (es_cons.1 h).1 x hx
theorem es_ins {l r : List QE} {x : QE} (h : ES (l ++ r)) (h1 : ∀ y, y ∈ l → ke y x) (h2 : ∀ y, y ∈ r → ke x y) : ES (l ++ x :: r) := by
  obtain ⟨a, b, c⟩ := es_app.1 h
  refine es_app.2 ⟨a, es_cons.2 ⟨h2, b⟩, fun y hy z hz => ?_⟩
  rcases List.mem_cons.1 hz with rfl | hz
  · exact h1 y hy
  · exact c y hy z hz
/-- two neighbours change places -/
theorem set_swap {α : Type} {q : List α} {x y : α} : ∀ {p : List α} {j : Nat}, p.length = j → ((p ++ x :: y :: q).set (j + 1) x).set j y = p ++ y :: x :: q
  | [], _, rfl => rfl
  | a :: p, _, rfl => congrArg (a :: ·) (set_swap (p := p) rfl)
theorem get_app {α : Type} {p q : List α} {x : α} {j : Nat} (hj : p.length = j) : (p ++ x :: q)[j]? = some x := by
  subst hj
  rw [List.getElem?_append_right (by omega), Nat.sub_self]
  rfl
theorem get_app1 {α : Type} {p q : List α} {x y : α} {j : Nat} (hj : p.length = j) : (p ++ x :: y :: q)[j + 1]? = some y := by
  subst hj
  rw [List.getElem?_append_right (by omega), show p.length + 1 - p.length = 1 by omega]
  rfl
theorem nil_or {α : Type} (l : List α) : l = [] ∨ ∃ r z, l = r ++ [z] := by
  rcases List.eq_nil_or_concat l with h | ⟨r, z, h⟩
  · exact .inl h
  · exact .inr ⟨r, z, by rw [h, List.concat_eq_append]⟩
theorem split_at {α : Type} {l : List α} {n : Nat} (h : n ≤ l.length) : ∃ p r, l = p ++ r ∧ p.length = n := ⟨l.take n, l.drop n, (List.take_append_drop n l).symm, by rw [List.length_take]; omega⟩
theorem split_get {α : Type} {l : List α} {n : Nat} (h : n < l.length) : ∃ p x r, l = p ++ x :: r ∧ p.length = n := by
  obtain ⟨p, r, rfl, hp⟩ := split_at (Nat.le_of_lt h)
  rw [List.length_append] at h
  match r, h with
  | [], h => simp at h; omega
  | x :: r, _ => exact ⟨p, x, r, rfl, hp⟩
/-- the two halves of a merge -/
theorem es_merge {u1 u2 v1 v2 w1 w2 : List QE} (_hu : ES (u1 ++ u2)) (_hv : ES (v1 ++ v2)) (c1 : ∀ x, x ∈ u1 → ∀ y, y ∈ v2 → ke x y) (c2 : ∀ x, x ∈ v1 → ∀ y, y ∈ u2 → ke x y)
    (h1 : ES w1) (p1 : w1.Perm (u1 ++ v1)) (h2 : ES w2) (p2 : w2.Perm (u2 ++ v2)) : ES (w1 ++ w2) ∧ (w1 ++ w2).Perm ((u1 ++ u2) ++ (v1 ++ v2)) := by
  refine ⟨es_app.2 ⟨h1, h2, fun x hx y hy => ?_⟩, ?_⟩
  · have hx := p1.mem_iff.1 hx
    have hy := p2.mem_iff.1 hy
    rcases List.mem_append.1 hx with hx | hx <;> rcases List.mem_append.1 hy with hy | hy
    · exact (es_app.1 _hu).2.2 x hx y hy
    · exact c1 x hx y hy
    · exact c2 x hx y hy
    · exact (es_app.1 _hv).2.2 x hx y hy
  · refine (p1.append p2).trans ?_
    rw [List.append_assoc, List.append_assoc]
    refine List.Perm.append_left u1 ?_
    rw [← List.append_assoc, ← List.append_assoc]
    exact List.Perm.append_right v2 List.perm_append_comm
/-- all before the last of a sorted list, and all behind its first -/
theorem ke_cross {u v : List QE} {x y : QE} (hu : ∀ z, z ∈ u → ke z x) (hv : ∀ z, z ∈ v → ke y z) (h : ke x y) : ∀ z, z ∈ u → ∀ t, t ∈ v → ke z t := fun z hz t ht => ke_tr (hu z hz) (ke_tr h (hv t ht))
/-- insertion into a sorted list, behind what is equal -/
def qin : List QE → QE → List QE
  | [], x => [x]
  | y :: l, x => if kl x.k y.k then x :: y :: l else y :: qin l x
theorem qin_eq : ∀ (l r : List QE) (x : QE), (∀ y, y ∈ l → ke y x) → (∀ y, y ∈ r → kl x.k y.k) → qin (l ++ r) x = l ++ x :: r
  | [], [], x, _, _ => rfl
  | [], y :: r, x, _, h => by
    show qin (y :: r) x = _
    rw [qin, if_pos (h y (List.mem_cons_self ..))]
    rfl
  | y :: l, r, x, h, k => by
    show qin (y :: (l ++ r)) x = _
    rw [qin, if_neg (h y (List.mem_cons_self ..)), qin_eq l r x (fun z hz => h z (List.mem_cons_of_mem _ hz)) k]
    rfl
theorem qin_perm : ∀ (l : List QE) (x : QE), (qin l x).Perm (x :: l)
  | [], x => List.Perm.refl _
  | y :: l, x => by
    rw [qin]
    split
    · exact List.Perm.refl _
    · exact ((qin_perm l x).cons y).trans (List.Perm.swap x y l)
theorem qin_sorted : ∀ (l : List QE) (x : QE), ES l → ES (qin l x)
  | [], x, _ => es_cons.2 ⟨fun y hy => (by cases hy), List.Pairwise.nil⟩
  | y :: l, x, h => by
    obtain ⟨h1, h2⟩ := es_cons.1 h
    rw [qin]
    split
    · rename_i c
      refine es_cons.2 ⟨fun z hz => ?_, h⟩
      rcases List.mem_cons.1 hz with rfl | hz
      · exact ke_lt c
      · exact ke_tr (ke_lt c) (h1 z hz)
    · rename_i c
      refine es_cons.2 ⟨fun z hz => ?_, qin_sorted l x h2⟩
      rcases List.mem_cons.1 ((qin_perm l x).mem_iff.1 hz) with rfl | hz
      · exact c
      · exact h1 z hz
def qis (l : List QE) : List QE := l.foldl qin []
theorem qis_app (l : List QE) (x : QE) : qis (l ++ [x]) = qin (qis l) x := by
  unfold qis
  rw [List.foldl_append]
  rfl
theorem qfi_perm : ∀ (l r : List QE), (l.foldl qin r).Perm (r ++ l)
  | [], r => by rw [List.append_nil]; exact List.Perm.refl _
  | x :: l, r => by
    refine (qfi_perm l (qin r x)).trans ?_
    refine ((qin_perm r x).append_right l).trans ?_
    exact List.perm_middle.symm
theorem qis_perm (l : List QE) : (qis l).Perm l := qfi_perm l []
theorem qfi_sorted : ∀ (l r : List QE), ES r → ES (l.foldl qin r)
  | [], _, h => h
  | x :: l, r, h => qfi_sorted l _ (qin_sorted r x h)
theorem qis_sorted (l : List QE) : ES (qis l) := qfi_sorted l [] List.Pairwise.nil
theorem qis_len (l : List QE) : (qis l).length = l.length := (qis_perm l).length_eq
/-- ranges of the same length change places: after i rounds -/
def swR {α : Type} (u v : List α) (i : Nat) : List α × List α := (v.take i ++ u.drop i, u.take i ++ v.drop i)
theorem swR_0 {α : Type} (u v : List α) : swR u v 0 = (u, v) := by simp [swR]
theorem swR_n {α : Type} {u v : List α} {n : Nat} (hu : u.length = n) (hv : v.length = n) : swR u v n = (v, u) := by
  unfold swR
  rw [List.take_of_length_le (Nat.le_of_eq hv), List.take_of_length_le (Nat.le_of_eq hu), List.drop_eq_nil_of_le (Nat.le_of_eq hv), List.drop_eq_nil_of_le (Nat.le_of_eq hu), List.append_nil, List.append_nil]
end Ab
