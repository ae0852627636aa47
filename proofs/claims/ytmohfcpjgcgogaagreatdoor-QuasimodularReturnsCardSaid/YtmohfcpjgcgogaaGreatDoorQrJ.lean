/- Lists of terms with ascending exponents: their coefficients' heights in sums, products and derivatives. Plain arithmetic. Derivatives by the rule for products, iterated; multiples and products of normalized lists: plain arithmetic. The exported sum, multiple, product and derivative of polynomials; Serre's derivative of zero: by the contracts of what they call. -/
import Derived.Test.YtmohfcpjgcgogaaGreatDoorQD
set_option linter.all false
namespace Ab
open Go Go.RowKit Go.Proofs Hp
set_option maxRecDepth 100000
def QD (p : List QT) : Prop := p.Pairwise fun t u => kl t.k u.k
theorem QN.d : ∀ {p : List QT}, QN p → QD p
 | [], _ => .nil
 | _ :: _, h => List.pairwise_cons.2 ⟨h.2.1, QN.d h.2.2⟩
theorem qnf_d (p : List QT) : QD (qnf p) := (qnf_n p).d
theorem QD.sc {p : List QT} (h : QD p) (c : Rat) : QD (p.map (qsc c)) := by
 unfold QD
 rw [List.pairwise_map]
 exact h
theorem QD.mv {p : List QT} (h : QD p) (a b c : Int) (f : QT → Rat) : QD (p.map fun t => (⟨t.a + a, t.b + b, t.c + c, f t⟩ : QT)) := by
 unfold QD
 rw [List.pairwise_map]
 refine List.Pairwise.imp (fun {x y} hk => ?_) h
 unfold kl QT.k at *
 simp only at *
 omega
theorem QD.app {A B : List QT} (h : QD (A ++ B)) : QD A ∧ QD B := ⟨(List.pairwise_append.1 h).1, (List.pairwise_append.1 h).2.1⟩
theorem QD.co_ht {K : Nat} (hK : 1 ≤ K) (k : Ky) : ∀ {p : List QT}, QD p → (∀ t, t ∈ p → Ht t.q K) → Ht (qco p k) K
  | [], _, _ => ht0 hK
  | t :: p, h, a => by
    obtain ⟨h1, h2⟩ := List.pairwise_cons.1 h
    rw [qco]
    by_cases e : t.k = k
    · rw [if_pos e, Zcz (p := p) (fun u hu => by rw [← e]; exact (kl_ne (h1 u hu)).symm), Rat.add_zero]
      exact a t (List.mem_cons_self ..)
    · rw [if_neg e, Rat.zero_add]
      exact QD.co_ht hK k h2 fun u hu => a u (List.mem_cons_of_mem _ hu)
theorem nf_ht {H : Nat} {A : List QT} (h : ∀ k, Ht (qco A k) H) : ∀ t, t ∈ qnf A → Ht t.q H := fun t ht => by
 rw [← qn_co (qnf_n A) t ht, qnf_co]
 exact h _
theorem pre_ht {p r A B : List QT} {K L : Nat} (hK : 1 ≤ K) (hL : 1 ≤ L) (hp : QD p) (hr : QD r) (a : ∀ t, t ∈ p → Ht t.q K) (b : ∀ t, t ∈ r → Ht t.q L) (e : p ++ r = A ++ B) (k : Ky) : Ht (qco A k) (K + L + 1) := by
 rcases List.append_eq_append_iff.1 e with ⟨c, h1, h2⟩ | ⟨c, h1, h2⟩
 ·subst h1
  rw [qco_app]
  refine Ze2 (QD.co_ht hK k hp a) (QD.co_ht hL k (p := c) ?_ fun t ht => b t (by rw [h2]; exact List.mem_append_left _ ht))
  rw [h2] at hr
  exact hr.app.1
 ·rw [h1] at hp
  refine (QD.co_ht hK k hp.app.1 fun t ht => a t (by rw [h1]; exact List.mem_append_left _ ht)).mono (by omega)
theorem sum_ht {p r : List QT} {K L : Nat} (hK : 1 ≤ K) (hL : 1 ≤ L) (hp : QD p) (hr : QD r) (a : ∀ t, t ∈ p → Ht t.q K) (b : ∀ t, t ∈ r → Ht t.q L) (k : Ky) : Ht (qco (p ++ r) k) (K + L + 1) :=
 pre_ht hK hL hp hr a b (List.append_nil _).symm k
theorem qml_cons (t : QT) (p r : List QT) : qml (t :: p) r = r.map (qpr t) ++ qml p r := by unfold qml; rw [List.flatMap_cons]
theorem QD.pr {r : List QT} (h : QD r) (t : QT) : QD (r.map (qpr t)) := by
 have := h.mv t.a t.b t.c fun u => t.q * u.q
 rw [show (r.map fun u => (⟨u.a + t.a, u.b + t.b, u.c + t.c, t.q * u.q⟩ : QT)) = r.map (qpr t) from List.map_congr_left fun u _ => by unfold qpr; rw [Int.add_comm, Int.add_comm u.b, Int.add_comm u.c]] at this
 exact this
theorem pr_ht {r : List QT} {t : QT} {K L : Nat} (hK : 1 ≤ K) (ht : Ht t.q K) (b : ∀ t, t ∈ r → Ht t.q L) : ∀ u, u ∈ r.map (qpr t) → Ht u.q (K + L) := fun u hu => by
 obtain ⟨v, hv, rfl⟩ := List.mem_map.1 hu
 exact Zc1 ht (b v hv) hK
theorem mul_htL {r : List QT} {K L : Nat} (hK : 1 ≤ K) (hr : QD r) (b : ∀ t, t ∈ r → Ht t.q L) (k : Ky) : ∀ {p : List QT}, (∀ t, t ∈ p → Ht t.q K) → Ht (qco (qml p r) k) (1 + p.length * (K + L + 1))
  | [], _ => ht0 (by simp)
  | t :: p, a => by
    rw [qml_cons, qco_app, List.length_cons, Nat.add_mul, Nat.one_mul]
    refine (Ze2 (QD.co_ht (by omega) k (hr.pr t) (pr_ht hK (a t (List.mem_cons_self ..)) b)) (mul_htL hK hr b k fun u hu => a u (List.mem_cons_of_mem _ hu))).mono (by omega)
def qd4 (t : QT) : List QT := [⟨t.a + 1, t.b + 0, t.c + 0, t.q * (((t.a + 4 * t.b + 6 * t.c : Int) : Rat) / ((12 : Int) : Rat))⟩, ⟨t.a + -1, t.b + 1, t.c + 0, t.q * (((-t.a : Int) : Rat) / ((12 : Int) : Rat))⟩, ⟨t.a + 0, t.b + -1, t.c + 1, t.q * (((-t.b : Int) : Rat) / ((3 : Int) : Rat))⟩, ⟨t.a + 0, t.b + 2, t.c + -1, t.q * (((-t.c : Int) : Rat) / ((2 : Int) : Rat))⟩]
theorem qad_co (t : QT) (n d a b c : Int) (k : Ky) : qco (qad t n d a b c) k = if (t.a + a, t.b + b, t.c + c) = k then t.q * ((n : Rat) / (d : Rat)) else 0 := by
 unfold qad
 by_cases h : n = 0
 ·rw [if_pos h, h, qco]
  split
  ·rw [show ((0 : Int) : Rat) = 0 from rfl, Rat.div_def, Rat.zero_mul, Rat.mul_zero]
  ·rfl
 ·rw [if_neg h, qco, qco, Rat.add_zero]
  rfl
theorem qd4_co (t : QT) (k : Ky) : qco (qd1 t) k = qco (qd4 t) k := by
 unfold qd1 qd4
 simp only [qco_app, qad_co, qco, QT.k, Rat.add_zero]
 have e : t.q * (((t.a + 4 * t.b + 6 * t.c : Int) : Rat) / ((12 : Int) : Rat)) = t.q * ((t.a : Rat) / ((12 : Int) : Rat)) + (t.q * ((t.b : Rat) / ((3 : Int) : Rat)) + t.q * ((t.c : Rat) / ((2 : Int) : Rat))) := by
  rw [Rat.intCast_add, Rat.intCast_add, Rat.intCast_mul, Rat.intCast_mul]
  have : ((12 : Int) : Rat) = 12 := rfl
  have : ((4 : Int) : Rat) = 4 := rfl
  have : ((6 : Int) : Rat) = 6 := rfl
  have : ((3 : Int) : Rat) = 3 := rfl
  have : ((2 : Int) : Rat) = 2 := rfl
  grind
 rw [e]
 by_cases h : (t.a + 1, t.b + 0, t.c + 0) = k
 ·simp only [if_pos h]
  grind
 ·simp only [if_neg h, Rat.zero_add]
  grind
def qdg (p : List QT) : List QT := p.flatMap qd4
theorem qdg_co (p : List QT) (k : Ky) : qco (qdv p) k = qco (qdg p) k := by
 unfold qdv qdg
 induction p with
 | nil => rfl
 | cons t p ih => rw [List.flatMap_cons, List.flatMap_cons, qco_app, qco_app, qd4_co, ih]
theorem qdv_len4 (p : List QT) : (qnf (qdv p)).length ≤ 4 * p.length := by
  rw [qnf_eq (qdg_co p)]
  refine Nat.le_trans (qnf_len _) ?_
  unfold qdg
  induction p with
  | nil => simp
  | cons t p ih =>
    rw [List.flatMap_cons, List.length_append, List.length_cons]
    have : (qd4 t).length = 4 := rfl
    omega
theorem qdg_split (k : Ky) : ∀ p : List QT, qco (qdg p) k = (qco (p.map fun t => (⟨t.a + 1, t.b + 0, t.c + 0, t.q * (((t.a + 4 * t.b + 6 * t.c : Int) : Rat) / ((12 : Int) : Rat))⟩ : QT)) k + qco (p.map fun t => (⟨t.a + -1, t.b + 1, t.c + 0, t.q * (((-t.a : Int) : Rat) / ((12 : Int) : Rat))⟩ : QT)) k) + (qco (p.map fun t => (⟨t.a + 0, t.b + -1, t.c + 1, t.q * (((-t.b : Int) : Rat) / ((3 : Int) : Rat))⟩ : QT)) k + qco (p.map fun t => (⟨t.a + 0, t.b + 2, t.c + -1, t.q * (((-t.c : Int) : Rat) / ((2 : Int) : Rat))⟩ : QT)) k)
  | [] => by simp [qdg, qco, Rat.add_zero]
  | t :: p => by
    have h := qdg_split k p
    unfold qdg at h ⊢
    rw [List.flatMap_cons, qco_app, h]
    simp only [qd4, List.map_cons, qco, Rat.add_zero]
    grind
theorem dv_ht {p : List QT} {K : Nat} (hK : 1 ≤ K) (hp : QD p) (hs : ∀ t, t ∈ p → t.tn) (a : ∀ t, t ∈ p → Ht t.q K) (k : Ky) : Ht (qco (qdv p) k) (4 * K + 11) := by
 rw [qdg_co, qdg_split]
 have h : ∀ (x y z : Int) (n : QT → Int) (d : Int), (∀ t, t.tn → (n t).natAbs < 4294967296) → d.natAbs < 4294967296 → Ht (qco (p.map fun t => (⟨t.a + x, t.b + y, t.c + z, t.q * ((n t : Rat) / (d : Rat))⟩ : QT)) k) (K + 2) := fun x y z n d hn hd =>
  QD.co_ht (by omega) k (hp.mv x y z _) fun u hu => by
   obtain ⟨t, ht, rfl⟩ := List.mem_map.1 hu
   exact Zc1 (a t ht) (ht_frac (hn t (hs t ht)) hd) hK
 have h1 := h 1 0 0 (fun t => t.a + 4 * t.b + 6 * t.c) 12 (fun t ht => by unfold QT.tn at ht; omega) (by decide)
 have h2 := h (-1) 1 0 (fun t => -t.a) 12 (fun t ht => by unfold QT.tn at ht; omega) (by decide)
 have h3 := h 0 (-1) 1 (fun t => -t.b) 3 (fun t ht => by unfold QT.tn at ht; omega) (by decide)
 have h4 := h 0 2 (-1) (fun t => -t.c) 2 (fun t ht => by unfold QT.tn at ht; omega) (by decide)
 exact (Ze2 (Ze2 h1 h2) (Ze2 h3 h4)).mono (by omega)
end Ab
namespace Ab
open Go Go.RowKit Go.Proofs Hp
set_option maxRecDepth 100000
def Pos (M : Int) (p : List QT) : Prop := ∀ t, t ∈ p → 0 ≤ t.a ∧ 0 ≤ t.b ∧ 0 ≤ t.c ∧ t.a ≤ M ∧ t.b ≤ M ∧ t.c ≤ M
theorem Pos.tn {M : Int} {p : List QT} (h : Pos M p) (hM : M ≤ 10000) : ∀ t, t ∈ p → t.tn := fun t ht => by
 have := h t ht
 unfold QT.tn
 omega
theorem Pos.dv {M : Int} {p : List QT} (h : Pos M p) : Pos (M + 2) (qnf (qdv p)) := fun t ht => by
 obtain ⟨u, hu, e⟩ := Zff ht
 obtain ⟨v, hv, hu⟩ := List.mem_flatMap.1 hu
 have hp := h v hv
 unfold qd1 at hu
 simp only [List.mem_append] at hu
 simp only [QT.k, Prod.mk.injEq] at e
 obtain ⟨e1, e2, e3⟩ := e
 rcases hu with hu | hu | hu | hu | hu | hu <;> obtain ⟨h0, rfl⟩ := qad_mem hu <;> simp only at e1 e2 e3 <;> omega
def qD : Nat → List QT → List QT
 | 0, x => x
 | i + 1, x => qnf (qdv (qD i x))
def hB : Nat → Nat
 | 0 => 33
 | i + 1 => 4 * hB i + 11
def lB : Nat → Nat
 | 0 => 8
 | i + 1 => 4 * lB i
structure DB (i : Nat) (p : List QT) : Prop where
 d : QD p
 l : p.length ≤ lB i
 h : ∀ t, t ∈ p → Ht t.q (hB i)
 p : Pos (60 + 2 * i) p
theorem hB_1 : ∀ i, 1 ≤ hB i
 | 0 => by decide
 | i + 1 => by show 1 ≤ 4 * hB i + 11; omega
theorem DB.next {i : Nat} {p : List QT} (h : DB i p) (hi : i ≤ 10) : DB (i + 1) (qnf (qdv p)) := by
 refine ⟨qnf_d _, ?_, nf_ht (dv_ht (hB_1 i) h.d (h.p.tn (by omega)) h.h), ?_⟩
 ·have := qdv_len4 p
  have := h.l
  show _ ≤ 4 * lB i
  omega
 ·have := h.p.dv
  rw [show (60 : Int) + 2 * ((i + 1 : Nat) : Int) = 60 + 2 * (i : Int) + 2 by omega]
  exact this
theorem DB.D {x : List QT} (h : DB 0 x) : ∀ i, i ≤ 10 → DB i (qD i x)
 | 0, _ => h
 | i + 1, hi => (DB.D h i (by omega)).next (by omega)
theorem hl3 : ∀ i, i ≤ 3 → hB i ≤ 2343 ∧ lB i ≤ 512 := fun i hi => by
 rcases i with _ | _ | _ | _ | i
 ·decide
 ·decide
 ·decide
 ·decide
 ·omega
end Ab
namespace Ab
open Go Go.RowKit Go.Proofs Hp
set_option maxRecDepth 100000
end Ab
