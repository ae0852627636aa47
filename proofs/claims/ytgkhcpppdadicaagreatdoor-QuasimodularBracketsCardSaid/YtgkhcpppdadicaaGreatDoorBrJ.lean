/- Brackets of polynomials in the program. Brackets of polynomials: they change at most their sign when the two change places, and brackets of polynomials without E2 are without E2. Plain arithmetic. Brackets of series in the program, as functions of the coefficients; expansions of brackets of polynomials. The statement QuasimodularBrackets: its walk. The statement QuasimodularBrackets: the law. -/
import Derived.Test.YtgkhcpppdadicaaGreatDoorSeC
import Derived.Test.YtgkhcpppdadicaaGreatDoorQrJ
import Derived.Test.YtgkhcpppdadicaaGreatDoorCmJ
set_option linter.all false
namespace Ab
open Go Go.RowKit Go.Proofs Hp
set_option maxRecDepth 100000
theorem Nz.db {R : List QT} (h : Nz R) : DB 0 R := ⟨h.d, h.l, h.h, fun t ht => by
 have := h.v t ht
 unfold QE.vt at this
 simp only [qe] at this
 show 0 ≤ t.a ∧ 0 ≤ t.b ∧ 0 ≤ t.c ∧ t.a ≤ 60 + 2 * ((0 : Nat) : Int) ∧ t.b ≤ 60 + 2 * ((0 : Nat) : Int) ∧ t.c ≤ 60 + 2 * ((0 : Nat) : Int)
 omega⟩
section
variable {i : Nat} {p : List QT} (h : DB i p) (hi : i ≤ 3)
include h hi
theorem DB.bd : p.length ≤ 512 ∧ 1 ≤ hB i ∧ hB i ≤ 2343 := by
 have := hl3 i hi
 have := h.l
 exact ⟨by omega, hB_1 i, by omega⟩
theorem DB.tn : ∀ e, e ∈ p.map qe → e.t.tn := fun e he => by
 obtain ⟨t, ht, rfl⟩ := List.mem_map.1 he
 exact h.p.tn (by omega) t ht
omit hi in
theorem DB.ok : ∀ e, e ∈ p.map qe → e.ok (hB i) := fun e he => by
 obtain ⟨t, ht, rfl⟩ := List.mem_map.1 he
 exact qe_ok (h.h t ht)
theorem DB.derive : PC Tryz.prog 36 [.sl (PL p)] (.sl (PL (qnf (qdv p)))) := by
 obtain ⟨b1, b2, b3⟩ := h.bd hi
 have c := qderive_p (sort_p 3072 (by decide)) (U := p.map qe) (K := hB i) (by rw [List.length_map]; omega) (by decide) (h.tn hi) h.ok ⟨b2, by omega⟩ (by omega)
 rw [qe_map] at c
 exact c
end
def bX (m : Nat) (k l : Int) (P R : List QT) (r : Nat) : List QT := (qnf (qml (qD r P) (qD (m - r) R))).map (qsc ((fcI m r k l : Int) : Rat))
structure XOK (X : List QT) : Prop where
 d : QD X
 h : ∀ t, t ∈ X → Ht t.q 24002
 l : X.length ≤ 4096
 s : ∀ t, t ∈ X → (qe t).sm
section
variable {m : Nat} {k l : Int} {P R : List QT} (hP : DB 0 P) (hR : DB 0 R) (hm : m ≤ 3) (hk : 0 ≤ k ∧ k ≤ 60) (hl : 0 ≤ l ∧ l ≤ 60) {r : Nat} (hr : r ≤ m)
include hP hR hm hr
theorem prod_ok : (∀ t, t ∈ qnf (qml (qD r P) (qD (m - r) R)) → Ht t.q 24000) ∧ (qnf (qml (qD r P) (qD (m - r) R))).length ≤ 4096 ∧ ∀ t, t ∈ qnf (qml (qD r P) (qD (m - r) R)) → (qe t).sm := by
 have d1 := hP.D r (by omega)
 have d2 := hR.D (m - r) (by omega)
 refine ⟨nf_ht (d1.prod d2 (by omega)), ?_, fun t ht => ?_⟩
 ·refine Nat.le_trans (qnf_len _) ?_
  rw [qml_len]
  exact d1.plen d2 (by omega)
 ·obtain ⟨u, hu, e⟩ := qnf_key ht
  obtain ⟨x, y, hx, hy, rfl⟩ := qml_mem hu
  have h1 := d1.p x hx
  have h2 := d2.p y hy
  simp only [QT.k, qpr, Prod.mk.injEq] at e
  unfold QE.sm
  simp only [qe]
  omega
include hk hl
theorem bX_ok : XOK (bX m k l P R r) := by
 obtain ⟨h1, h2, h3⟩ := prod_ok hP hR hm hr
 refine ⟨(qnf_d _).sc _, fun t ht => ?_, by unfold bX; rw [List.length_map]; exact h2, fun t ht => ?_⟩
 ·obtain ⟨x, hx, rfl⟩ := List.mem_map.1 ht
  exact (ht_mul (ht_big (fcI_le (by omega) hr hk hl).2) (h1 x hx) (by decide)).mono (by decide)
 ·obtain ⟨x, hx, rfl⟩ := List.mem_map.1 ht
  exact h3 x hx
theorem bX_nf : (∀ t, t ∈ qnf (bX m k l P R r) → Ht t.q 24002) ∧ (qnf (bX m k l P R r)).length ≤ 4096 ∧ ∀ t, t ∈ qnf (bX m k l P R r) → (qe t).sm := by
 have x := bX_ok hP hR hm hk hl hr
 refine ⟨nf_ht fun y => QD.co_ht (by decide) y x.d x.h, Nat.le_trans (qnf_len _) x.l, fun t ht => ?_⟩
 obtain ⟨u, hu, e⟩ := qnf_key ht
 have := x.s u hu
 simp only [QT.k, Prod.mk.injEq] at e
 unfold QE.sm at this ⊢
 simp only [qe] at this ⊢
 omega
theorem b_times : PC Tryz.prog 35 [.sl (PL (qD r P)), .sl (PL (qD (m - r) R))] (.sl (PL (qnf (qml (qD r P) (qD (m - r) R))))) := by
 have d1 := hP.D r (by omega)
 have d2 := hR.D (m - r) (by omega)
 have b1 := d1.bd (by omega)
 have b2 := d2.bd (by omega)
 have c := qtimes_p (sort_p 4096 (by decide)) (U := (qD r P).map qe) (V := (qD (m - r) R).map qe) (K := 2343) (by rw [List.length_map, List.length_map]; exact d1.plen d2 (by omega)) (by decide) (by rw [List.length_map]; omega) (by rw [List.length_map]; omega) (d1.tn (by omega)) (d2.tn (by omega)) (fun e he => isV_mono (d1.ok e he) b1.2.2) (fun e he => isV_mono (d2.ok e he) b2.2.2) (by decide) (by decide)
 rw [qe_map, qe_map] at c
 exact c
theorem b_scale : PC Tryz.prog 51 [encQ ((fcI m r k l : Int) : Rat), .sl (PL (qnf (qml (qD r P) (qD (m - r) R))))] (.sl (PL (qnf (bX m k l P R r)))) := by
 obtain ⟨h1, h2, h3⟩ := prod_ok hP hR hm hr
 have c := qscale_p (sort_p 4096 (by decide)) (a := encQ ((fcI m r k l : Int) : Rat)) (U := (qnf (qml (qD r P) (qD (m - r) R))).map qe) (K := 24000) (isV_mono (isV_encQ (ht_big (fcI_le (by omega) hr hk hl).2)) (by decide)) (by rw [List.length_map]; exact h2) (by decide) (fun e he => by obtain ⟨t, ht, rfl⟩ := List.mem_map.1 he; exact h3 t ht) (fun e he => by obtain ⟨t, ht, rfl⟩ := List.mem_map.1 he; exact qe_ok (h1 t ht)) (by decide) (by decide)
 rw [qe_map] at c
 exact c
end
def bW (m : Nat) (k l : Int) (P R : List QT) (r : Nat) : List QT := (List.range r).flatMap (bX m k l P R)
theorem bW_s (m : Nat) (k l : Int) (P R : List QT) (r : Nat) : bW m k l P R (r + 1) = bW m k l P R r ++ bX m k l P R r := by
 unfold bW
 rw [List.range_succ, List.flatMap_append]
 simp
section
variable {m : Nat} {k l : Int} {P R : List QT} (hP : DB 0 P) (hR : DB 0 R) (hm : m ≤ 3) (hk : 0 ≤ k ∧ k ≤ 60) (hl : 0 ≤ l ∧ l ≤ 60)
include hP hR hm hk hl
theorem bW_ok (y : Ky) : ∀ r, r ≤ m + 1 → Ht (qco (bW m k l P R r) y) (1 + r * 24003) ∧ (bW m k l P R r).length ≤ r * 4096
  | 0, _ => ⟨ht0 (by decide), Nat.le_refl _⟩
  | r + 1, h => by
    obtain ⟨i1, i2⟩ := bW_ok y r (by omega)
    have x := bX_ok hP hR hm hk hl (r := r) (by omega)
    rw [bW_s]
    refine ⟨?_, ?_⟩
    · rw [qco_app]
      exact (ht_add i1 (QD.co_ht (by decide) y x.d x.h)).mono (by omega)
    · rw [List.length_append]
      have := x.l
      omega
theorem bW_prog (y : Ky) : ∀ r, qco ((List.range r).flatMap fun i => qnf (bX m k l P R i)) y = qco (bW m k l P R r) y
  | 0 => rfl
  | r + 1 => by
    rw [bW_s, List.range_succ, List.flatMap_append, qco_app, qco_app, bW_prog y r]
    simp only [List.flatMap_cons, List.flatMap_nil, List.append_nil]
    rw [qnf_co]
theorem b_tidy : PC Tryz.prog 32 [.sl ((List.range (m + 1)).flatMap fun r => PL (qnf (bX m k l P R r)))] (.sl (PL (qnf (bW m k l P R (m + 1))))) := by
  have e : ((List.range (m + 1)).flatMap fun r => PL (qnf (bX m k l P R r))) = PL ((List.range (m + 1)).flatMap fun r => qnf (bX m k l P R r)) := by
    unfold PL
    rw [List.map_flatMap, List.map_flatMap]
  have hmem : ∀ t, t ∈ ((List.range (m + 1)).flatMap fun r => qnf (bX m k l P R r)) → Ht t.q 24002 ∧ (qe t).sm := fun t ht => by
    obtain ⟨r, hr, ht⟩ := List.mem_flatMap.1 ht
    have hr := List.mem_range.1 hr
    have x := bX_nf hP hR hm hk hl (r := r) (by omega)
    exact ⟨x.1 t ht, x.2.2 t ht⟩
  have hlen : ∀ r, r ≤ m + 1 → ((List.range r).flatMap fun r => qnf (bX m k l P R r)).length ≤ r * 4096 := by
    intro r
    induction r with
    | zero => intro _; simp
    | succ r ih =>
      intro h
      have := ih (by omega)
      have x := (bX_nf hP hR hm hk hl (r := r) (by omega)).2.1
      rw [List.range_succ, List.flatMap_append, List.length_append]
      simp only [List.flatMap_cons, List.flatMap_nil, List.append_nil]
      omega
  have c := tidyL_p (sort_p 16384 (by decide)) (L := (List.range (m + 1)).flatMap fun r => qnf (bX m k l P R r)) (K := 24002) (by have := hlen (m + 1) (Nat.le_refl _); omega) (by decide) (fun t ht => (hmem t ht).2) (fun t ht => (hmem t ht).1) (by decide) (by decide)
  rw [e, ← qnf_eq fun y => bW_prog hP hR hm hk hl y (m + 1)]
  exact c
end
theorem bracket_ok {X Y : List AV} {m : Nat} {k l : Int} {P R : List QT} (hm : m ≤ 3) (hv : PC Tryz.prog 28 [.sl X] (bV true)) (kv : PC Tryz.prog 28 [.sl Y] (bV true)) (t1 : PC Tryz.prog 32 [.sl X] (.sl (PL P))) (t2 : PC Tryz.prog 32 [.sl Y] (.sl (PL R)))
  (p1 : PC Tryz.prog 45 [.sl (PL P)] (.tup [iV k, bV true])) (p2 : PC Tryz.prog 45 [.sl (PL R)] (.tup [iV l, bV true])) (l1 : 0 < (PL P).length) (l2 : 0 < (PL R).length) (hk : 0 ≤ k ∧ k ≤ 60) (hl : 0 ≤ l ∧ l ≤ 60) (hkl : k + l + 2 * (m : Int) ≤ 60) (dP : DB 0 P) (dR : DB 0 R) :
  PC Tryz.prog 18 [.sl X, .sl Y, iV m] (.tup [.sl (PL (qnf (bW m k l P R (m + 1)))), iV 0]) := by
 exact qbracket_core (n := m) (by omega) (f := fun i => PL (qD i P)) (g := fun i => PL (qD i R)) (k := k) (l := l) (tm := fun r => PL (qnf (qml (qD r P) (qD (m - r) R)))) (sc := fun r => PL (qnf (bX m k l P R r))) (b1 := fun r => bnG ((m : Int) + k - 1) (m - r)) (b2 := fun r => bnG ((m : Int) + l - 1) r) (q := fun r => ((fcI m r k l : Int) : Rat))
  hv kv t1 t2 p1 p2 l1 l2 hk hl (by omega) (fun i hi => (dP.D i (by omega)).derive (by omega)) (fun i hi => (dR.D i (by omega)).derive (by omega))
  (fun r hr => by
   have c := qbin_p (m := (m : Int) + k - 1) (s := m - r) (by omega) (by omega) (by omega)
   rw [show ((m - r : Nat) : Int) = (m : Int) - r by omega] at c
   exact c) (fun r hr => qbin_p (m := (m : Int) + l - 1) (s := r) (by omega) (by omega) (by omega))
  (fun r hr => (fcI_le (by omega) hr hk hl).1) (fun r hr => by
   have := (fcI_le (m := m) (r := r) (k := k) (l := l) (by omega) hr hk hl).2
   exact rof_p (fcI m r k l) (by omega) (by omega))
  (fun r hr => b_times dP dR hm hk hl hr) (fun r hr => b_scale dP dR hm hk hl hr)
  (fun r hr => ⟨fun a ha => ⟨av_cells _ a ha, av_nu _ a ha⟩, by rw [PL_len]; have := (bX_nf dP dR hm hk hl hr).2.1; omega⟩) (b_tidy dP dR hm hk hl)
end Ab
namespace Ab
open Go Go.RowKit Go.Proofs Hp
set_option maxRecDepth 100000
def kad (x y : Ky) : Ky := (x.1 + y.1, x.2.1 + y.2.1, x.2.2 + y.2.2)
theorem lf_cg {φ ψ : Ky → Rat} : ∀ {p : List QT}, (∀ t, t ∈ p → φ t.k = ψ t.k) → qlf φ p = qlf ψ p
 | [], _ => rfl
 | t :: p, h => by rw [qlf, qlf, h t (List.mem_cons_self ..), lf_cg fun u hu => h u (List.mem_cons_of_mem _ hu)]
theorem lf_addf (φ ψ : Ky → Rat) : ∀ p : List QT, qlf (fun x => φ x + ψ x) p = qlf φ p + qlf ψ p
 | [] => (Rat.add_zero 0).symm
 | t :: p => by rw [qlf, qlf, qlf, lf_addf φ ψ p]; grind
theorem lf_scf (c : Rat) (φ : Ky → Rat) : ∀ p : List QT, qlf (fun x => c * φ x) p = c * qlf φ p
 | [] => (Rat.mul_zero c).symm
 | t :: p => by rw [qlf, qlf, lf_scf c φ p]; grind
theorem lf_prg (φ : Ky → Rat) (s : QT) : ∀ r : List QT, qlf φ (r.map (qpr s)) = s.q * qlf (fun y => φ (kad s.k y)) r
  | [] => (Rat.mul_zero _).symm
  | t :: r => by
    show (s.q * t.q) * φ (kad s.k t.k) + qlf φ (r.map (qpr s)) = s.q * (t.q * φ (kad s.k t.k) + qlf (fun y => φ (kad s.k y)) r)
    rw [lf_prg φ s r, Rat.mul_add, Rat.mul_assoc]
theorem lf_mlg (φ : Ky → Rat) (r : List QT) : ∀ p : List QT, qlf φ (qml p r) = qlf (fun x => qlf (fun y => φ (kad x y)) r) p
  | [] => rfl
  | t :: p => by
    have e : qml (t :: p) r = r.map (qpr t) ++ qml p r := by unfold qml; rw [List.flatMap_cons]
    rw [e, qlf_app, lf_prg, lf_mlg φ r p]
    rfl
theorem lf_adg (φ : Ky → Rat) (t : QT) (m d a b c : Int) : qlf φ (qad t m d a b c) = t.q * ((m : Rat) / (d : Rat)) * φ (t.a + a, t.b + b, t.c + c) := by
 unfold qad
 split
 ·rename_i h
  rw [h]
  show (0 : Rat) = _
  rw [show ((0 : Int) : Rat) = 0 from rfl]
  grind
 ·show t.q * ((m : Rat) / (d : Rat)) * φ _ + 0 = _
  rw [Rat.add_zero]
  rfl
def dst (φ : Ky → Rat) (x : Ky) : Rat :=
 (x.1 : Rat) * (1 / 12) * (φ (x.1 + 1, x.2.1, x.2.2) - φ (x.1 - 1, x.2.1 + 1, x.2.2)) + (x.2.1 : Rat) * (1 / 3) * (φ (x.1 + 1, x.2.1, x.2.2) - φ (x.1, x.2.1 - 1, x.2.2 + 1)) +
 (x.2.2 : Rat) * (1 / 2) * (φ (x.1 + 1, x.2.1, x.2.2) - φ (x.1, x.2.1 + 2, x.2.2 - 1))
theorem lf_d1g (φ : Ky → Rat) (t : QT) : qlf φ (qd1 t) = t.q * dst φ t.k := by
 obtain ⟨a, b, c, q⟩ := t
 unfold qd1 dst QT.k
 simp only [qlf_app, lf_adg]
 have j : ∀ x : Int, ((-x : Int) : Rat) = -(x : Rat) := fun x => Rat.intCast_neg x
 have k12 : ((12 : Int) : Rat) = 12 := rfl
 have k3 : ((3 : Int) : Rat) = 3 := rfl
 have k2 : ((2 : Int) : Rat) = 2 := rfl
 simp only [Int.add_zero, j, k12, k3, k2, show ∀ x : Int, x + -1 = x - 1 from fun _ => rfl]
 generalize φ (a + 1, b, c) = X
 generalize φ (a - 1, b + 1, c) = Y
 generalize φ (a, b - 1, c + 1) = Z
 generalize φ (a, b + 2, c - 1) = W
 generalize (a : Rat) = a'
 generalize (b : Rat) = b'
 generalize (c : Rat) = c'
 grind
theorem lf_dvg (φ : Ky → Rat) : ∀ p : List QT, qlf φ (qdv p) = qlf (dst φ) p
  | [] => rfl
  | t :: p => by
    have e : qdv (t :: p) = qd1 t ++ qdv p := by unfold qdv; rw [List.flatMap_cons]
    rw [e, qlf_app, lf_d1g, lf_dvg φ p, qlf]
def det (φ : Ky → Rat) (x : Ky) : Rat := 12 * (x.1 : Rat) * φ (x.1 - 1, x.2.1, x.2.2)
def wtK (x : Ky) : Int := 2 * x.1 + 4 * x.2.1 + 6 * x.2.2
theorem dst_det (φ : Ky → Rat) (x : Ky) : dst (det φ) x = det (dst φ) x + (wtK x : Rat) * φ x := by
 obtain ⟨a, b, c⟩ := x
 unfold dst det wtK
 simp only
 have e1 : ((2 * a + 4 * b + 6 * c : Int) : Rat) = 2 * (a : Rat) + 4 * (b : Rat) + 6 * (c : Rat) := by
  rw [Rat.intCast_add, Rat.intCast_add, Rat.intCast_mul, Rat.intCast_mul, Rat.intCast_mul]
  rfl
 have e2 : ((a + 1 : Int) : Rat) = (a : Rat) + 1 := by rw [Rat.intCast_add]; rfl
 have e3 : ((a - 1 : Int) : Rat) = (a : Rat) - 1 := by rw [Rat.intCast_sub]; rfl
 rw [e1, e2, e3, show a + 1 - 1 = a by omega, show a - 1 + 1 = a by omega]
 generalize φ (a, b, c) = X
 generalize φ (a - 1 - 1, b + 1, c) = Y
 generalize φ (a - 1, b - 1, c + 1) = Z
 generalize φ (a - 1, b + 2, c - 1) = W
 generalize (a : Rat) = a'
 generalize (b : Rat) = b'
 generalize (c : Rat) = c'
 grind
theorem lf_D (φ : Ky → Rat) (i : Nat) (p : List QT) : qlf φ (qD (i + 1) p) = qlf (dst φ) (qD i p) := by
 rw [qD, qlf_nf, lf_dvg]
theorem dv_wt {p : List QT} {k : Int} (h : ∀ t, t ∈ p → wtK t.k = k) : ∀ u, u ∈ qdv p → wtK u.k = k + 2 := fun u hu => by
 unfold qdv at hu
 obtain ⟨t, ht, hu⟩ := List.mem_flatMap.1 hu
 have := h t ht
 unfold qd1 at hu
 simp only [List.mem_append] at hu
 rcases hu with hu | hu | hu | hu | hu | hu <;> (obtain ⟨h0, rfl⟩ := qad_mem hu; unfold wtK QT.k at *; simp only at *; omega)
theorem nf_wt {p : List QT} {k : Int} (h : ∀ t, t ∈ p → wtK t.k = k) : ∀ u, u ∈ qnf p → wtK u.k = k := fun u hu => by
 obtain ⟨v, hv, e⟩ := qnf_key hu
 rw [← e]
 exact h v hv
theorem D_wt {p : List QT} {k : Int} (h : ∀ t, t ∈ p → wtK t.k = k) : ∀ i : Nat, ∀ u, u ∈ qD i p → wtK u.k = k + 2 * i
  | 0, u, hu => by rw [h u hu]; simp
  | i + 1, u, hu => by
    rw [nf_wt (dv_wt (D_wt h i)) u hu]
    omega
theorem del_D {p : List QT} {k : Int} (h : ∀ t, t ∈ p → wtK t.k = k) (h0 : ∀ t, t ∈ p → t.a = 0) : ∀ (i : Nat) (φ : Ky → Rat), qlf (det φ) (qD i p) = ((i * (k + i - 1) : Int) : Rat) * qlf φ (qD (i - 1) p)
  | 0, φ => by
    have e : qlf (det φ) p = qlf (fun _ => 0 * 0) p := lf_cg fun t ht => by
      unfold det QT.k
      rw [h0 t ht]
      show 12 * (0 : Rat) * _ = _
      grind
    show qlf (det φ) p = _
    rw [e, lf_scf, show (((0 : Nat) : Int) * (k + ((0 : Nat) : Int) - 1)) = 0 by simp]
    show _ = (0 : Rat) * _
    rw [Rat.zero_mul, Rat.zero_mul]
  | i + 1, φ => by
    have ih := del_D h h0 i (dst φ)
    have e : qlf (dst (det φ)) (qD i p) = qlf (fun x => det (dst φ) x + ((k + 2 * i : Int) : Rat) * φ x) (qD i p) := lf_cg fun t ht => by
      rw [dst_det, D_wt h i t ht]
    have e2 : ((i : Nat) : Int) = 0 ∨ qlf (dst φ) (qD (i - 1) p) = qlf φ (qD i p) := by
      rcases i with _ | i
      · exact .inl rfl
      · exact .inr (lf_D φ i p).symm
    rw [lf_D, e, lf_addf, lf_scf, ih, show i + 1 - 1 = i from rfl]
    have e3 : (((i + 1 : Nat) : Int) * (k + ((i + 1 : Nat) : Int) - 1)) = (i : Int) * (k + i - 1) + (k + 2 * i) := by
      rw [show ((i + 1 : Nat) : Int) = (i : Int) + 1 by omega]
      grind
    have e4 : (((i : Int) * (k + i - 1) + (k + 2 * i) : Int) : Rat) = (((i : Int) * (k + i - 1) : Int) : Rat) + ((k + 2 * i : Int) : Rat) := Rat.intCast_add ..
    rw [e3, e4, Rat.add_mul]
    rcases e2 with e2 | e2
    · rw [show (i : Int) * (k + i - 1) = 0 by rw [e2, Int.zero_mul], show ((0 : Int) : Rat) = 0 from rfl, Rat.zero_mul, Rat.zero_mul]
    · rw [e2]
def mD (φ : Ky → Rat) (p r : List QT) (i j : Nat) : Rat := qlf φ (qml (qD i p) (qD j r))
theorem det_ml {p r : List QT} {k l : Int} (hp : ∀ t, t ∈ p → wtK t.k = k) (p0 : ∀ t, t ∈ p → t.a = 0) (hr : ∀ t, t ∈ r → wtK t.k = l) (r0 : ∀ t, t ∈ r → t.a = 0) (φ : Ky → Rat) (i j : Nat) :
  mD (det φ) p r i j = ((i * (k + i - 1) : Int) : Rat) * mD φ p r (i - 1) j + ((j * (l + j - 1) : Int) : Rat) * mD φ p r i (j - 1) := by
 unfold mD
 rw [lf_mlg, lf_mlg, lf_mlg]
 have e : qlf (fun x => qlf (fun y => det φ (kad x y)) (qD j r)) (qD i p) = qlf (fun x => det (fun x' => qlf (fun y => φ (kad x' y)) (qD j r)) x + ((j * (l + j - 1) : Int) : Rat) * qlf (fun y => φ (kad x y)) (qD (j - 1) r)) (qD i p) := lf_cg fun t _ => by
  rw [← del_D hr r0 j]
  unfold det
  rw [← lf_scf, ← lf_addf]
  refine lf_cg fun u _ => ?_
  obtain ⟨a, b, c⟩ := t.k
  obtain ⟨a', b', c'⟩ := u.k
  unfold kad
  simp only
  rw [show a - 1 + a' = a + a' - 1 by omega, show a + (a' - 1) = a + a' - 1 by omega, Rat.intCast_add]
  grind
 rw [e, lf_addf, lf_scf, del_D hp p0 i]
def canc : Bool := (List.range 17).all fun k => (List.range 17).all fun l => (List.range 4).all fun n => (List.range n).all fun r => decide (fcI n r k l * (((n - r : Nat) : Int) * (l + ((n - r : Nat) : Int) - 1)) + fcI n (r + 1) k l * (((r + 1 : Nat) : Int) * (k + ((r + 1 : Nat) : Int) - 1)) = 0)
theorem canc_ok : canc = true := by decide +kernel
theorem canc_at {n r : Nat} {k l : Int} (hk : 0 ≤ k ∧ k ≤ 16) (hl : 0 ≤ l ∧ l ≤ 16) (hn : n ≤ 3) (hr : r < n) : ((fcI n r k l : Int) : Rat) * ((((n - r : Nat) : Int) * (l + ((n - r : Nat) : Int) - 1) : Int) : Rat) + ((fcI n (r + 1) k l : Int) : Rat) * ((((r + 1 : Nat) : Int) * (k + ((r + 1 : Nat) : Int) - 1) : Int) : Rat) = 0 := by
 have h1 := List.all_eq_true.1 canc_ok k.toNat (List.mem_range.2 (by omega))
 have h2 := List.all_eq_true.1 h1 l.toNat (List.mem_range.2 (by omega))
 have h3 := List.all_eq_true.1 h2 n (List.mem_range.2 (by omega))
 have h4 := of_decide_eq_true (List.all_eq_true.1 h3 r (List.mem_range.2 hr))
 rw [show ((k.toNat : Nat) : Int) = k by omega, show ((l.toNat : Nat) : Int) = l by omega] at h4
 rw [← Rat.intCast_mul, ← Rat.intCast_mul, ← Rat.intCast_add, h4]
 rfl
theorem lf_sc (φ : Ky → Rat) (c : Rat) : ∀ p : List QT, qlf φ (p.map (qsc c)) = c * qlf φ p
  | [] => (Rat.mul_zero c).symm
  | t :: p => by
    show (c * t.q) * φ t.k + qlf φ (p.map (qsc c)) = c * (t.q * φ t.k + qlf φ p)
    rw [lf_sc φ c p, Rat.mul_add, Rat.mul_assoc]
theorem lf_bX (φ : Ky → Rat) (n : Nat) (k l : Int) (p r : List QT) (i : Nat) : qlf φ (bX n k l p r i) = ((fcI n i k l : Int) : Rat) * mD φ p r i (n - i) := by
 unfold bX mD
 rw [lf_sc, qlf_nf]
theorem lf_bW (φ : Ky → Rat) (n : Nat) (k l : Int) (p r : List QT) : ∀ m, qlf φ (bW n k l p r m) = su (fun i => ((fcI n i k l : Int) : Rat) * mD φ p r i (n - i)) m
 | 0 => rfl
 | m + 1 => by rw [bW_s, qlf_app, lf_bW φ n k l p r m, lf_bX, su]
theorem det_bW {n : Nat} {k l : Int} {p r : List QT} (hn : n ≤ 3) (hk : 0 ≤ k ∧ k ≤ 16) (hl : 0 ≤ l ∧ l ≤ 16) (hp : ∀ t, t ∈ p → wtK t.k = k) (p0 : ∀ t, t ∈ p → t.a = 0) (hr : ∀ t, t ∈ r → wtK t.k = l) (r0 : ∀ t, t ∈ r → t.a = 0) (φ : Ky → Rat) : qlf (det φ) (bW n k l p r (n + 1)) = 0 := by
 rw [lf_bW]
 have e : ∀ i, mD (det φ) p r i (n - i) = ((i * (k + i - 1) : Int) : Rat) * mD φ p r (i - 1) (n - i) + (((n - i : Nat) * (l + (n - i : Nat) - 1) : Int) : Rat) * mD φ p r i (n - i - 1) := fun i => det_ml hp p0 hr r0 φ i (n - i)
 rw [su_congr fun i _ => by rw [e i]]
 have z : ((((0 : Nat) : Int) * (k + ((0 : Nat) : Int) - 1) : Int) : Rat) = 0 := by rw [show ((0 : Nat) : Int) = 0 from rfl, Int.zero_mul]; rfl
 have z' : ((((0 : Nat) : Int) * (l + ((0 : Nat) : Int) - 1) : Int) : Rat) = 0 := by rw [show ((0 : Nat) : Int) = 0 from rfl, Int.zero_mul]; rfl
 obtain rfl | rfl | rfl | rfl : n = 0 ∨ n = 1 ∨ n = 2 ∨ n = 3 := by omega
 ·simp only [su, Nat.sub_self, z, z']
  grind
 ·have c0 := canc_at hk hl hn (r := 0) (by decide)
  simp only [su, Nat.sub_self, z, z', Nat.sub_zero, show 1 - 1 = 0 from rfl, show 0 + 1 = 1 from rfl] at c0 ⊢
  grind
 ·have c0 := canc_at hk hl hn (r := 0) (by decide)
  have c1 := canc_at hk hl hn (r := 1) (by decide)
  simp only [su, Nat.sub_self, z, z', Nat.sub_zero, show 1 - 1 = 0 from rfl, show 2 - 1 = 1 from rfl, show 0 + 1 = 1 from rfl, show 1 + 1 = 2 from rfl] at c0 c1 ⊢
  grind
 ·have c0 := canc_at hk hl hn (r := 0) (by decide)
  have c1 := canc_at hk hl hn (r := 1) (by decide)
  have c2 := canc_at hk hl hn (r := 2) (by decide)
  simp only [su, Nat.sub_self, z, z', Nat.sub_zero, show 1 - 1 = 0 from rfl, show 2 - 1 = 1 from rfl, show 3 - 1 = 2 from rfl, show 3 - 2 = 1 from rfl, show 0 + 1 = 1 from rfl, show 1 + 1 = 2 from rfl, show 2 + 1 = 3 from rfl] at c0 c1 c2 ⊢
  grind
def indK (κ : Ky) (x : Ky) : Rat := if x = κ then 1 else 0
theorem lf_ind (κ : Ky) : ∀ p : List QT, qlf (indK κ) p = qco p κ
  | [] => rfl
  | t :: p => by
    rw [qlf, qco, lf_ind κ p]
    unfold indK
    split
    · rw [Rat.mul_one]
    · rw [Rat.mul_zero]
theorem det_ind (a b c : Int) : ∀ p : List QT, qlf (det (indK (a - 1, b, c))) p = 12 * (a : Rat) * qco p (a, b, c)
  | [] => (Rat.mul_zero _).symm
  | t :: p => by
    rw [qlf, qco, det_ind a b c p]
    obtain ⟨ta, tb, tc, q⟩ := t
    unfold det indK QT.k
    simp only [Prod.mk.injEq]
    by_cases h : ta = a ∧ tb = b ∧ tc = c
    · obtain ⟨rfl, rfl, rfl⟩ := h
      rw [if_pos ⟨rfl, rfl, rfl⟩, if_pos ⟨rfl, rfl, rfl⟩]
      generalize (ta : Rat) = x
      grind
    · rw [if_neg (by omega), if_neg h]
      grind
theorem bW_depth {n : Nat} {k l : Int} {p r : List QT} (hn : n ≤ 3) (hk : 0 ≤ k ∧ k ≤ 16) (hl : 0 ≤ l ∧ l ≤ 16) (hp : ∀ t, t ∈ p → wtK t.k = k) (p0 : ∀ t, t ∈ p → t.a = 0) (hr : ∀ t, t ∈ r → wtK t.k = l) (r0 : ∀ t, t ∈ r → t.a = 0) : ∀ t, t ∈ qnf (bW n k l p r (n + 1)) → t.a = 0 := fun t ht => by
 have h := det_bW hn hk hl hp p0 hr r0 (indK (t.a - 1, t.b, t.c))
 have hc : qco (qnf (bW n k l p r (n + 1))) (t.a, t.b, t.c) = t.q := qn_co (qnf_n _) t ht
 rw [det_ind, ← qnf_co, hc] at h
 have hq := qn_ne (qnf_n _) t ht
 by_cases h0 : t.a = 0
 ·exact h0
 ·exfalso
  have ha : (t.a : Rat) ≠ 0 := fun e => h0 (by
   have : (t.a : Rat) = ((0 : Int) : Rat) := e
   exact Rat.intCast_inj.1 this)
  rcases Rat.mul_eq_zero.1 h with h | h
  ·rcases Rat.mul_eq_zero.1 h with h | h
   ·exact absurd h (by decide)
   ·exact ha h
  ·exact hq h
theorem mD_comm (κ : Ky) (p r : List QT) (i j : Nat) : mD (indK κ) p r i j = mD (indK κ) r p j i := by
 unfold mD
 rw [lf_ind, lf_ind, qml_comm]
theorem bW_swap {n : Nat} (hn : n ≤ 3) (k l : Int) (p r : List QT) (κ : Ky) : (if n % 2 = 0 then (1 : Rat) else -1) * qco (bW n l k r p (n + 1)) κ = qco (bW n k l p r (n + 1)) κ := by
 rw [← lf_ind, ← lf_ind, lf_bW, lf_bW]
 have e : ∀ i, mD (indK κ) r p i (n - i) = mD (indK κ) p r (n - i) i := fun i => mD_comm κ r p i (n - i)
 rw [su_congr (f := fun i => ((fcI n i l k : Int) : Rat) * mD (indK κ) r p i (n - i)) fun i _ => by rw [e i]]
 have f : ∀ i, i ≤ n → (if n % 2 = 0 then (1 : Rat) else -1) * ((fcI n i l k : Int) : Rat) = ((fcI n (n - i) k l : Int) : Rat) := fun i hi => by
  unfold fcI
  rw [show n - (n - i) = i by omega, Int.mul_comm (bnG ((n : Int) + k - 1) i)]
  generalize bnG ((n : Int) + l - 1) (n - i) * bnG ((n : Int) + k - 1) i = z
  have em : ((-z : Int) : Rat) = -(z : Rat) := Rat.intCast_neg z
  by_cases h1 : n % 2 = 0 <;> by_cases h2 : i % 2 = 0
  ·rw [if_pos h1, if_pos h2, if_pos (by omega), Rat.one_mul]
  ·rw [if_pos h1, if_neg h2, if_neg (by omega), Rat.one_mul]
  ·rw [if_neg h1, if_pos h2, if_neg (by omega), em]; grind
  ·rw [if_neg h1, if_neg h2, if_pos (by omega), em]; grind
 rw [← su_mul, su_congr (g := fun i => ((fcI n (n - i) k l : Int) : Rat) * mD (indK κ) p r (n - i) i) fun i hi => by rw [← Rat.mul_assoc, f i (by omega)]]
 have s := su_rev (fun i => ((fcI n i k l : Int) : Rat) * mD (indK κ) p r i (n - i)) (n + 1)
 rw [← s]
 exact su_congr fun i hi => by
  rw [show n + 1 - 1 - i = n - i by omega, show n - (n - i) = i by omega]
theorem bW_zero (k l : Int) (p r : List QT) (κ : Ky) : qco (bW 0 k l p r 1) κ = qco (qml p r) κ := by
 rw [← lf_ind, ← lf_ind, lf_bW, su, su, Rat.zero_add]
 have e : fcI 0 0 k l = 1 := rfl
 rw [e]
 show (1 : Rat) * mD (indK κ) p r 0 0 = _
 rw [Rat.one_mul]
 rfl
end Ab
namespace Ab
open Go Go.RowKit Go.Proofs Hp
set_option maxRecDepth 100000
theorem seq_ex {α : Type} (Q : Nat → α → Prop) (S : Nat → α → α → Prop) (x0 : α) (h0 : Q 0 x0) : ∀ N : Nat, (∀ r, r < N → ∀ x, Q r x → ∃ y, S r x y ∧ Q (r + 1) y) → ∃ O : Nat → α, O 0 = x0 ∧ (∀ r, r ≤ N → Q r (O r)) ∧ ∀ r, r < N → S r (O r) (O (r + 1))
  | 0, _ => ⟨fun _ => x0, rfl, fun r hr => (show 0 = r by omega) ▸ h0, fun r hr => absurd hr (by omega)⟩
  | N + 1, h => by
    obtain ⟨O, e, h1, h2⟩ := seq_ex Q S x0 h0 N fun r hr => h r (by omega)
    obtain ⟨y, hy, hq⟩ := h N (by omega) (O N) (h1 N (Nat.le_refl _))
    have o1 : ∀ i, i ≤ N → (fun i => if i ≤ N then O i else y) i = O i := fun i hi => if_pos hi
    have o2 : (fun i => if i ≤ N then O i else y) (N + 1) = y := if_neg (by omega)
    generalize (fun i => if i ≤ N then O i else y) = O' at o1 o2
    refine ⟨O', by rw [o1 0 (Nat.zero_le _)]; exact e, fun r hr => ?_, fun r hr => ?_⟩
    · by_cases hl : r ≤ N
      · rw [o1 r hl]; exact h1 r hl
      · obtain rfl : r = N + 1 := by omega
        rw [o2]; exact hq
    · rw [o1 r (by omega)]
      by_cases hl : r + 1 ≤ N
      · rw [o1 (r + 1) hl]; exact h2 r (by omega)
      · obtain rfl : r = N := by omega
        rw [o2]; exact hy
def thG (f : Nat → Rat) : Nat → Nat → Rat
 | 0 => f
 | i + 1 => fun n => (n : Rat) * thG f i n
theorem FS.iter {x : Sr} {P K N : Nat} {f : Nat → Rat} (hx : FS x P f K) (hp : x.1 + x.2.length = P) (hK : 1 ≤ K) (hN : K + N ≤ 268435456) : ∃ F : Nat → Sr, F 0 = x ∧ (∀ r, r ≤ N → FS (F r) P (thG f r) (K + r) ∧ (F r).1 + (F r).2.length = P) ∧ ∀ r, r < N → PC Tryz.prog 14 [serA (F r).1 ((F r).2.map encQ)] (.tup [serA (F (r + 1)).1 ((F (r + 1)).2.map encQ), iV 0]) :=
 seq_ex (fun r y => FS y P (thG f r) (K + r) ∧ y.1 + y.2.length = P) (fun _ y z => PC Tryz.prog 14 [serA y.1 (y.2.map encQ)] (.tup [serA z.1 (z.2.map encQ), iV 0])) x ⟨hx, hp⟩ N fun r hr y hy => by
  obtain ⟨z, c, hz, zp⟩ := hy.1.theta ⟨by omega, by omega⟩
  exact ⟨z, c, hz, by rw [zp, hy.2]⟩
theorem mon0_p {p : Nat} (hp : p ≤ 1000) : PC Tryz.prog 29 [encQ 0, iV 0, iV (p : Nat)] (.tup [serA (p : Nat) [], iV 0]) := by
 have m0 := monomial_p (a := encQ 0) (c := 0) (K := 1) (n := 0) (p := p) (isV_encQ (ht0 (by decide))) (by decide)
 rw [mon_zero hp] at m0
 exact m0
def kO (K : Nat) : Nat → Nat
 | 0 => K
 | r + 1 => 2 * kO K r + 2
theorem kO_le (K : Nat) : ∀ r, K ≤ kO K r
 | 0 => Nat.le_refl _
 | r + 1 => by have := kO_le K r; rw [kO]; omega
def brF (n : Nat) (k l : Int) (f g : Nat → Rat) (r : Nat) (m : Nat) : Rat := su (fun i => ((fcI n i k l : Int) : Rat) * nc (thG f i) (thG g (n - i)) m) r
set_option maxHeartbeats 4000000 in
theorem FS.bracket {x y : Sr} {P K : Nat} {f g : Nat → Rat} {n : Nat} {k l : Int} (hx : FS x P f K) (hy : FS y P g K) (xp : x.1 + x.2.length = P) (yp : y.1 + y.2.length = P) (hP : P ≤ 12) (hK : 1 ≤ K ∧ K ≤ 1000) (hn : n ≤ 3) (hk : 0 ≤ k ∧ k ≤ 60) (hl : 0 ≤ l ∧ l ≤ 60) :
  ∃ z : Sr, PC Tryz.prog 23 [wA x.1 (x.2.map encQ) k, wA y.1 (y.2.map encQ) l, iV n] (.tup [serA z.1 (z.2.map encQ), iV 0]) ∧ FS z P (brF n k l f g (n + 1)) 2000000 := by
 obtain ⟨c1, h1, p1⟩ := hx.nor ⟨hK.1, by omega⟩
 obtain ⟨c2, h2, p2⟩ := hy.nor ⟨hK.1, by omega⟩
 obtain ⟨F, F0, hF, cF⟩ := h1.iter (N := n) (by rw [p1, xp]) hK.1 (by omega)
 obtain ⟨G, G0, hG, cG⟩ := h2.iter (N := n) (by rw [p2, yp]) hK.1 (by omega)
 have pr : ∀ r, r ≤ n → ∃ z : Sr, PC Tryz.prog 12 [serA (F r).1 ((F r).2.map encQ), serA (G (n - r)).1 ((G (n - r)).2.map encQ)] (.tup [serA z.1 (z.2.map encQ), iV 0]) ∧ FS z P (nc (thG f r) (thG g (n - r))) 26000 ∧ z.1 + z.2.length ≤ 1000 := fun r hr => by
  obtain ⟨a1, a2⟩ := hF r hr
  obtain ⟨b1, b2⟩ := hG (n - r) (by omega)
  have la := lead_le (F r).2
  have lb := lead_le (G (n - r)).2
  have a0 := a1.b
  have b0 := b1.b
  obtain ⟨z, c, hz, zp⟩ := (a1.mono (K' := 1010) (by omega)).mul (N := 12) (b1.mono (K' := 1010) (by omega)) (by decide) (by omega) (by omega)
  exact ⟨z, c, hz.mono (by decide), by omega⟩
 obtain ⟨a1, a2⟩ := hF 0 (Nat.zero_le _)
 obtain ⟨b1, b2⟩ := hG 0 (Nat.zero_le _)
 have la := lead_le (F 0).2
 have lb := lead_le (G 0).2
 have a0 := a1.b
 have b0 := b1.b
 obtain ⟨w, c3, hw, wp⟩ := (a1.mono (K' := 1010) (by omega)).mul (N := 12) (b1.mono (K' := 1010) (by omega)) (by decide) (by omega) (by omega)
 obtain ⟨pn, hpn⟩ : ∃ pn : Nat, w.1 + w.2.length = (pn : Int) := ⟨(w.1 + w.2.length).toNat, by have := hw.b; omega⟩
 have pn0 := hw.p
 have pn1 : pn ≤ 1000 := by omega
 have cp := sprec_p (s := w.1) (es := w.2.map encQ) (inR_enc hw.v)
 have ev : ValidP w.1 (w.2.map encQ).length = true := by rw [List.length_map]; exact hw.v
 rw [ev, if_pos rfl, if_pos rfl, List.length_map, hpn] at cp
 have sc : ∀ r, ∃ q : Sr × Sr, r ≤ n → PC Tryz.prog 12 [serA (F r).1 ((F r).2.map encQ), serA (G (n - r)).1 ((G (n - r)).2.map encQ)] (.tup [serA q.1.1 (q.1.2.map encQ), iV 0]) ∧ PC Tryz.prog 48 [encQ ((fcI n r k l : Int) : Rat), serA q.1.1 (q.1.2.map encQ)] (.tup [serA q.2.1 (q.2.2.map encQ), iV 0]) ∧ FS q.2 P (fun m => ((fcI n r k l : Int) : Rat) * nc (thG f r) (thG g (n - r)) m) 27000 := fun r => by
  by_cases hr : r ≤ n
  ·obtain ⟨z, c, hz, -⟩ := pr r hr
   obtain ⟨u, d, hu, -⟩ := hz.scale (ht_big (fcI_le (by omega) hr hk hl).2) (by decide) (by decide) (by decide)
   exact ⟨(z, u), fun _ => ⟨c, d, hu.mono (by decide)⟩⟩
  ·exact ⟨(x, x), fun h => absurd h hr⟩
 obtain ⟨Z, hZ⟩ := Classical.axiomOfChoice sc
 have kb : ∀ r, r ≤ 4 → kO 27000 r ≤ 500000 := by decide
 have h0 : FS ((pn : Int), []) P (brF n k l f g 0) (kO 27000 0) := ⟨valid_iff.2 ⟨by show (-100 : Int) ≤ pn; omega, by show (pn : Int) ≤ 1000; omega, by show (0 : Int) ≤ 1000 - pn; omega⟩, by show (P : Int) ≤ (pn : Int) + 0; omega, by show (0 : Int) ≤ pn; omega, fun q h => (by cases h), fun m hm => by rw [cf_lt (show (m : Int) < (pn : Int) by omega)]; rfl⟩
 obtain ⟨O, O0, hO, cO⟩ := seq_ex (fun r y => FS y P (brF n k l f g r) (kO 27000 r)) (fun r y z => PC Tryz.prog 11 [serA y.1 (y.2.map encQ), serA (Z r).2.1 ((Z r).2.2.map encQ)] (.tup [serA z.1 (z.2.map encQ), iV 0])) ((pn : Int), []) h0 (n + 1) fun r hr y hy => by
  have k1 := kb r (by omega)
  have k2 := kO_le 27000 r
  obtain ⟨z, c, hz⟩ := hy.add ((hZ r (by omega)).2.2.mono k2) ⟨by omega, by omega⟩
  exact ⟨z, c, hz⟩
 have m0 := mon0_p pn1
 rw [← F0] at c1
 rw [← G0] at c2
 refine ⟨O (n + 1), ?_, (hO (n + 1) (Nat.le_refl _)).mono (by have := kb (n + 1) (by omega); omega)⟩
 refine qbs_core (by omega) (f := fun i => ((F i).1, (F i).2.map encQ)) (g := fun i => ((G i).1, (G i).2.map encQ)) (o := fun r => ((O r).1, (O r).2.map encQ)) (m := fun r => ((Z r).1.1, (Z r).1.2.map encQ)) (z := fun r => ((Z r).2.1, (Z r).2.2.map encQ)) (b1 := fun r => bnG ((n : Int) + k - 1) (n - r)) (b2 := fun r => bnG ((n : Int) + l - 1) r) (q := fun r => ((fcI n r k l : Int) : Rat))
  hk hl c1 c2 c3 cp cF cG (rof_p 0 (by decide) (by decide)) (by rw [O0]; exact m0)
  (fun r hr => by
   have c := qbin_p (m := (n : Int) + k - 1) (s := n - r) (by omega) (by omega) (by omega)
   rw [show ((n - r : Nat) : Int) = (n : Int) - r by omega] at c
   exact c) (fun r hr => qbin_p (m := (n : Int) + l - 1) (s := r) (by omega) (by omega) (by omega))
  (fun r hr => (fcI_le (by omega) hr hk hl).1) (fun r hr => by
   have := (fcI_le (m := n) (r := r) (k := k) (l := l) (by omega) hr hk hl).2
   exact rof_p (fcI n r k l) (by omega) (by omega)) (fun r hr => (hZ r hr).1) (fun r hr => (hZ r hr).2.1) (fun r hr => cO r (by omega))
theorem len_le {α : Type} [DecidableEq α] : ∀ (l S : List α), l.Pairwise (fun x y => x ≠ y) → (∀ x, x ∈ l → x ∈ S) → l.length ≤ S.length
  | [], S, _, _ => Nat.zero_le _
  | x :: l, S, h, hs => by
    have hx := hs x (List.mem_cons_self ..)
    obtain ⟨h1, h2⟩ := List.pairwise_cons.1 h
    have ih := len_le l (S.erase x) h2 fun y hy => (List.mem_erase_of_ne (h1 y hy).symm).2 (hs y (List.mem_cons_of_mem _ hy))
    rw [List.length_erase_of_mem hx] at ih
    have : 0 < S.length := List.length_pos_of_mem hx
    rw [List.length_cons]
    omega
def keyS : List (Nat × Nat) := (List.range 10).flatMap fun b => (List.range 7).map fun c => (b, c)
theorem few_terms {R : List QT} {w : Int} (hd : QD R) (hw : w ≤ 38) (h : ∀ t, t ∈ R → Nn t ∧ wtK t.k = w) : R.length ≤ 70 := by
 have hl : (R.map fun t => (t.b.toNat, t.c.toNat)).length ≤ keyS.length := by
  refine len_le _ _ ?_ fun x hx => ?_
  ·rw [List.pairwise_map]
   refine List.Pairwise.imp_of_mem (fun {t u} ht hu hk he => ?_) hd
   obtain ⟨t1, t2⟩ := h t ht
   obtain ⟨u1, u2⟩ := h u hu
   unfold Nn at t1 u1
   unfold wtK QT.k at t2 u2
   simp only [Prod.mk.injEq] at he t2 u2
   refine kl_ne hk ?_
   unfold QT.k
   rw [show t.a = u.a by omega, show t.b = u.b by omega, show t.c = u.c by omega]
  ·obtain ⟨t, ht, rfl⟩ := List.mem_map.1 hx
   obtain ⟨t1, t2⟩ := h t ht
   unfold Nn at t1
   unfold wtK QT.k at t2
   simp only at t2
   exact List.mem_flatMap.2 ⟨t.b.toNat, List.mem_range.2 (by omega), List.mem_map.2 ⟨t.c.toNat, List.mem_range.2 (by omega), rfl⟩⟩
 rw [List.length_map] at hl
 exact hl
theorem lf_thG {P : List QT} (h : ∀ t, t ∈ P → Nn t) (hd : ∀ i, ∀ t, t ∈ qD i P → Nn t) : ∀ (i n : Nat), n ≤ 12 → qlf (xP n) (qD i P) = thG (fun m => qlf (xP m) P) i n
  | 0, n, _ => rfl
  | i + 1, n, hn => by
    rw [qD, qlf_nf, lf_dv hn _ (hd i), lf_thG h hd i n hn]
    rfl
theorem D_nn {P : List QT} (h : ∀ t, t ∈ P → Nn t) : ∀ i, ∀ t, t ∈ qD i P → Nn t
  | 0, t, ht => h t ht
  | i + 1, t, ht => by
    obtain ⟨u, hu, e⟩ := qnf_key ht
    unfold qdv at hu
    obtain ⟨v, hv, hu⟩ := List.mem_flatMap.1 hu
    have hv := D_nn h i v hv
    unfold Nn at *
    simp only [QT.k, Prod.mk.injEq] at e
    unfold qd1 at hu
    simp only [List.mem_append] at hu
    rcases hu with hu | hu | hu | hu | hu | hu <;> (obtain ⟨h0, rfl⟩ := qad_mem hu; simp only at e h0; omega)
theorem lf_bracket {n : Nat} {k l : Int} {P R : List QT} (hP : ∀ t, t ∈ P → Nn t) (hR : ∀ t, t ∈ R → Nn t) {m : Nat} (hm : m ≤ 12) : qlf (xP m) (bW n k l P R (n + 1)) = brF n k l (fun i => qlf (xP i) P) (fun i => qlf (xP i) R) (n + 1) m := by
 rw [lf_bW]
 unfold brF
 refine su_congr fun i hi => ?_
 congr 1
 unfold mD
 rw [lf_ml m (D_nn hR (n - i)) _ (D_nn hP i)]
 exact nc_cg (fun j hj => lf_thG hP (D_nn hP) i j (by omega)) fun j hj => lf_thG hR (D_nn hR) (n - i) j (by omega)
theorem bW_mem {n m : Nat} {k l : Int} {P R : List QT} (hP : ∀ t, t ∈ P → Nn t ∧ wtK t.k = k) (hR : ∀ t, t ∈ R → Nn t ∧ wtK t.k = l) (hm : m ≤ n + 1) : ∀ t, t ∈ bW n k l P R m → Nn t ∧ wtK t.k = k + l + 2 * n := fun t ht => by
 unfold bW at ht
 obtain ⟨r, hr, ht⟩ := List.mem_flatMap.1 ht
 have hr := List.mem_range.1 hr
 unfold bX at ht
 obtain ⟨u, hu, rfl⟩ := List.mem_map.1 ht
 obtain ⟨v, hv, e⟩ := qnf_key hu
 obtain ⟨x, y, hx, hy, rfl⟩ := qml_mem hv
 have x1 := D_nn (fun t h => (hP t h).1) r x hx
 have y1 := D_nn (fun t h => (hR t h).1) (n - r) y hy
 have x2 := D_wt (fun t h => (hP t h).2) r x hx
 have y2 := D_wt (fun t h => (hR t h).2) (n - r) y hy
 unfold Nn wtK QT.k qpr qsc at *
 simp only [Prod.mk.injEq] at e x2 y2 ⊢
 omega
end Ab
namespace Ab
open Go Go.RowKit Go.Proofs Hp
set_option maxRecDepth 100000
def dpQ (U : List QE) : Int := U.foldl (fun m e => max m e.a) 0
set_option maxHeartbeats 8000000 in
theorem qH_ok {X : List AV} {U : List QE} (hU : U.length ≤ 1000000) (hv : PC Tryz.prog 28 [.sl X] (bV true)) (ht : PC Tryz.prog 32 [.sl X] (.sl (U.map QE.av))) : PC Tryz.prog 22 [.sl X] (.tup [iV (dpQ U), iV 0]) := by
 have hl := av_len U
 obtain ⟨Z, hZ⟩ : ∃ Z, Z = U.map QE.av := ⟨_, rfl⟩
 rw [← hZ] at hl ht
 refine pc_body2 true Tryz.func22 rfl rfl rfl (Nat.le_of_ble_eq_true rfl) CellT.tmp CellT.tmp ?_
 refine goA ?_
 refine evG ggA (ss_call (InB_of rfl) rfl rfl hv) ?_
 refine goA ?_
 refine evG ggA (ss_call (InB_of rfl) rfl rfl ht) ?_
 refine goA ?_
 refine T.loop (fun N s1 => ∃ A B : List QE, U = A ++ B ∧ N = B.length ∧ s1 = mkS [(4, .v (iV (dpQ A))), (11, .v (.sl Z)), (12, .v (iV (Z.length : Nat))), (13, .v (iV A.length))] [] 23 true) U.length
  (s' := mkS [(4, .v (iV 0)), (11, .v (.sl Z)), (12, .v (iV (Z.length : Nat))), (13, .v (iV ((0 : Nat) : Int)))] [] 23 true) (by exact entA) ⟨[], U, rfl, rfl, rfl⟩ ?_
 rintro _ _ ⟨A, B, hAB, rfl, rfl⟩
 have hlA : U.length = A.length + B.length := by rw [hAB]; simp
 rcases B with _ | ⟨e, B⟩
 ·have b1 : decide ((A.length : Int) < (Z.length : Nat)) = false := decide_eq_false (by simp at hlA; omega)
  rw [List.append_nil] at hAB
  subst hAB
  refine goA ?_
  exact rfl
 have b1 : decide ((A.length : Int) < (Z.length : Nat)) = true := decide_eq_true (by simp at hlA; omega)
 have hget : Z[((A.length : Nat) : Int).toNat]? = some e.av := by rw [hZ, hAB]; exact av_get (by omega)
 have ht : max (dpQ A) e.a = dpQ (A ++ [e]) := by unfold dpQ; rw [List.foldl_append]; rfl
 have hnx : ((A.length : Nat) : Int) + 1 = ((A ++ [e]).length : Nat) := by simp
 have hAB2 : U = (A ++ [e]) ++ B := by rw [hAB]; simp
 have hlB : B.length < (e :: B).length := by simp
 clear hAB
 obtain ⟨a, b, c, g, d, g', d', q⟩ := e
 simp only [List.length_cons] at hlA ht
 have hget : Z[((A.length : Nat) : Int).toNat]? = some (.agg [iV a, iV b, iV c, .p (.bool g), .sl d, .p (.bool g'), .sl d']) := hget
 refine goA ?_
 refine evG ggA (ss_index_sl (InB_of rfl) (elem_tab rfl) rfl rfl (by omega) hget rfl) ?_
 refine goA ?_
 rw [ht]
 refine goA ?_
 rw [hnx]
 exact loopQ_intro (k := B.length) (s' := mkS [(4, .v (iV (dpQ (A ++ [⟨a, b, c, g, d, g', d', q⟩])))), (11, .v (.sl Z)), (12, .v (iV (Z.length : Nat))), (13, .v (iV ((A ++ [(⟨a, b, c, g, d, g', d', q⟩ : QE)]).length : Nat)))] [] 23 true) hlB (by exact entA) ⟨A ++ [⟨a, b, c, g, d, g', d', q⟩], B, hAB2, rfl, rfl⟩
theorem lbr_aw {X Y : List AV} {n : Int} {b c : Bool} (hx : PC Tryz.prog 5 [.sl X, iV 16] (bV b)) (hy : PC Tryz.prog 5 [.sl Y, iV 16] (bV c)) (h : b = false ∨ c = false ∨ n < 0 ∨ n > 3) : PC Tryz.prog 4 [.sl X, .sl Y, iV n] (bV true) := by
  have aw := q38awake_p
  cases b with
  | false =>
    refine pc_body1 true Tryz.func4 rfl rfl rfl (Nat.le_of_ble_eq_true rfl) CellT.tmp ?_
    refine goA ?_
    refine evG ggA (ss_call (InB_of rfl) rfl rfl hx) ?_
    refine goA ?_
    refine evG ggA (ss_call (InB_of rfl) rfl rfl aw) ?_
    refine goA ?_
    exact rfl
  | true =>
  cases c with
  | false =>
    refine pc_body1 true Tryz.func4 rfl rfl rfl (Nat.le_of_ble_eq_true rfl) CellT.tmp ?_
    refine goA ?_
    refine evG ggA (ss_call (InB_of rfl) rfl rfl hx) ?_
    refine goA ?_
    refine evG ggA (ss_call (InB_of rfl) rfl rfl hy) ?_
    refine goA ?_
    refine evG ggA (ss_call (InB_of rfl) rfl rfl aw) ?_
    refine goA ?_
    exact rfl
  | true =>
  have h : n < 0 ∨ n > 3 := by simpa using h
  by_cases h0 : n < 0
  · have b1 : decide (n < 0) = true := decide_eq_true h0
    refine pc_body1 true Tryz.func4 rfl rfl rfl (Nat.le_of_ble_eq_true rfl) CellT.tmp ?_
    refine goA ?_
    refine evG ggA (ss_call (InB_of rfl) rfl rfl hx) ?_
    refine goA ?_
    refine evG ggA (ss_call (InB_of rfl) rfl rfl hy) ?_
    refine goA ?_
    refine evG ggA (ss_call (InB_of rfl) rfl rfl aw) ?_
    refine goA ?_
    exact rfl
  · have b1 : decide (n < 0) = false := decide_eq_false h0
    have b2 : decide (n > 3) = true := decide_eq_true (by omega)
    refine pc_body1 true Tryz.func4 rfl rfl rfl (Nat.le_of_ble_eq_true rfl) CellT.tmp ?_
    refine goA ?_
    refine evG ggA (ss_call (InB_of rfl) rfl rfl hx) ?_
    refine goA ?_
    refine evG ggA (ss_call (InB_of rfl) rfl rfl hy) ?_
    refine goA ?_
    refine evG ggA (ss_call (InB_of rfl) rfl rfl aw) ?_
    refine goA ?_
    exact rfl
theorem lbr_err {X Y : List AV} {n k l e f : Int} (hn : 0 ≤ n ∧ n ≤ 3) (hx : PC Tryz.prog 5 [.sl X, iV 16] (bV true)) (hy : PC Tryz.prog 5 [.sl Y, iV 16] (bV true)) (w1 : PC Tryz.prog 15 [.sl X] (.tup [iV k, iV e])) (w2 : PC Tryz.prog 15 [.sl Y] (.tup [iV l, iV f])) (h : e ≠ 0 ∨ f ≠ 0) : PC Tryz.prog 4 [.sl X, .sl Y, iV n] (bV true) := by
 have aw := q38awake_p
 have b1 : decide (n < 0) = false := decide_eq_false (by omega)
 have b2 : decide (n > 3) = false := decide_eq_false (by omega)
 by_cases he : e = 0
 ·subst he
  have b3 : (f != 0) = true := by simpa using h
  refine pc_body1 true Tryz.func4 rfl rfl rfl (Nat.le_of_ble_eq_true rfl) CellT.tmp ?_
  refine goA ?_
  refine evG ggA (ss_call (InB_of rfl) rfl rfl hx) ?_
  refine goA ?_
  refine evG ggA (ss_call (InB_of rfl) rfl rfl hy) ?_
  refine goA ?_
  refine evG ggA (ss_call (InB_of rfl) rfl rfl w1) ?_
  refine goA ?_
  refine evG ggA (ss_call (InB_of rfl) rfl rfl w2) ?_
  refine goA ?_
  refine evG ggA (ss_call (InB_of rfl) rfl rfl aw) ?_
  refine goA ?_
  exact rfl
 ·have b3 : (e != 0) = true := by simp [he]
  refine pc_body1 true Tryz.func4 rfl rfl rfl (Nat.le_of_ble_eq_true rfl) CellT.tmp ?_
  refine goA ?_
  refine evG ggA (ss_call (InB_of rfl) rfl rfl hx) ?_
  refine goA ?_
  refine evG ggA (ss_call (InB_of rfl) rfl rfl hy) ?_
  refine goA ?_
  refine evG ggA (ss_call (InB_of rfl) rfl rfl w1) ?_
  refine goA ?_
  refine evG ggA (ss_call (InB_of rfl) rfl rfl w2) ?_
  refine goA ?_
  refine evG ggA (ss_call (InB_of rfl) rfl rfl aw) ?_
  refine goA ?_
  exact rfl
section
variable {X Y R0 R1 M : List AV} {n k l a b u v c d w tm : Int} {A B U V : List AV} {q : Rat} (hn : 0 ≤ n ∧ n ≤ 3) (htm : n.tmod 2 = tm) (tm2 : 0 ≤ tm ∧ tm ≤ 1) (hx : PC Tryz.prog 5 [.sl X, iV 16] (bV true)) (hy : PC Tryz.prog 5 [.sl Y, iV 16] (bV true))
 (w1 : PC Tryz.prog 15 [.sl X] (.tup [iV k, iV 0])) (w2 : PC Tryz.prog 15 [.sl Y] (.tup [iV l, iV 0])) (c1 : PC Tryz.prog 18 [.sl X, .sl Y, iV n] (.tup [.sl R0, iV 0])) (c2 : PC Tryz.prog 18 [.sl Y, .sl X, iV n] (.tup [.sl R1, iV 0])) (c3 : PC Tryz.prog 20 [iV (1 - 2 * tm)] (encQ q)) (c4 : PC Tryz.prog 19 [encQ q, .sl R1] (.tup [.sl R0, iV 0])) (c5 : PC Tryz.prog 9 [.sl X, .sl Y] (.tup [.sl M, iV 0])) (s1 : PC Tryz.prog 21 [.sl R0, .sl R0] (bV true)) (d1 : PC Tryz.prog 22 [.sl X] (.tup [iV c, iV 0])) (d2 : PC Tryz.prog 22 [.sl Y] (.tup [iV d, iV 0])) (d3 : PC Tryz.prog 22 [.sl R0] (.tup [iV w, iV 0])) (e1 : PC Tryz.prog 7 [.sl X, iV 6] (.tup [serA a A, iV 0])) (e2 : PC Tryz.prog 7 [.sl Y, iV 6] (.tup [serA b B, iV 0])) (e3 : PC Tryz.prog 7 [.sl R0, iV 6] (.tup [serA u U, iV 0])) (e4 : PC Tryz.prog 23 [wA a A k, wA b B l, iV n] (.tup [serA v V, iV 0])) (g : PC Tryz.prog 13 [serA u U, iV 0, serA v V, iV 0] (bV true))
include hn htm tm2 hx hy w1 w2 c1 c2 c3 c4 c5 s1 d1 d2 d3 e1 e2 e3 e4 g
set_option maxHeartbeats 32000000 in
theorem lbr_pos (h0 : n ≠ 0) (hw : c = 0 → d = 0 → w = 0) : PC Tryz.prog 4 [.sl X, .sl Y, iV n] (bV true) := by
 have aw := q38awake_p
 have b1 : decide (n < 0) = false := decide_eq_false (by omega)
 have b2 : decide (n > 3) = false := decide_eq_false (by omega)
 have b3 : (n == 0) = false := by simp [h0]
 by_cases hc : c = 0
 ·have b4 : (c == 0) = true := by simp [hc]
  by_cases hd : d = 0
  ·have b5 : (d == 0) = true := by simp [hd]
   have b6 : (w != 0) = false := by simp [hw hc hd]
   refine pc_body1 true Tryz.func4 rfl rfl rfl (Nat.le_of_ble_eq_true rfl) CellT.tmp ?_
   refine goA ?_
   refine evG ggA (ss_call (InB_of rfl) rfl rfl hx) ?_
   refine goA ?_
   refine evG ggA (ss_call (InB_of rfl) rfl rfl hy) ?_
   refine goA ?_
   refine evG ggA (ss_call (InB_of rfl) rfl rfl w1) ?_
   refine goA ?_
   refine evG ggA (ss_call (InB_of rfl) rfl rfl w2) ?_
   refine goA ?_
   refine evG ggA (ss_call (InB_of rfl) rfl rfl c1) ?_
   refine goA ?_
   refine evG ggA (ss_call (InB_of rfl) rfl rfl c2) ?_
   refine goA ?_
   refine evG ggA (ss_div (op := .rem) (InB_of rfl) rfl rfl (by omega) rfl) ?_
   rw [htm]
   refine goA ?_
   refine evG ggA (ss_call (InB_of rfl) rfl rfl c3) ?_
   refine goA ?_
   refine evG ggA (ss_call (InB_of rfl) rfl rfl c4) ?_
   refine goA ?_
   refine evG ggA (ss_call (InB_of rfl) rfl rfl c5) ?_
   refine goA ?_
   refine evG ggA (ss_call (InB_of rfl) rfl rfl s1) ?_
   refine goA ?_
   refine evG ggA (ss_call (InB_of rfl) rfl rfl d1) ?_
   refine goA ?_
   refine evG ggA (ss_call (InB_of rfl) rfl rfl d2) ?_
   refine goA ?_
   refine evG ggA (ss_call (InB_of rfl) rfl rfl d3) ?_
   refine goA ?_
   refine evG ggA (ss_call (InB_of rfl) rfl rfl e1) ?_
   refine goA ?_
   refine evG ggA (ss_call (InB_of rfl) rfl rfl e2) ?_
   refine goA ?_
   refine evG ggA (ss_call (InB_of rfl) rfl rfl e3) ?_
   refine goA ?_
   refine evG ggA (ss_call (InB_of rfl) rfl rfl e4) ?_
   refine goA ?_
   refine evG ggA (ss_call (InB_of rfl) rfl rfl g) ?_
   refine goA ?_
   refine evG ggA (ss_call (InB_of rfl) rfl rfl aw) ?_
   refine goA ?_
   exact rfl
  ·have b5 : (d == 0) = false := by simp [hd]
   refine pc_body1 true Tryz.func4 rfl rfl rfl (Nat.le_of_ble_eq_true rfl) CellT.tmp ?_
   refine goA ?_
   refine evG ggA (ss_call (InB_of rfl) rfl rfl hx) ?_
   refine goA ?_
   refine evG ggA (ss_call (InB_of rfl) rfl rfl hy) ?_
   refine goA ?_
   refine evG ggA (ss_call (InB_of rfl) rfl rfl w1) ?_
   refine goA ?_
   refine evG ggA (ss_call (InB_of rfl) rfl rfl w2) ?_
   refine goA ?_
   refine evG ggA (ss_call (InB_of rfl) rfl rfl c1) ?_
   refine goA ?_
   refine evG ggA (ss_call (InB_of rfl) rfl rfl c2) ?_
   refine goA ?_
   refine evG ggA (ss_div (op := .rem) (InB_of rfl) rfl rfl (by omega) rfl) ?_
   rw [htm]
   refine goA ?_
   refine evG ggA (ss_call (InB_of rfl) rfl rfl c3) ?_
   refine goA ?_
   refine evG ggA (ss_call (InB_of rfl) rfl rfl c4) ?_
   refine goA ?_
   refine evG ggA (ss_call (InB_of rfl) rfl rfl c5) ?_
   refine goA ?_
   refine evG ggA (ss_call (InB_of rfl) rfl rfl s1) ?_
   refine goA ?_
   refine evG ggA (ss_call (InB_of rfl) rfl rfl d1) ?_
   refine goA ?_
   refine evG ggA (ss_call (InB_of rfl) rfl rfl d2) ?_
   refine goA ?_
   refine evG ggA (ss_call (InB_of rfl) rfl rfl d3) ?_
   refine goA ?_
   refine evG ggA (ss_call (InB_of rfl) rfl rfl e1) ?_
   refine goA ?_
   refine evG ggA (ss_call (InB_of rfl) rfl rfl e2) ?_
   refine goA ?_
   refine evG ggA (ss_call (InB_of rfl) rfl rfl e3) ?_
   refine goA ?_
   refine evG ggA (ss_call (InB_of rfl) rfl rfl e4) ?_
   refine goA ?_
   refine evG ggA (ss_call (InB_of rfl) rfl rfl g) ?_
   refine goA ?_
   refine evG ggA (ss_call (InB_of rfl) rfl rfl aw) ?_
   refine goA ?_
   exact rfl
 ·have b4 : (c == 0) = false := by simp [hc]
  refine pc_body1 true Tryz.func4 rfl rfl rfl (Nat.le_of_ble_eq_true rfl) CellT.tmp ?_
  refine goA ?_
  refine evG ggA (ss_call (InB_of rfl) rfl rfl hx) ?_
  refine goA ?_
  refine evG ggA (ss_call (InB_of rfl) rfl rfl hy) ?_
  refine goA ?_
  refine evG ggA (ss_call (InB_of rfl) rfl rfl w1) ?_
  refine goA ?_
  refine evG ggA (ss_call (InB_of rfl) rfl rfl w2) ?_
  refine goA ?_
  refine evG ggA (ss_call (InB_of rfl) rfl rfl c1) ?_
  refine goA ?_
  refine evG ggA (ss_call (InB_of rfl) rfl rfl c2) ?_
  refine goA ?_
  refine evG ggA (ss_div (op := .rem) (InB_of rfl) rfl rfl (by omega) rfl) ?_
  rw [htm]
  refine goA ?_
  refine evG ggA (ss_call (InB_of rfl) rfl rfl c3) ?_
  refine goA ?_
  refine evG ggA (ss_call (InB_of rfl) rfl rfl c4) ?_
  refine goA ?_
  refine evG ggA (ss_call (InB_of rfl) rfl rfl c5) ?_
  refine goA ?_
  refine evG ggA (ss_call (InB_of rfl) rfl rfl s1) ?_
  refine goA ?_
  refine evG ggA (ss_call (InB_of rfl) rfl rfl d1) ?_
  refine goA ?_
  refine evG ggA (ss_call (InB_of rfl) rfl rfl d2) ?_
  refine goA ?_
  refine evG ggA (ss_call (InB_of rfl) rfl rfl d3) ?_
  refine goA ?_
  refine evG ggA (ss_call (InB_of rfl) rfl rfl e1) ?_
  refine goA ?_
  refine evG ggA (ss_call (InB_of rfl) rfl rfl e2) ?_
  refine goA ?_
  refine evG ggA (ss_call (InB_of rfl) rfl rfl e3) ?_
  refine goA ?_
  refine evG ggA (ss_call (InB_of rfl) rfl rfl e4) ?_
  refine goA ?_
  refine evG ggA (ss_call (InB_of rfl) rfl rfl g) ?_
  refine goA ?_
  refine evG ggA (ss_call (InB_of rfl) rfl rfl aw) ?_
  refine goA ?_
  exact rfl
set_option maxHeartbeats 32000000 in
theorem lbr_zero (h0 : n = 0) (s2 : PC Tryz.prog 21 [.sl R0, .sl M] (bV true)) (hw : c = 0 → d = 0 → w = 0) : PC Tryz.prog 4 [.sl X, .sl Y, iV n] (bV true) := by
 have aw := q38awake_p
 have b1 : decide (n < 0) = false := decide_eq_false (by omega)
 have b2 : decide (n > 3) = false := decide_eq_false (by omega)
 have b3 : (n == 0) = true := by simp [h0]
 by_cases hc : c = 0
 ·have b4 : (c == 0) = true := by simp [hc]
  by_cases hd : d = 0
  ·have b5 : (d == 0) = true := by simp [hd]
   have b6 : (w != 0) = false := by simp [hw hc hd]
   refine pc_body1 true Tryz.func4 rfl rfl rfl (Nat.le_of_ble_eq_true rfl) CellT.tmp ?_
   refine goA ?_
   refine evG ggA (ss_call (InB_of rfl) rfl rfl hx) ?_
   refine goA ?_
   refine evG ggA (ss_call (InB_of rfl) rfl rfl hy) ?_
   refine goA ?_
   refine evG ggA (ss_call (InB_of rfl) rfl rfl w1) ?_
   refine goA ?_
   refine evG ggA (ss_call (InB_of rfl) rfl rfl w2) ?_
   refine goA ?_
   refine evG ggA (ss_call (InB_of rfl) rfl rfl c1) ?_
   refine goA ?_
   refine evG ggA (ss_call (InB_of rfl) rfl rfl c2) ?_
   refine goA ?_
   refine evG ggA (ss_div (op := .rem) (InB_of rfl) rfl rfl (by omega) rfl) ?_
   rw [htm]
   refine goA ?_
   refine evG ggA (ss_call (InB_of rfl) rfl rfl c3) ?_
   refine goA ?_
   refine evG ggA (ss_call (InB_of rfl) rfl rfl c4) ?_
   refine goA ?_
   refine evG ggA (ss_call (InB_of rfl) rfl rfl c5) ?_
   refine goA ?_
   refine evG ggA (ss_call (InB_of rfl) rfl rfl s1) ?_
   refine goA ?_
   refine evG ggA (ss_call (InB_of rfl) rfl rfl s2) ?_
   refine goA ?_
   refine evG ggA (ss_call (InB_of rfl) rfl rfl d1) ?_
   refine goA ?_
   refine evG ggA (ss_call (InB_of rfl) rfl rfl d2) ?_
   refine goA ?_
   refine evG ggA (ss_call (InB_of rfl) rfl rfl d3) ?_
   refine goA ?_
   refine evG ggA (ss_call (InB_of rfl) rfl rfl e1) ?_
   refine goA ?_
   refine evG ggA (ss_call (InB_of rfl) rfl rfl e2) ?_
   refine goA ?_
   refine evG ggA (ss_call (InB_of rfl) rfl rfl e3) ?_
   refine goA ?_
   refine evG ggA (ss_call (InB_of rfl) rfl rfl e4) ?_
   refine goA ?_
   refine evG ggA (ss_call (InB_of rfl) rfl rfl g) ?_
   refine goA ?_
   refine evG ggA (ss_call (InB_of rfl) rfl rfl aw) ?_
   refine goA ?_
   exact rfl
  ·have b5 : (d == 0) = false := by simp [hd]
   refine pc_body1 true Tryz.func4 rfl rfl rfl (Nat.le_of_ble_eq_true rfl) CellT.tmp ?_
   refine goA ?_
   refine evG ggA (ss_call (InB_of rfl) rfl rfl hx) ?_
   refine goA ?_
   refine evG ggA (ss_call (InB_of rfl) rfl rfl hy) ?_
   refine goA ?_
   refine evG ggA (ss_call (InB_of rfl) rfl rfl w1) ?_
   refine goA ?_
   refine evG ggA (ss_call (InB_of rfl) rfl rfl w2) ?_
   refine goA ?_
   refine evG ggA (ss_call (InB_of rfl) rfl rfl c1) ?_
   refine goA ?_
   refine evG ggA (ss_call (InB_of rfl) rfl rfl c2) ?_
   refine goA ?_
   refine evG ggA (ss_div (op := .rem) (InB_of rfl) rfl rfl (by omega) rfl) ?_
   rw [htm]
   refine goA ?_
   refine evG ggA (ss_call (InB_of rfl) rfl rfl c3) ?_
   refine goA ?_
   refine evG ggA (ss_call (InB_of rfl) rfl rfl c4) ?_
   refine goA ?_
   refine evG ggA (ss_call (InB_of rfl) rfl rfl c5) ?_
   refine goA ?_
   refine evG ggA (ss_call (InB_of rfl) rfl rfl s1) ?_
   refine goA ?_
   refine evG ggA (ss_call (InB_of rfl) rfl rfl s2) ?_
   refine goA ?_
   refine evG ggA (ss_call (InB_of rfl) rfl rfl d1) ?_
   refine goA ?_
   refine evG ggA (ss_call (InB_of rfl) rfl rfl d2) ?_
   refine goA ?_
   refine evG ggA (ss_call (InB_of rfl) rfl rfl d3) ?_
   refine goA ?_
   refine evG ggA (ss_call (InB_of rfl) rfl rfl e1) ?_
   refine goA ?_
   refine evG ggA (ss_call (InB_of rfl) rfl rfl e2) ?_
   refine goA ?_
   refine evG ggA (ss_call (InB_of rfl) rfl rfl e3) ?_
   refine goA ?_
   refine evG ggA (ss_call (InB_of rfl) rfl rfl e4) ?_
   refine goA ?_
   refine evG ggA (ss_call (InB_of rfl) rfl rfl g) ?_
   refine goA ?_
   refine evG ggA (ss_call (InB_of rfl) rfl rfl aw) ?_
   refine goA ?_
   exact rfl
 ·have b4 : (c == 0) = false := by simp [hc]
  refine pc_body1 true Tryz.func4 rfl rfl rfl (Nat.le_of_ble_eq_true rfl) CellT.tmp ?_
  refine goA ?_
  refine evG ggA (ss_call (InB_of rfl) rfl rfl hx) ?_
  refine goA ?_
  refine evG ggA (ss_call (InB_of rfl) rfl rfl hy) ?_
  refine goA ?_
  refine evG ggA (ss_call (InB_of rfl) rfl rfl w1) ?_
  refine goA ?_
  refine evG ggA (ss_call (InB_of rfl) rfl rfl w2) ?_
  refine goA ?_
  refine evG ggA (ss_call (InB_of rfl) rfl rfl c1) ?_
  refine goA ?_
  refine evG ggA (ss_call (InB_of rfl) rfl rfl c2) ?_
  refine goA ?_
  refine evG ggA (ss_div (op := .rem) (InB_of rfl) rfl rfl (by omega) rfl) ?_
  rw [htm]
  refine goA ?_
  refine evG ggA (ss_call (InB_of rfl) rfl rfl c3) ?_
  refine goA ?_
  refine evG ggA (ss_call (InB_of rfl) rfl rfl c4) ?_
  refine goA ?_
  refine evG ggA (ss_call (InB_of rfl) rfl rfl c5) ?_
  refine goA ?_
  refine evG ggA (ss_call (InB_of rfl) rfl rfl s1) ?_
  refine goA ?_
  refine evG ggA (ss_call (InB_of rfl) rfl rfl s2) ?_
  refine goA ?_
  refine evG ggA (ss_call (InB_of rfl) rfl rfl d1) ?_
  refine goA ?_
  refine evG ggA (ss_call (InB_of rfl) rfl rfl d2) ?_
  refine goA ?_
  refine evG ggA (ss_call (InB_of rfl) rfl rfl d3) ?_
  refine goA ?_
  refine evG ggA (ss_call (InB_of rfl) rfl rfl e1) ?_
  refine goA ?_
  refine evG ggA (ss_call (InB_of rfl) rfl rfl e2) ?_
  refine goA ?_
  refine evG ggA (ss_call (InB_of rfl) rfl rfl e3) ?_
  refine goA ?_
  refine evG ggA (ss_call (InB_of rfl) rfl rfl e4) ?_
  refine goA ?_
  refine evG ggA (ss_call (InB_of rfl) rfl rfl g) ?_
  refine goA ?_
  refine evG ggA (ss_call (InB_of rfl) rfl rfl aw) ?_
  refine goA ?_
  exact rfl
end
end Ab
namespace Ab
open Go Go.RowKit Go.Proofs Hp
set_option maxRecDepth 100000
theorem dp_fold : ∀ (L : List QE) (m : Int), m ≤ L.foldl (fun m e => max m e.a) m ∧ ∀ e, e ∈ L → e.a ≤ L.foldl (fun m e => max m e.a) m
  | [], m => ⟨Int.le_refl _, fun e he => by cases he⟩
  | e :: L, m => by
    obtain ⟨h1, h2⟩ := dp_fold L (max m e.a)
    refine ⟨by show m ≤ L.foldl _ (max m e.a); omega, fun f hf => ?_⟩
    show f.a ≤ L.foldl _ (max m e.a)
    rcases List.mem_cons.1 hf with rfl | hf
    · omega
    · exact h2 f hf
theorem dp_zero {L : List QE} (h : dpQ L = 0) (h0 : ∀ e, e ∈ L → 0 ≤ e.a) : ∀ e, e ∈ L → e.a = 0 := fun e he => by
 have h1 := (dp_fold L 0).2 e he
 have h2 := h0 e he
 have h3 : L.foldl (fun m e => max m e.a) 0 = 0 := h
 rw [h3] at h1
 omega
theorem dp_all : ∀ (L : List QE), (∀ e, e ∈ L → e.a = 0) → L.foldl (fun m e => max m e.a) 0 = 0
  | [], _ => rfl
  | e :: L, h => by
    have h1 := h e (List.mem_cons_self ..)
    show L.foldl _ (max 0 e.a) = 0
    rw [h1]
    exact dp_all L fun f hf => h f (List.mem_cons_of_mem _ hf)
theorem pur_w {P : List QT} {k : Int} (h0 : 0 < P.length) (hp : purQ (P.map qe) = true) (hk : topQ (P.map qe) = k) (hn : ∀ t, t ∈ P → Nn t) : ∀ t, t ∈ P → wtK t.k = k := by
 rcases P with _ | ⟨u, P⟩
 ·simp at h0
 have hu := hn u (List.mem_cons_self ..)
 have ht : topQ ((u :: P).map qe) = (qe u).w := pur_top hp (by unfold Nn at hu; unfold QE.w; simp only [qe]; omega)
 have ha : ∀ f, f ∈ (u :: P).map qe → f.w = (qe u).w := of_decide_eq_true hp
 intro t hm
 rw [← hk, ht, ← ha (qe t) (List.mem_map.2 ⟨t, hm, rfl⟩)]
 rfl
theorem br_np {n : Nat} {k l : Int} {P R : List QT} (hn : n ≤ 3) (hk : 0 ≤ k ∧ k ≤ 16) (hl : 0 ≤ l ∧ l ≤ 16) (dP : DB 0 P) (dR : DB 0 R) (hP : ∀ t, t ∈ P → Nn t ∧ wtK t.k = k) (hR : ∀ t, t ∈ R → Nn t ∧ wtK t.k = l) : NP (qnf (bW n k l P R (n + 1))) 100000 70 38 := by
 have hm : ∀ t, t ∈ qnf (bW n k l P R (n + 1)) → Nn t ∧ wtK t.k = k + l + 2 * n := fun t ht => by
  obtain ⟨u, hu, e⟩ := qnf_key ht
  obtain ⟨h1, h2⟩ := bW_mem hP hR (Nat.le_refl _) u hu
  refine ⟨?_, by rw [← e]; exact h2⟩
  unfold Nn at *
  simp only [QT.k, Prod.mk.injEq] at e
  omega
 refine ⟨qnf_d _, nf_ht fun y => ((bW_ok dP dR hn (by omega) (by omega) y (n + 1) (Nat.le_refl _)).1).mono (by omega), few_terms (qnf_d _) (w := k + l + 2 * n) (by omega) hm, fun t ht => ?_⟩
 obtain ⟨h1, h2⟩ := hm t ht
 refine ⟨h1, ?_⟩
 have e : (qe t).w = wtK t.k := rfl
 rw [e, h2]
 omega
set_option maxHeartbeats 4000000 in
theorem brackets_core {U V : List QE} (hU : Vd U) (uw : ∀ e, e ∈ U → e.w ≤ 16) (hV : Vd V) (vw : ∀ e, e ∈ V → e.w ≤ 16) (hx : PC Tryz.prog 5 [.sl (U.map QE.av), iV 16] (bV true)) (hy : PC Tryz.prog 5 [.sl (V.map QE.av), iV 16] (bV true)) {n : Nat} (hn : n ≤ 3) :
  PC Tryz.prog 4 [.sl (U.map QE.av), .sl (V.map QE.av), iV n] (bV true) := by
 obtain ⟨k, e, w1, hk⟩ := wt_ok hU uw
 obtain ⟨l, f, w2, hl⟩ := wt_ok hV vw
 by_cases hef : e ≠ 0 ∨ f ≠ 0
 ·exact lbr_err (by omega) hx hy w1 w2 hef
 obtain rfl : e = 0 := by omega
 obtain rfl : f = 0 := by omega
 obtain ⟨p1, p2, p3, p4, p5⟩ := hk rfl
 obtain ⟨r1, r2, r3, r4, r5⟩ := hl rfl
 have ea := hU.exp (P := 6) (by decide)
 have eb := hV.exp (P := 6) (by decide)
 have c5 := hU.mul hV (fun e he => by have := uw e he; omega) (fun e he => by have := vw e he; omega)
 have np := hU.np uw
 have nq := hV.np vw
 have hz := hU.nz
 have kz := hV.nz
 have hv := hU.valid
 have kv := hV.valid
 have t1 := hU.tidy
 have t2 := hV.tidy
 clear hU hV
 generalize qnf (U.map QE.t) = P at *
 generalize qnf (V.map QE.t) = R at *
 have nP := np.nn
 have nR := nq.nn
 have wP := pur_w p1 p2 p3 nP
 have wR := pur_w r1 r2 r3 nR
 have dP := hz.db
 have dR := kz.db
 have hk2 : 0 ≤ k ∧ k ≤ 16 := ⟨p4, p5⟩
 have hl2 : 0 ≤ l ∧ l ≤ 16 := ⟨r4, r5⟩
 have pl := hz.l
 have rl := kz.l
 have q1 := qpure_p (U := P.map qe) (by rw [List.length_map]; omega) hz.sm
 have q2 := qpure_p (U := R.map qe) (by rw [List.length_map]; omega) kz.sm
 rw [p2, if_pos rfl, p3] at q1
 rw [r2, if_pos rfl, r3] at q2
 have l1 : 0 < (PL P).length := by rw [PL_len]; exact p1
 have l2 : 0 < (PL R).length := by rw [PL_len]; exact r1
 have c1 := bracket_ok hn hv kv t1 t2 q1 q2 l1 l2 (by omega) (by omega) (by omega) dP dR
 have c2 := bracket_ok hn kv hv t2 t1 q2 q1 l2 l1 (by omega) (by omega) (by omega) dR dP
 have nx := br_np hn hk2 hl2 dP dR (fun t ht => ⟨nP t ht, wP t ht⟩) fun t ht => ⟨nR t ht, wR t ht⟩
 have ny := br_np hn hl2 hk2 dR dP (fun t ht => ⟨nR t ht, wR t ht⟩) fun t ht => ⟨nP t ht, wP t ht⟩
 -- the sign
 obtain ⟨tm, htm⟩ : ∃ tm, (n : Int).tmod 2 = tm := ⟨_, rfl⟩
 have htm2 : tm = ((n % 2 : Nat) : Int) := by rw [← htm]; exact (Int.ofNat_tmod n 2).symm
 have tm2 : 0 ≤ tm ∧ tm ≤ 1 := by omega
 have c3 := q_p (1 - 2 * tm) (by omega) (by omega)
 have hq : ((1 - 2 * tm : Int) : Rat) = if n % 2 = 0 then (1 : Rat) else -1 := by
  by_cases h : n % 2 = 0
  ·rw [if_pos h, show (1 - 2 * tm : Int) = 1 by omega]; rfl
  ·rw [if_neg h, show (1 - 2 * tm : Int) = -1 by omega]; rfl
 have hqh : Ht ((1 - 2 * tm : Int) : Rat) 2 := ht_big (by omega)
 have cs := qscale_p (sort_p 70 (by decide)) (a := encQ ((1 - 2 * tm : Int) : Rat)) (c := ((1 - 2 * tm : Int) : Rat)) (U := (qnf (bW n l k R P (n + 1))).map qe) (K := 100000) (isV_encQ (hqh.mono (by decide))) (by rw [List.length_map]; exact ny.l) (by decide) (fun e he => by
  obtain ⟨t, ht, rfl⟩ := List.mem_map.1 he
  exact (ny.vt (by decide) t ht).sm) (fun e he => by
  obtain ⟨t, ht, rfl⟩ := List.mem_map.1 he
  exact qe_ok (ny.h t ht)) (by decide) (by decide)
 have eqx : qnf ((qnf (bW n l k R P (n + 1))).map (qsc ((1 - 2 * tm : Int) : Rat))) = qnf (bW n k l P R (n + 1)) := qnf_eq fun κ => by
  rw [sc_co, qnf_co, hq]
  exact bW_swap hn k l P R κ
 rw [qe_map, eqx] at cs
 have c4 : PC Tryz.prog 19 [encQ ((1 - 2 * tm : Int) : Rat), .sl (PL (qnf (bW n l k R P (n + 1))))] (.tup [.sl (PL (qnf (bW n k l P R (n + 1)))), iV 0]) := qS_core (ny.valid (by decide) (by decide)) cs
 have s1 : PC Tryz.prog 21 [.sl (PL (qnf (bW n k l P R (n + 1)))), .sl (PL (qnf (bW n k l P R (n + 1))))] (bV true) := rsame38_p (K := 100000) (by have := nx.l; omega) nx.h (by decide)
 -- depths
 have d1 := qH_ok (U := P.map qe) (by rw [List.length_map]; omega) hv t1
 have d2 := qH_ok (U := R.map qe) (by rw [List.length_map]; omega) kv t2
 have d3 := qH_ok (U := (qnf (bW n k l P R (n + 1))).map qe) (by rw [List.length_map]; have := nx.l; omega) (nx.valid (by decide) (by decide)) (by have := nx.tidy (by decide) (by decide) (by decide); rw [qnf_id (qnf_n _)] at this; exact this)
 have hw : dpQ (P.map qe) = 0 → dpQ (R.map qe) = 0 → dpQ ((qnf (bW n k l P R (n + 1))).map qe) = 0 := fun a b => by
  have P0 : ∀ t, t ∈ P → t.a = 0 := fun t ht => dp_zero a (fun e he => by obtain ⟨u, hu, rfl⟩ := List.mem_map.1 he; exact (nP u hu).1) (qe t) (List.mem_map.2 ⟨t, ht, rfl⟩)
  have R0 : ∀ t, t ∈ R → t.a = 0 := fun t ht => dp_zero b (fun e he => by obtain ⟨u, hu, rfl⟩ := List.mem_map.1 he; exact (nR u hu).1) (qe t) (List.mem_map.2 ⟨t, ht, rfl⟩)
  refine dp_all _ fun e he => ?_
  obtain ⟨t, ht, rfl⟩ := List.mem_map.1 he
  exact bW_depth hn hk2 hl2 wP P0 wR R0 t ht
 -- expansions
 have ex := nx.exp (P := 6) (by decide) (by decide) (by decide) (by decide)
 have fa := ea.s
 have fb := eb.s
 obtain ⟨z, e4, hz4⟩ := (fa.mono (K' := 1000) (by decide)).bracket (fb.mono (K' := 1000) (by decide)) ea.o.p eb.o.p (by decide) (by decide) hn (k := k) (l := l) (by omega) (by omega)
 have g := (ex.s.mono (K' := 7100000) (by decide)).agree (hz4.mono (K' := 7100000) (by decide)) ex.o.p (fun m hm => by
  show qlf (xP m) (qnf (bW n k l P R (n + 1))) = _
  rw [qlf_nf, lf_bracket nP nR (by omega)]) (by decide)
 have e1 : PC Tryz.prog 7 [.sl (U.map QE.av), iV 6] (.tup [serA (xS 6 P).1 ((xS 6 P).2.map encQ), iV 0]) := ea.c
 have e2 : PC Tryz.prog 7 [.sl (V.map QE.av), iV 6] (.tup [serA (xS 6 R).1 ((xS 6 R).2.map encQ), iV 0]) := eb.c
 have e3 := ex.c
 have e3 : PC Tryz.prog 7 [.sl (PL (qnf (bW n k l P R (n + 1)))), iV 6] (.tup [serA (xS 6 (qnf (qnf (bW n k l P R (n + 1))))).1 ((xS 6 (qnf (qnf (bW n k l P R (n + 1))))).2.map encQ), iV 0]) := e3
 by_cases h0 : n = 0
 ·subst h0
  have em : PL (qnf (bW 0 k l P R (0 + 1))) = PL (qnf (qml P R)) := congrArg PL (qnf_eq fun κ => bW_zero k l P R κ)
  have s2 := s1
  rw [em] at s2
  have s2 : PC Tryz.prog 21 [.sl (PL (qnf (bW 0 k l P R (0 + 1)))), .sl (PL (qnf (qml P R)))] (bV true) := by rw [em]; exact s2
  exact lbr_zero (by omega) htm tm2 hx hy w1 w2 c1 c2 c3 c4 c5 s1 d1 d2 d3 e1 e2 e3 e4 g rfl s2 hw
 ·exact lbr_pos (by omega) htm tm2 hx hy w1 w2 c1 c2 c3 c4 c5 s1 d1 d2 d3 e1 e2 e3 e4 g (by omega) hw
theorem quasimodularBrackets_p (s : List RTm) (o : QpOK s) (r : List RTm) (oo : QpOK r) (n : Int) (_ : -9223372036854775808 ≤ n) (_ : n ≤ 9223372036854775807) : PC Tryz.prog 4 [.sl ((s.map tmQ).map QE.av), .sl ((r.map tmQ).map QE.av), iV n] (bV true) := by
 have tok : ∀ {s : List RTm}, QpOK s → (s.map tmQ).length ≤ 8 → (∀ e, e ∈ s.map tmQ → bigQ e = false) → ∀ e, e ∈ s.map tmQ → e.ok 3 := fun o _ hb e he => by
  have hbe := hb e he
  obtain ⟨t, ht, rfl⟩ := List.mem_map.1 he
  exact tmQ_ok (o t ht) hbe
 have hx := light_p (s.map tmQ) (m := 16) (by decide)
 have hy := light_p (r.map tmQ) (m := 16) (by decide)
 have su := light_ok (m := 16) (tok o)
 have sv := light_ok (m := 16) (tok oo)
 generalize s.map tmQ = U at *
 generalize r.map tmQ = V at *
 cases h1 : lightQ U 16 with
 | false => rw [h1] at hx; exact lbr_aw hx hy (.inl rfl)
 | true =>
 cases h2 : lightQ V 16 with
 | false => rw [h2] at hy; exact lbr_aw hx hy (.inr (.inl rfl))
 | true =>
 rw [h1] at hx
 rw [h2] at hy
 by_cases hn : 0 ≤ n ∧ n ≤ 3
 ·obtain ⟨m, rfl⟩ : ∃ m : Nat, n = m := ⟨n.toNat, by omega⟩
  exact brackets_core (su h1).1 (su h1).2 (sv h2).1 (sv h2).2 hx hy (by omega)
 ·exact lbr_aw hx hy (.inr (.inr (by omega)))
end Ab
