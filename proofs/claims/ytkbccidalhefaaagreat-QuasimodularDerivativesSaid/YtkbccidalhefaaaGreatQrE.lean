/- The statement QuasimodularRing: its walk, and what both sides answer. -/
import Derived.Test.YtkbccidalhefaaaGreatQrC
import Derived.Test.YtkbccidalhefaaaGreatSRT
import Derived.Test.YtkbccidalhefaaaGreatQcO
set_option linter.all false
namespace Ab
open Go Go.RowKit Go.Proofs Hp
set_option maxRecDepth 100000

theorem topQ_fold : ∀ (U : List QE) (m : Int), 0 ≤ m → m ≤ 1000 → (∀ e, e ∈ U → e.w ≤ 1000) → 0 ≤ U.foldl (fun m e => max m e.w) m ∧ U.foldl (fun m e => max m e.w) m ≤ 1000
  | [], m, h0, h1, _ => ⟨h0, h1⟩
  | e :: U, m, h0, h1, h => by
    have := h e (List.mem_cons_self ..)
    exact topQ_fold U (max m e.w) (by omega) (by omega) fun f hf => h f (List.mem_cons_of_mem _ hf)
theorem topQ_le {U : List QE} (h : ∀ e, e ∈ U → e.w ≤ 1000) : 0 ≤ topQ U ∧ topQ U ≤ 1000 := topQ_fold U 0 (by decide) (by decide) h
theorem topQ_same {w : Int} : ∀ (U : List QE) (m : Int), (∀ e, e ∈ U → e.w = w) → m ≤ w → U ≠ [] → U.foldl (fun m e => max m e.w) m = w
  | [], _, _, _, h => absurd rfl h
  | [e], m, h, h1, _ => by
    have := h e (List.mem_cons_self ..)
    show max m e.w = w
    omega
  | e :: f :: U, m, h, h1, _ => by
    have := h e (List.mem_cons_self ..)
    exact topQ_same (f :: U) (max m e.w) (fun x hx => h x (List.mem_cons_of_mem _ hx)) (by omega) (by simp)
theorem pur_top {e : QE} {U : List QE} (h : purQ (e :: U) = true) (h0 : 0 ≤ e.w) : topQ (e :: U) = e.w := topQ_same (e :: U) 0 (of_decide_eq_true h) h0 (by simp)
/-- an argument that the statements look at -/
def ArgOK (U : List QE) : Prop := 400 < U.length ∨ (U.length ≤ 8 ∧ ∀ e, e ∈ U → e.ok 3)
structure Vd (U : List QE) : Prop where
  q : QV U
  l : U.length ≤ 8
  o : ∀ e, e ∈ U → e.ok 3
theorem arg_v {U : List QE} (h : ArgOK U) : ∃ b : Bool, PC Tryz.prog 30 [.sl (U.map QE.av)] (bV b) ∧ PC Tryz.prog 34 [.sl (U.map QE.av)] (iV (vk b)) ∧ (b = true → Vd U) := by
  rcases h with h | ⟨h8, ho⟩
  · exact ⟨false, qvalid_big (by rw [List.length_map]; exact h), rcheck38_big (by rw [List.length_map]; exact h), fun e => (by cases e)⟩
  · have hv := qvalid_p (U := U) (by omega)
    have hc := rcheck38_p (U := U) (by omega)
    by_cases hQ : QV U
    · rw [decide_eq_true hQ] at hv hc
      exact ⟨true, hv, hc, fun _ => ⟨hQ, h8, ho⟩⟩
    · rw [decide_eq_false hQ] at hv hc
      exact ⟨false, hv, hc, fun e => (by cases e)⟩
/-- normalized, of few terms -/
structure Nz (R : List QT) : Prop where
  d : QD R
  n : QN R
  l : R.length ≤ 8
  h : ∀ t, t ∈ R → Ht t.q 33
  v : ∀ t, t ∈ R → (qe t).vt
theorem Vd.nz {U : List QE} (h : Vd U) : Nz (qnf (U.map QE.t)) := by
  refine ⟨qnf_d _, qnf_n _, Nat.le_trans (qnf_len _) (by rw [List.length_map]; exact h.l), fun t ht => ?_, fun t ht => ?_⟩
  · refine (qnf_ht (K := 3) (by decide) (fun u hu => ?_) t ht).mono (by rw [List.length_map]; have := h.l; omega)
    obtain ⟨x, hx, rfl⟩ := List.mem_map.1 hu
    exact isV_ht (h.o x hx) (by decide)
  · obtain ⟨u, hu, e⟩ := qnf_key ht
    obtain ⟨x, hx, rfl⟩ := List.mem_map.1 hu
    have hv := h.q.2 x hx
    unfold QE.vt QE.w at hv
    simp only [QT.k, QE.t, Prod.mk.injEq] at e
    obtain ⟨e1, e2, e3⟩ := e
    unfold QE.vt QE.w
    simp only [qe]
    rw [← e1, ← e2, ← e3]
    exact hv
theorem Nz.sm {R : List QT} (h : Nz R) : ∀ e, e ∈ R.map qe → e.sm := fun e he => by
  obtain ⟨t, ht, rfl⟩ := List.mem_map.1 he
  exact (h.v t ht).sm
theorem Nz.tn {R : List QT} (h : Nz R) : ∀ e, e ∈ R.map qe → e.t.tn := fun e he => by
  obtain ⟨t, ht, rfl⟩ := List.mem_map.1 he
  have := h.v t ht
  unfold QE.vt at this
  simp only [qe] at this
  rw [qe_t]
  unfold QT.tn
  omega
theorem Nz.tn' {R : List QT} (h : Nz R) : ∀ t, t ∈ R → t.tn := fun t ht => h.tn (qe t) (List.mem_map.2 ⟨t, ht, rfl⟩)
theorem Nz.ok {R : List QT} (h : Nz R) : ∀ e, e ∈ R.map qe → e.ok 33 := fun e he => by
  obtain ⟨t, ht, rfl⟩ := List.mem_map.1 he
  exact qe_ok (h.h t ht)
theorem Nz.top {R : List QT} (h : Nz R) : 0 ≤ topQ (R.map qe) ∧ topQ (R.map qe) ≤ 1000 := topQ_le fun e he => by
  obtain ⟨t, ht, rfl⟩ := List.mem_map.1 he
  have := (h.v t ht).2.2.2.2.2.2
  omega
/-- what both sides answer -/
structure BothQ (f g : Nat) (args : List AV) : Prop where
  ex : ∃ (R : List AV) (e : Int), PC Tryz.prog f args (.tup [.sl R, iV e]) ∧ PC Tryz.prog g args (.tup [.sl R, iV e]) ∧ PC Tryz.prog 27 [.sl R, .sl R] (bV true)
theorem same_nil : PC Tryz.prog 27 [.sl [], .sl []] (bV true) := rsame38_p (l := []) (K := 1) (by decide) (fun t h => (by cases h)) (by decide)
theorem Vd.tidy {U : List QE} (h : Vd U) : PC Tryz.prog 31 [.sl (U.map QE.av)] (.sl (PL (qnf (U.map QE.t)))) := tidy_p' sort20_p (K := 3) (by have := h.l; omega) (by decide) (fun e he => (h.q.2 e he).sm) h.o (by decide) (by decide)
theorem Vd.norm {U : List QE} (h : Vd U) : PC Tryz.prog 35 [.sl (U.map QE.av)] (.sl (PL (qnf (U.map QE.t)))) := normG_p (H := 33) (by have := h.l; omega) (fun e he => isV_mono (h.o e he) (by decide)) (by decide) fun A B e k => (crude_ht (K := 3) (by decide) (fun t ht => by
  obtain ⟨x, hx, rfl⟩ := List.mem_map.1 ht
  exact isV_ht (h.o x hx) (by decide)) e k).mono (by rw [List.length_map]; have := h.l; omega)
theorem same_nf {l : List QT} {K : Nat} (hl : l.length ≤ 100000) (h : ∀ t, t ∈ l → Ht t.q K) (hK : 1 ≤ K ∧ K ≤ 1000000) : PC Tryz.prog 27 [.sl (PL (qnf l)), .sl (PL (qnf l))] (bV true) := by
  have hm : l.length * (K + 1) ≤ 100000 * 1000001 := Nat.mul_le_mul hl (by omega)
  exact rsame38_p (K := 1 + l.length * (K + 1)) (by have := qnf_len l; omega) (qnf_ht hK.1 h) (by omega)
theorem both_normal {U : List QE} (h : ArgOK U) : BothQ 14 15 [.sl (U.map QE.av)] := by
  obtain ⟨b, hv, hc, hd⟩ := arg_v h
  cases b with
  | false => exact ⟨[], 2, qN_bad hv, rN_bad hc, same_nil⟩
  | true =>
    have hd := hd rfl
    exact ⟨_, 0, qN_ok hv hd.tidy, rN_ok hc hd.norm, rsame38_p (K := 33) (by have := hd.nz.l; omega) hd.nz.h (by decide)⟩
theorem both_add {U V : List QE} (h : ArgOK U) (k : ArgOK V) : BothQ 16 17 [.sl (U.map QE.av), .sl (V.map QE.av)] := by
  obtain ⟨b, hv, hc, hd⟩ := arg_v h
  obtain ⟨c, kv, kc, kd⟩ := arg_v k
  have h2 := rTwo_p hc kc
  cases b with
  | false => exact ⟨[], 2, qA_bad hv fun e => (by cases e), rA_bad h2, same_nil⟩
  | true =>
  cases c with
  | false => exact ⟨[], 2, qA_bad hv fun _ => kv, rA_bad h2, same_nil⟩
  | true =>
    have hd := hd rfl
    have kd := kd rfl
    have h8 := hd.l
    have k8 := kd.l
    have hz := hd.nz
    have kz := kd.nz
    have ct := tidy_p' sort20_p (U := U ++ V) (K := 3) (by rw [List.length_append]; omega) (by decide) (fun e he => by
      rcases List.mem_append.1 he with he | he
      · exact (hd.q.2 e he).sm
      · exact (kd.q.2 e he).sm) (fun e he => by
      rcases List.mem_append.1 he with he | he
      · exact hd.o e he
      · exact kd.o e he) (by decide) (by decide)
    have cp := plus38_p (p := qnf (U.map QE.t)) (r := qnf (V.map QE.t)) (K := 33) (H := 67) (by have := hz.l; omega) (by have := kz.l; omega) (fun A B e k => (pre_ht (by decide) (by decide) hz.d kz.d hz.h kz.h e k).mono (by decide)) hz.h kz.h (by decide) (by decide)
    rw [nf_nf] at cp
    rw [show (U ++ V).map QE.t = U.map QE.t ++ V.map QE.t from List.map_append] at ct
    refine ⟨PL (qnf (U.map QE.t ++ V.map QE.t)), 0, qA_core hv kv (concat_p U V (by omega) (by omega)) ct, rA_ok h2 hd.norm kd.norm cp, ?_⟩
    refine rsame38_p (K := 67) ?_ (fun t ht => ?_) (by decide)
    · refine Nat.le_trans (qnf_len _) ?_
      rw [List.length_append, List.length_map, List.length_map]
      omega
    · rw [← nf_nf] at ht
      exact (nf_ht (sum_ht (by decide) (by decide) hz.d kz.d hz.h kz.h) t ht).mono (by decide)
theorem both_scale {U : List QE} {a : AV} {c : Rat} (h : ArgOK U) (hc0 : IsV a 3 c) : BothQ 18 19 [a, .sl (U.map QE.av)] := by
  obtain ⟨b, hv, hc, hd⟩ := arg_v h
  obtain ⟨g, ds, g', ds', ha⟩ := isV_cells hc0
  cases b with
  | false => subst ha; exact ⟨[], 2, qS_bad hv, rS_bad hc, same_nil⟩
  | true =>
    have hd := hd rfl
    have h8 := hd.l
    have cs := qscale_p sort20_p (U := U) (K := 3) hc0 (by omega) (by decide) (fun e he => (hd.q.2 e he).sm) hd.o (by decide) (by decide)
    have hm : ∀ t, t ∈ (U.map QE.t).map (qsc c) → Ht t.q 6 := fun t ht => by
      obtain ⟨x, hx, rfl⟩ := List.mem_map.1 ht
      obtain ⟨e, he, rfl⟩ := List.mem_map.1 hx
      exact (ht_mul (isV_ht hc0 (by decide)) (isV_ht (hd.o e he) (by decide)) (by decide)).mono (by decide)
    have hml : ((U.map QE.t).map (qsc c)).length ≤ 8 := by simpa using h8
    have cr := rtimes_p (U := U) (K := 3) (H := 57) hc0 (by omega) hd.o (by decide) (fun A B e k => (crude_ht (by decide) hm e k).mono (by omega)) (fun t ht => (hm t ht).mono (by decide)) (by decide)
    subst ha
    exact ⟨_, 0, qS_core hv cs, rS_ok hc cr, same_nf (K := 6) (by omega) hm (by decide)⟩
theorem both_mul {U V : List QE} (h : ArgOK U) (k : ArgOK V) : BothQ 20 21 [.sl (U.map QE.av), .sl (V.map QE.av)] := by
  obtain ⟨b, hv, hc, hd⟩ := arg_v h
  obtain ⟨c, kv, kc, kd⟩ := arg_v k
  have h2 := rTwo_p hc kc
  cases b with
  | false => exact ⟨[], 2, qM_bad hv fun e => (by cases e), rM_bad h2, same_nil⟩
  | true =>
  cases c with
  | false => exact ⟨[], 2, qM_bad hv fun _ => kv, rM_bad h2, same_nil⟩
  | true =>
    have hd := hd rfl
    have kd := kd rfl
    have hz := hd.nz
    have kz := kd.nz
    have t1 := hd.tidy
    have t2 := kd.tidy
    have n1 := hd.norm
    have n2 := kd.norm
    clear hd kd
    generalize qnf (U.map QE.t) = P at *
    generalize qnf (V.map QE.t) = R at *
    have pl := hz.l
    have rl := kz.l
    have hlm : P.length * R.length ≤ 8 * 8 := Nat.mul_le_mul pl rl
    have ct := qtimes_p (sort_p 64 (by decide)) (U := P.map qe) (V := R.map qe) (K := 33) (by rw [List.length_map, List.length_map]; exact hlm) (by decide) (by rw [List.length_map]; omega) (by rw [List.length_map]; omega) hz.tn kz.tn hz.ok kz.ok (by decide) (by decide)
    rw [qe_map, qe_map] at ct
    have hm : ∀ t, t ∈ qml P R → Ht t.q 66 := fun t ht => by
      obtain ⟨x, y, hx, hy, rfl⟩ := qml_mem ht
      exact (ht_mul (hz.h x hx) (kz.h y hy) (by decide)).mono (by decide)
    have hml : (qml P R).length ≤ 64 := by rw [qml_len]; exact hlm
    have cp := product_p (p := P) (r := R) (K := 33) (H := 5000) (by omega) (by omega) (by omega) hz.tn' kz.tn' hz.h kz.h (by decide) (fun A B e k => (crude_ht (by decide) hm e k).mono (by omega)) (fun t ht => (hm t ht).mono (by decide)) (by decide)
    have sm := same_nf (l := qml P R) (K := 66) (by omega) hm (by decide)
    by_cases h0 : P.length = 0 ∨ R.length = 0
    · exact ⟨_, 0, qM_zero hv kv t1 t2 (by rw [PL_len, PL_len]; exact h0) ct, rM_zero h2 n1 n2 (by rw [PL_len, PL_len]; exact h0) cp, sm⟩
    have p1 := qtop_p (U := P.map qe) (by rw [List.length_map]; omega) hz.sm
    have p2 := qtop_p (U := R.map qe) (by rw [List.length_map]; omega) kz.sm
    have q1 := rtop_p (U := P.map qe) (by rw [List.length_map]; omega) hz.sm
    have q2 := rtop_p (U := R.map qe) (by rw [List.length_map]; omega) kz.sm
    have b1 := hz.top
    have b2 := kz.top
    have l1 : 0 < (PL P).length := by rw [PL_len]; omega
    have l2 : 0 < (PL R).length := by rw [PL_len]; omega
    by_cases hk : topQ (P.map qe) + topQ (R.map qe) ≤ 60
    · exact ⟨_, 0, qM_core hv kv t1 t2 l1 l2 p1 p2 b1.1 b2.1 hk ct, rM_ok h2 n1 n2 l1 l2 q1 q2 b1 b2 hk cp, sm⟩
    · exact ⟨[], 7, qM_large hv kv t1 t2 l1 l2 p1 p2 b1 b2 (by omega), rM_large h2 n1 n2 l1 l2 q1 q2 b1 b2 (by omega), same_nil⟩
theorem both_weight {U : List QE} (h : ArgOK U) : ∃ w e : Int, PC Tryz.prog 22 [.sl (U.map QE.av)] (.tup [iV w, iV e]) ∧ PC Tryz.prog 23 [.sl (U.map QE.av)] (.tup [iV w, iV e]) := by
  obtain ⟨b, hv, hc, hd⟩ := arg_v h
  cases b with
  | false => exact ⟨0, 2, qW_bad hv, rW_bad hc⟩
  | true =>
    have hd := hd rfl
    have hz := hd.nz
    have t1 := hd.tidy
    have n1 := hd.norm
    clear hd
    generalize qnf (U.map QE.t) = P at *
    have pl := hz.l
    cases P with
    | nil => exact ⟨0, 5, qW_zero hv t1 rfl, rW_zero hc n1 rfl⟩
    | cons t P =>
      have p1 := qpure_p (U := (t :: P).map qe) (by rw [List.length_map]; omega) hz.sm
      have q1 := rpure_p (U := (t :: P).map qe) (by rw [List.length_map]; omega) hz.sm
      have hs := hz.sm (qe t) (by simp)
      have hw : 0 ≤ (qe t).w := by
        have := hz.v t (by simp)
        unfold QE.vt at this
        unfold QE.w
        omega
      have w1 := qW_ok hv t1 (by rw [PL_len]; simp) p1
      cases hp : purQ ((t :: P).map qe) with
      | true =>
        rw [hp] at w1 q1
        rw [if_pos rfl, if_pos rfl, if_pos rfl, show topQ ((t :: P).map qe) = (qe t).w from pur_top hp hw] at w1
        exact ⟨_, _, w1, rW_ok hc n1 q1 hs⟩
      | false =>
        rw [hp] at w1 q1
        rw [if_neg (by decide), if_neg (by decide)] at w1
        exact ⟨_, _, w1, rW_kind hc n1 (by rw [PL_len]; simp) q1⟩
theorem both_depth {U : List QE} (h : ArgOK U) : ∃ w e : Int, PC Tryz.prog 24 [.sl (U.map QE.av)] (.tup [iV w, iV e]) ∧ PC Tryz.prog 25 [.sl (U.map QE.av)] (.tup [iV w, iV e]) := by
  obtain ⟨b, hv, hc, hd⟩ := arg_v h
  cases b with
  | false => exact ⟨0, 2, qH_bad hv, rH_bad hc⟩
  | true =>
    have hd := hd rfl
    have hz := hd.nz
    exact ⟨_, 0, qH_ok (U := (qnf (U.map QE.t)).map qe) (by rw [List.length_map]; have := hz.l; omega) hv hd.tidy, rH_ok (U := (qnf (U.map QE.t)).map qe) (by rw [List.length_map]; have := hz.l; omega) hc hd.norm⟩
theorem lsame_p {R : List AV} {e : Int} (h : PC Tryz.prog 27 [.sl R, .sl R] (bV true)) : PC Tryz.prog 9 [.sl R, iV e, .sl R, iV e] (bV true) := by
  have ee : (e == e) = true := by simp
  refine pc_body1 true Tryz.func9 rfl rfl rfl (Nat.le_of_ble_eq_true rfl) CellT.tmp ?_
  refine goA ?_
  refine evG ggA (ss_call (InB_of rfl) rfl rfl h) ?_
  refine goA ?_
  rw [ee]
  exact rfl
set_option maxHeartbeats 8000000 in
theorem lring_core {X Y : List AV} {g g' : Bool} {d d' : List AV} (l1 : d.length ≤ 3) (l2 : d'.length ≤ 3) (hx : PC Tryz.prog 5 [.sl X] (bV false)) (hy : PC Tryz.prog 5 [.sl Y] (bV false))
    (b1 : BothQ 14 15 [.sl X]) (b2 : BothQ 16 17 [.sl X, .sl Y]) (b3 : BothQ 18 19 [.agg [.p (.bool g), .sl d, .p (.bool g'), .sl d'], .sl X]) (b4 : BothQ 20 21 [.sl X, .sl Y])
    (b5 : ∃ w e : Int, PC Tryz.prog 22 [.sl X] (.tup [iV w, iV e]) ∧ PC Tryz.prog 23 [.sl X] (.tup [iV w, iV e]))
    (b6 : ∃ w e : Int, PC Tryz.prog 24 [.sl X] (.tup [iV w, iV e]) ∧ PC Tryz.prog 25 [.sl X] (.tup [iV w, iV e])) :
    PC Tryz.prog 4 [.sl X, .sl Y, .agg [.p (.bool g), .sl d, .p (.bool g'), .sl d']] (bV true) := by
  have aw := q38awake_p
  obtain ⟨R1, e1, p1, q1, s1⟩ := b1.ex
  obtain ⟨R2, e2, p2, q2, s2⟩ := b2.ex
  obtain ⟨R3, e3, p3, q3, s3⟩ := b3.ex
  obtain ⟨R4, e4, p4, q4, s4⟩ := b4.ex
  obtain ⟨w, e5, p5, q5⟩ := b5
  obtain ⟨v, e6, p6, q6⟩ := b6
  have s1 := lsame_p (e := e1) s1
  have s2 := lsame_p (e := e2) s2
  have s3 := lsame_p (e := e3) s3
  have s4 := lsame_p (e := e4) s4
  have k1 : decide ((d.length : Int) > 3) = false := decide_eq_false (by omega)
  have k2 : decide ((d'.length : Int) > 3) = false := decide_eq_false (by omega)
  have n1 : (w == w) = true := by simp
  have n2 : (v == v) = true := by simp
  have n3 : (e5 == e5) = true := by simp
  have n4 : (e6 == e6) = true := by simp
  clear b1 b2 b3 b4
  refine pc_body1 true Tryz.func4 rfl rfl rfl (Nat.le_of_ble_eq_true rfl) CellT.tmp ?_
  refine goA ?_
  refine evG ggA (ss_call (InB_of rfl) rfl rfl hx) ?_
  refine goA ?_
  refine evG ggA (ss_call (InB_of rfl) rfl rfl hy) ?_
  refine goA ?_
  refine evG ggA (ss_call (InB_of rfl) rfl rfl p1) ?_
  refine goA ?_
  refine evG ggA (ss_call (InB_of rfl) rfl rfl q1) ?_
  refine goA ?_
  refine evG ggA (ss_call (InB_of rfl) rfl rfl s1) ?_
  refine goA ?_
  refine evG ggA (ss_call (InB_of rfl) rfl rfl p2) ?_
  refine goA ?_
  refine evG ggA (ss_call (InB_of rfl) rfl rfl q2) ?_
  refine goA ?_
  refine evG ggA (ss_call (InB_of rfl) rfl rfl s2) ?_
  refine goA ?_
  refine evG ggA (ss_call (InB_of rfl) rfl rfl p3) ?_
  refine goA ?_
  refine evG ggA (ss_call (InB_of rfl) rfl rfl q3) ?_
  refine goA ?_
  refine evG ggA (ss_call (InB_of rfl) rfl rfl s3) ?_
  refine goA ?_
  refine evG ggA (ss_call (InB_of rfl) rfl rfl p4) ?_
  refine goA ?_
  refine evG ggA (ss_call (InB_of rfl) rfl rfl q4) ?_
  refine goA ?_
  refine evG ggA (ss_call (InB_of rfl) rfl rfl p5) ?_
  refine goA ?_
  refine evG ggA (ss_call (InB_of rfl) rfl rfl q5) ?_
  refine goA ?_
  refine evG ggA (ss_call (InB_of rfl) rfl rfl p6) ?_
  refine goA ?_
  refine evG ggA (ss_call (InB_of rfl) rfl rfl q6) ?_
  refine goA ?_
  refine evG ggA (ss_call (InB_of rfl) rfl rfl s4) ?_
  refine goA ?_
  refine evG ggA (ss_call (InB_of rfl) rfl rfl aw) ?_
  refine goA ?_
  exact rfl
theorem lring_aw {X Y : List AV} {g g' : Bool} {d d' : List AV} {b c : Bool} (hx : PC Tryz.prog 5 [.sl X] (bV b)) (hy : PC Tryz.prog 5 [.sl Y] (bV c)) (h : b = true ∨ c = true ∨ 3 < d.length ∨ 3 < d'.length) :
    PC Tryz.prog 4 [.sl X, .sl Y, .agg [.p (.bool g), .sl d, .p (.bool g'), .sl d']] (bV true) := by
  have aw := q38awake_p
  cases b with
  | true =>
    refine pc_body1 true Tryz.func4 rfl rfl rfl (Nat.le_of_ble_eq_true rfl) CellT.tmp ?_
    refine goA ?_
    refine evG ggA (ss_call (InB_of rfl) rfl rfl hx) ?_
    refine goA ?_
    refine evG ggA (ss_call (InB_of rfl) rfl rfl aw) ?_
    refine goA ?_
    exact rfl
  | false =>
  cases c with
  | true =>
    refine pc_body1 true Tryz.func4 rfl rfl rfl (Nat.le_of_ble_eq_true rfl) CellT.tmp ?_
    refine goA ?_
    refine evG ggA (ss_call (InB_of rfl) rfl rfl hx) ?_
    refine goA ?_
    refine evG ggA (ss_call (InB_of rfl) rfl rfl hy) ?_
    refine goA ?_
    refine evG ggA (ss_call (InB_of rfl) rfl rfl aw) ?_
    refine goA ?_
    exact rfl
  | false =>
  by_cases h1 : 3 < d.length
  · have k1 : decide ((d.length : Int) > 3) = true := decide_eq_true (by omega)
    refine pc_body1 true Tryz.func4 rfl rfl rfl (Nat.le_of_ble_eq_true rfl) CellT.tmp ?_
    refine goA ?_
    refine evG ggA (ss_call (InB_of rfl) rfl rfl hx) ?_
    refine goA ?_
    refine evG ggA (ss_call (InB_of rfl) rfl rfl hy) ?_
    refine goA ?_
    refine evG ggA (ss_call (InB_of rfl) rfl rfl aw) ?_
    refine goA ?_
    exact rfl
  · have k1 : decide ((d.length : Int) > 3) = false := decide_eq_false (by omega)
    have k2 : decide ((d'.length : Int) > 3) = true := decide_eq_true (by simp at h; omega)
    refine pc_body1 true Tryz.func4 rfl rfl rfl (Nat.le_of_ble_eq_true rfl) CellT.tmp ?_
    refine goA ?_
    refine evG ggA (ss_call (InB_of rfl) rfl rfl hx) ?_
    refine goA ?_
    refine evG ggA (ss_call (InB_of rfl) rfl rfl hy) ?_
    refine goA ?_
    refine evG ggA (ss_call (InB_of rfl) rfl rfl aw) ?_
    refine goA ?_
    exact rfl
/-- a term that came in -/
abbrev RTm := Int × Int × Int × RQ
def tmQ (r : RTm) : QE := ⟨r.1, r.2.1, r.2.2.1, r.2.2.2.1.1, r.2.2.2.1.2.map u32, r.2.2.2.2.1, r.2.2.2.2.2.map u32, ratO r.2.2.2⟩
def QpOK (s : List RTm) : Prop := ∀ r, r ∈ s → DigR r.2.2.2
theorem tmQ_ok {r : RTm} (h : DigR r.2.2.2) (hb : bigQ (tmQ r) = false) : (tmQ r).ok 3 := by
  unfold bigQ tmQ at hb
  simp only [Bool.or_eq_false_iff, decide_eq_false_iff_not, List.length_map] at hb
  exact isV_raw h (by omega) (by omega)
theorem arg_ok {s : List RTm} (o : QpOK s) (h : greatQ (s.map tmQ) = false) : ArgOK (s.map tmQ) := by
  unfold greatQ at h
  by_cases h8 : (s.map tmQ).length > 8
  · rw [if_pos h8, decide_eq_false_iff_not] at h
    exact .inl (by omega)
  · rw [if_neg h8] at h
    refine .inr ⟨by omega, fun e he => ?_⟩
    obtain ⟨r, hr, rfl⟩ := List.mem_map.1 he
    exact tmQ_ok (o r hr) (by simpa using List.any_eq_false.1 h _ he)
theorem quasimodularRing_p (s : List RTm) (o : QpOK s) (r : List RTm) (oo : QpOK r) (c : RQ) (hc : DigR c) : PC Tryz.prog 4 [.sl ((s.map tmQ).map QE.av), .sl ((r.map tmQ).map QE.av), rawA c] (bV true) := by
  have g1 := great38_p (s.map tmQ)
  have g2 := great38_p (r.map tmQ)
  have ha : greatQ (s.map tmQ) = false → ArgOK (s.map tmQ) := arg_ok o
  have hb : greatQ (r.map tmQ) = false → ArgOK (r.map tmQ) := arg_ok oo
  generalize s.map tmQ = U at *
  generalize r.map tmQ = V at *
  have hV : c.1.2.length ≤ 3 → c.2.2.length ≤ 3 → IsV (rawA c) 3 (ratO c) := fun h1 h2 => isV_raw hc h1 h2
  generalize ratO c = q at hV
  unfold rawA at hV ⊢
  have l1 : (c.1.2.map u32).length = c.1.2.length := List.length_map ..
  have l2 : (c.2.2.map u32).length = c.2.2.length := List.length_map ..
  clear hc
  rw [← l1, ← l2] at hV
  generalize c.1.2.map u32 = d at *
  generalize c.2.2.map u32 = d' at *
  generalize c.1.1 = g at *
  generalize c.2.1 = g' at *
  clear l1 l2 c
  cases h1 : greatQ U with
  | true => rw [h1] at g1; exact lring_aw g1 g2 (.inl rfl)
  | false =>
  cases h2 : greatQ V with
  | true => rw [h2] at g2; exact lring_aw g1 g2 (.inr (.inl rfl))
  | false =>
  rw [h1] at g1
  rw [h2] at g2
  by_cases k1 : d.length ≤ 3
  · by_cases k2 : d'.length ≤ 3
    · have ha := ha h1
      have hb := hb h2
      exact lring_core k1 k2 g1 g2 (both_normal ha) (both_add ha hb) (both_scale ha (hV k1 k2)) (both_mul ha hb) (both_weight ha) (both_depth ha)
    · exact lring_aw g1 g2 (.inr (.inr (.inr (by omega))))
  · exact lring_aw g1 g2 (.inr (.inr (.inl (by omega))))
end Ab
