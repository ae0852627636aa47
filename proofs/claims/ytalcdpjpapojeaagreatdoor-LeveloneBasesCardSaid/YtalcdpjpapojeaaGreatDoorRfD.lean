/- Package ref01. -/
import Derived.Test.YtalcdpjpapojeaaGreatDoorRfC
set_option linter.all false
namespace Ab
open Go Go.RowKit Go.Proofs Hp
set_option maxRecDepth 100000
section
variable {dm : Bool} {P : Program} {ops : Array Oper} {s : AS} {dst : Option Tmp} {ty : TypeId} {pos : String} {after : Array Edge} {g : Option (Nat × Bool)}
def FieldG (P : Program) (t : TypeId) (f off n : Nat) : Prop := ∃ fs fd, P.underlying t = some (.struct fs) ∧ fs[f]? = some fd ∧ fd.offset = off ∧ AggT P fd.type n
def FieldO (P : Program) (t : TypeId) (f off : Nat) : Prop := ∃ fs fd, P.underlying t = some (.struct fs) ∧ fs[f]? = some fd ∧ fd.offset = off ∧ OneT P fd.type
theorem ss_fld_agg {t : TypeId} {y : Operand} {f off n : Nat} {cs l : List AV} (hin : InB s dst) (hf : FieldG P t f off n) (hy : s.ev y = some (.v (.agg cs))) (hl : (cs.drop off).take n = l) (hn : l.length = n) : Za9 dm P ops ⟨dst, .field t y f, ty, pos, after, g⟩ s (.v (.agg l)) .none :=
 Za6 hin fun s' hag w0 M0 ρ a w _ hr => by
  obtain ⟨fs, fd, h1, h2, h3, h4⟩ := hf
  obtain ⟨vs, h5, h6, h7, h8⟩ := agg_inv (hr.ev ((hag.ev (by simp [Op.operands])).trans hy))
  obtain ⟨k1, k2⟩ := isAgg_agg (w := w) h4
  subst hl
  refine ⟨.agg (vs.extract off (off + n)), ?_, ?_⟩
  ·simp [execOp, h5, Instr.field, run_underlying h1, h2, asAgg, part, h3, k1, k2]
  ·refine .agg _ _ (by simp [h6]; omega) (fun c hc => h7 c (List.mem_of_mem_drop (List.mem_of_mem_take hc))) (fun i c v hi hv => ?_)
   have hin : i < n := by have := (List.getElem?_eq_some_iff.1 hi).1; simp at this; omega
   have hi' : cs[off + i]? = some c := by
    rw [List.getElem?_take_of_lt hin, List.getElem?_drop] at hi
    exact hi
   obtain ⟨u, k3, k4⟩ := h8 (off + i) c hi'
   have : vs[off + i]? = some v := by
    rw [Array.getElem?_extract] at hv
    split at hv
    ·exact hv
    ·cases hv
   rw [k3] at this
   injection this with this
   subst this
   exact k4
theorem ss_fld_one {t : TypeId} {y : Operand} {f off : Nat} {cs : List AV} {c : AV} (hin : InB s dst) (hf : FieldO P t f off) (hy : s.ev y = some (.v (.agg cs))) (hc : cs[off]? = some c) : Za9 dm P ops ⟨dst, .field t y f, ty, pos, after, g⟩ s (.v c) .none :=
 Za6 hin fun s' hag w0 M0 ρ a w _ hr => by
  obtain ⟨fs, fd, h1, h2, h3, h4⟩ := hf
  obtain ⟨vs, h5, h6, h7, h8⟩ := agg_inv (hr.ev ((hag.ev (by simp [Op.operands])).trans hy))
  obtain ⟨k1, -⟩ := isAgg_one (w := w) h4
  obtain ⟨u, k3, k4⟩ := h8 off c hc
  refine ⟨u, ?_, k4⟩
  simp [execOp, h5, Instr.field, run_underlying h1, h2, asAgg, part, h3, k1, k3]
end
theorem fieldG_of {P : Program} {t : TypeId} {f off n : Nat} (h : (match P.underlying t with | some (.struct fs) => (match fs[f]? with | some fd => (match P.underlying fd.type, P.info? fd.type with | some (.struct _), some i => fd.offset == off && i.size == n | _, _ => false) | none => false) | _ => false) = true) : FieldG P t f off n := by
  cases hu : P.underlying t with
  | none => rw [hu] at h; cases h
  | some d =>
    rw [hu] at h
    cases d <;> first | cases h | skip
    rename_i fs
    simp only at h
    cases hf : fs[f]? with
    | none => rw [hf] at h; cases h
    | some fd =>
      rw [hf] at h
      simp only at h
      cases hu2 : P.underlying fd.type with
      | none => rw [hu2] at h; cases h
      | some d2 =>
        rw [hu2] at h
        cases d2 <;> first | cases h | skip
        rename_i fs2
        cases hi : P.info? fd.type with
        | none => rw [hi] at h; cases h
        | some i =>
          rw [hi] at h
          simp only [Bool.and_eq_true, beq_iff_eq] at h
          exact ⟨fs, fd, hu, hf, h.1, fs2, i, hu2, hi, h.2⟩
theorem fieldO_of {P : Program} {t : TypeId} {f off : Nat} (h : (match P.underlying t with | some (.struct fs) => (match fs[f]? with | some fd => (match P.underlying fd.type, P.info? fd.type with | some (.slice _), some i => fd.offset == off && i.size == 1 | _, _ => false) | none => false) | _ => false) = true) : FieldO P t f off := by
  cases hu : P.underlying t with
  | none => rw [hu] at h; cases h
  | some d =>
    rw [hu] at h
    cases d <;> first | cases h | skip
    rename_i fs
    simp only at h
    cases hf : fs[f]? with
    | none => rw [hf] at h; cases h
    | some fd =>
      rw [hf] at h
      simp only at h
      cases hu2 : P.underlying fd.type with
      | none => rw [hu2] at h; cases h
      | some d2 =>
        rw [hu2] at h
        cases d2 <;> first | cases h | skip
        rename_i e
        cases hi : P.info? fd.type with
        | none => rw [hi] at h; cases h
        | some i =>
          rw [hi] at h
          simp only [Bool.and_eq_true, beq_iff_eq] at h
          exact ⟨fs, fd, hu, hf, h.1, _, i, hu2, trivial, hi, h.2⟩
theorem fg_num : FieldG Tryz.prog 39 0 0 2 := fieldG_of (by kernel_rfl)
theorem fo_mag : FieldO Tryz.prog 37 1 1 := fieldO_of (by kernel_rfl)
set_option maxHeartbeats 1000000 in
theorem refsame_p (r q : Bool × List Int) (hr : r.2.length ≤ 4611686018427387904) : PW Tryz.prog 57 [rawI r, rawI q] (.p (.bool (decide (r = q)))) := by
 obtain ⟨g, ds⟩ := r
 obtain ⟨g', es⟩ := q
 have hr : ds.length ≤ 4611686018427387904 := hr
 by_cases h1 : g = g'
 ·subst h1
  have hb1 : (!(g == g)) = false := by simp
  by_cases h2 : ds.length = es.length
  ·have hb2 : (((ds.map u32).length : Int) != ((es.map u32).length : Int)) = false := by simp [h2]
   refine Zaz false Tryz.func57 rfl rfl rfl (Nat.le_of_ble_eq_true rfl) Zac.tmp ?_
   refine r1A ?_
   refine T.seqE (mkS [(2, .ptr 2 0), (3, .ptr 3 0)] [(2, .var [.v (.p (.bool g)), .v (.sl (ds.map u32))]), (3, .var [.v (.p (.bool g)), .v (.sl (es.map u32))])] 38 false) ?_ ?_
   ·refine goA ?_
    exact midE
   refine T.seqI (fun s1 => ds = es ∧ s1 = mkS [] [] 38 false) ?_ ?_
   ·refine r1A ?_
    refine T.block ?_
    refine T.loop (fun n s1 => ∃ k : Nat, n = ds.length - k ∧ k ≤ ds.length ∧ (∀ i, i < k → ds[i]? = es[i]?) ∧ s1 = mkS [(5, .v (iV k)), (2, .ptr 2 0), (3, .ptr 3 0)] [(2, .var [.v (.p (.bool g)), .v (.sl (ds.map u32))]), (3, .var [.v (.p (.bool g)), .v (.sl (es.map u32))])] 38 false) ds.length
     (s' := mkS [(5, .v (iV (0 : Nat))), (2, .ptr 2 0), (3, .ptr 3 0)] [(2, .var [.v (.p (.bool g)), .v (.sl (ds.map u32))]), (3, .var [.v (.p (.bool g)), .v (.sl (es.map u32))])] 38 false) entA ⟨0, rfl, Nat.zero_le _, fun i hi => absurd hi (Nat.not_lt_zero _), rfl⟩ ?_
    rintro n _ ⟨k, rfl, hk, hz, rfl⟩
    by_cases hlt : k < ds.length
    ·have hb : decide ((k : Int) < ((ds.map u32).length : Int)) = true := by simp; omega
     have e1 : ds[k]? = some ds[k] := List.getElem?_eq_getElem hlt
     have e2 : es[k]? = some es[k] := List.getElem?_eq_getElem oM
     have e3 := Zff e1
     have e4 := Zff e2
     refine goA ?_
     refine ixG e3 ?_
     refine ixA e4 ?_
     by_cases hd : ds[k] = es[k]
     ·have hb3 : (ds[k] != es[k]) = false := by simp [hd]
      refine goA ?_
      refine Zab (k := ds.length - (k + 1)) (s' := mkS [(5, .v (iV ((k : Int) + 1))), (2, .ptr 2 0), (3, .ptr 3 0)] [(2, .var [.v (.p (.bool g)), .v (.sl (ds.map u32))]), (3, .var [.v (.p (.bool g)), .v (.sl (es.map u32))])] 38 false) oM entA ⟨k + 1, rfl, hlt, fun i hi => ?_, by simp⟩
      by_cases hik : i = k
      ·subst hik; rw [e1, e2, hd]
      ·exact hz i oM
     ·have hb3 : (ds[k] != es[k]) = true := by simp [hd]
      have hne : decide ((g, ds) = (g, es)) = false := by
       simp only [Prod.mk.injEq, true_and, decide_eq_false_iff_not]
       intro e; subst e; exact hd rfl
      rw [hne]
      refine goA ?_
      exact rfl
    ·have hb : decide ((k : Int) < ((ds.map u32).length : Int)) = false := by simp; omega
     have hde : ds = es := by
      apply List.ext_getElem?
      intro i
      by_cases hi : i < k
      ·exact hz i hi
      ·rw [List.getElem?_eq_none oM, List.getElem?_eq_none oM]
     refine goA ?_
     exact Zae (s' := mkS [] [] 38 false) entA ⟨hde, rfl⟩
   rintro _ ⟨rfl, rfl⟩
   have hne : decide ((g, ds) = (g, ds)) = true := by simp
   rw [hne]
   refine goA ?_
   exact rfl
  ·have hb2 : (((ds.map u32).length : Int) != ((es.map u32).length : Int)) = true := by simp; omega
   have hne : decide ((g, ds) = (g, es)) = false := by
    simp only [Prod.mk.injEq, true_and, decide_eq_false_iff_not]
    intro e; subst e; exact h2 rfl
   rw [hne]
   refine Zaz false Tryz.func57 rfl rfl rfl (Nat.le_of_ble_eq_true rfl) Zac.tmp ?_
   refine goA ?_
   exact rfl
 ·have hb1 : (!(g == g')) = true := by simp [h1]
  have hne : decide ((g, ds) = (g', es)) = false := by
   simp only [Prod.mk.injEq, decide_eq_false_iff_not]
   exact fun e => h1 e.1
  rw [hne]
  refine Zaz false Tryz.func57 rfl rfl rfl (Nat.le_of_ble_eq_true rfl) Zac.tmp ?_
  refine goA ?_
  exact rfl
theorem refof_p (x : Int) (h0 : -9223372036854775808 ≤ x) (h1 : x ≤ 9223372036854775807) : PW Tryz.prog 98 [.p (.int .i64 x)] (encI x) := by
 have hd : ∀ d, d ∈ [((x.natAbs % 4294967296 : Nat) : Int), ((x.natAbs / 4294967296 : Nat) : Int)] → Zal d := fun d h => by
  simp only [List.mem_cons, List.not_mem_nil, or_false] at h
  unfold Zal B
  rcases h with rfl | rfl <;> omega
 have c := Zck (g := decide (x < 0)) hd (Nat.le_refl _) (Nat.le_of_ble_eq_true rfl)
 have e : zof (decide (x < 0)) (vl [((x.natAbs % 4294967296 : Nat) : Int), ((x.natAbs / 4294967296 : Nat) : Int)]) = x := by
  rw [vl_cons, vl_cons, vl_nil, B_def]
  by_cases h : x < 0
  ·simp [zof, h]; omega
  ·simp [zof, h]; omega
 rw [e] at c
 have k1 : IntKind.u32.wrap ((x.natAbs : Nat) : Int) = ((x.natAbs % 4294967296 : Nat) : Int) := by rw [u32m]; omega
 have k2 : ((x.natAbs : Nat) : Int).fdiv (2 ^ (min (32 : Int).toNat IntKind.u64.bits)) = ((x.natAbs / 4294967296 : Nat) : Int) := by rw [shr32 oM]; omega
 have k3 : IntKind.u32.wrap ((x.natAbs / 4294967296 : Nat) : Int) = ((x.natAbs / 4294967296 : Nat) : Int) := u32w oM oM
 unfold encI at c ⊢
 refine Zaz false Tryz.func98 rfl rfl rfl (Nat.le_of_ble_eq_true rfl) (Zac.agg Zbj) ?_
 refine r1A ?_
 refine T.seq ?_
 refine regA ?_
 refine runA ?_
 refine evG ggA (Zbf (Zaa rfl) (Zau rfl) (Zau rfl) rfl rfl) ?_
 refine runA ?_
 refine Zao ?_
 refine Za1 ?_
 refine T.seqE (mkS [(0, .v (iV x)), (2, .ptr 2 0), (3, .v (.p (.int .u64 (x.natAbs : Int))))] [(2, varI)] 19 false) ?_ ?_
 ·by_cases hx : x < 0
  ·have hb : decide (x < 0) = true := by simp [hx]
   have hw : IntKind.u64.wrap (0 - IntKind.u64.wrap x) = (x.natAbs : Int) := by rw [IntKind.wrap_u64, IntKind.wrap_u64]; omega
   refine goA ?_
   refine evG ggA (ss_neg (Zaa rfl) rfl hw) ?_
   refine goA ?_
   exact midE
  ·have hb : decide (x < 0) = false := by simp; omega
   have hw : IntKind.u64.wrap x = (x.natAbs : Int) := by rw [IntKind.wrap_u64]; omega
   rw [hw]
   refine goA ?_
   exact midE
 refine goA ?_
 refine evG ggA (Zbf (Zaa rfl) (Zau rfl) (Zau rfl) rfl k1) ?_
 refine goA ?_
 refine evG ggA (Zfh (Zaa rfl) rfl rfl dC k2) ?_
 refine evG ggA (Zbf (Zaa rfl) (Zau rfl) (Zau rfl) rfl k3) ?_
 refine evG ggA (Zaw (Zaa rfl) (Zaf rfl) rfl rfl rfl rfl (fun x hx => by simp only [List.mem_cons, List.not_mem_nil, or_false] at hx; rcases hx with rfl | rfl <;> exact ⟨rfl, rfl⟩) (Nat.le_of_ble_eq_true rfl)) ?_
 refine clG c ?_
 exact rfl
theorem refdivided_p {a b : AV} {k : Nat} {p q : Int} (ha : IsI a k p) (hb : IsI b k q) (hq : q ≠ 0) (hk : k ≤ 274877906944) : PW Tryz.prog 100 [a, b] (encI (p / q)) := by
 have c := euclid_p ha hb hq hk
 obtain ⟨cs, rfl, g, ds, rfl, -⟩ := ha
 obtain ⟨cs, rfl, g', ds', rfl, -⟩ := hb
 unfold encI at c ⊢
 unfold ci at c
 refine Zaz false Tryz.func100 rfl rfl rfl (Nat.le_of_ble_eq_true rfl) (Zac.agg Zbj) ?_
 refine goA ?_
 refine clG c ?_
 exact rfl
abbrev varQ : Blk := .var [.v (.p (.bool false)), .v (.p nilV), .v (.p (.bool false)), .v (.p nilV)]
def gsg (n d : Int) : Int := if d < 0 then -((Int.gcd n d : Nat) : Int) else ((Int.gcd n d : Nat) : Int)
theorem gcdZ_def (n d : Int) : gcdZ n d = ((Int.gcd n d : Nat) : Int) := rfl
theorem gsg_ne {n d : Int} (hd : d ≠ 0) : gsg n d ≠ 0 := by
 have : 0 < Int.gcd n d := Int.gcd_pos_of_ne_zero_right _ hd
 unfold gsg
 split <;> omega
theorem gsg_parts {n d : Int} (hd : d ≠ 0) : (Rat.divInt n d).num = n / gsg n d ∧ ((Rat.divInt n d).den : Int) = d / gsg n d := by
 by_cases h : d < 0
 ·have e : Rat.divInt n d = Rat.divInt (-n) (-d) := (Rat.neg_divInt_neg n d).symm
  have hp := Zcv (n := -n) (d := -d) oM
  rw [e, hp.1, hp.2, gcdZ_def, Int.gcd_neg, Int.neg_gcd]
  unfold gsg
  rw [if_pos h, Int.ediv_neg, Int.ediv_neg, Int.neg_ediv_of_dvd (Int.gcd_dvd_left n d), Int.neg_ediv_of_dvd (Int.gcd_dvd_right n d)]
  exact ⟨rfl, rfl⟩
 ·have hp := Zcv (n := n) (d := d) oM
  unfold gsg
  rw [if_neg h]
  exact hp
theorem gsg_lt {n d : Int} {k : Nat} (hd : d ≠ 0) (h : d.natAbs < pw k) : (gsg n d).natAbs < pw k := by
 have h1 : Int.gcd n d ≤ d.natAbs := Nat.gcd_le_right _ oM
 have : (gsg n d).natAbs = Int.gcd n d := by unfold gsg; split <;> omega
 omega
theorem ri_iff {x y : Int} : decide (ri x = ri y) = decide (x = y) := by
 rw [decide_eq_decide]
 exact ⟨ri_inj, fun h => by rw [h]⟩
theorem refof2_p (x : Int) (h0 : -9223372036854775808 ≤ x) (h1 : x ≤ 9223372036854775807) : PW Tryz.prog 95 [.p (.int .i64 x)] (encQ (x : Rat)) := by
 have c1 := refof_p x h0 h1
 have c2 := refof_p 1 dC dC
 have e : encQ (x : Rat) = .agg (ci x ++ ci 1) := by unfold encQ; rw [Rat.num_intCast, Rat.den_intCast]; rfl
 rw [e]
 unfold encI at c1 c2
 refine Zaz false Tryz.func95 rfl rfl rfl (Nat.le_of_ble_eq_true rfl) (Zac.agg Zbg) ?_
 refine goA ?_
 refine clA c1 ?_
 refine clG c2 ?_
 exact rfl
set_option maxHeartbeats 4000000 in
theorem over_p {a b : AV} {k : Nat} {n d : Int} (ha : IsI a k n) (hb : IsI b k d) (hk : k ≤ 274877906944) : PW Tryz.prog 58 [a, b] (encQ (Rat.divInt n d)) := by
 have cs := refsign_p hb oM
 by_cases h0 : d = 0
 ·have hb0 : (sgn d == 0) = true := by rw [h0]; rfl
  have co := refof2_p 0 dC dC
  have e : Rat.divInt n d = ((0 : Int) : Rat) := by rw [h0, Rat.divInt_zero]; rfl
  rw [e]
  obtain ⟨cs', rfl, g, ds, rfl, -⟩ := ha
  obtain ⟨cs', rfl, g', ds', rfl, -⟩ := hb
  unfold encQ at co ⊢
  refine Zaz false Tryz.func58 rfl rfl rfl (Nat.le_of_ble_eq_true rfl) (Zac.agg Zbg) ?_
  refine goA ?_
  refine clG cs ?_
  refine clG co ?_
  exact rfl
 have hb0 : (sgn d == 0) = false := by
  unfold sgn
  by_cases h1 : d < 0
  ·rw [if_pos h1]; rfl
  ·rw [if_neg h1, if_pos (show 0 < d by omega)]; rfl
 have hbs : decide (sgn d < 0) = decide (d < 0) := by
  unfold sgn
  by_cases h1 : d < 0
  ·rw [if_pos h1]; simp [h1]
  ·rw [if_neg h1, if_pos (show 0 < d by omega)]; simp [h1]
 have cg := refgcd_p ha hb hk
 have hlt := isI_lt hb
 have hgl := gsg_lt (n := n) h0 hlt
 have hgn := gsg_ne (n := n) h0
 have hGl : ((Int.gcd n d : Nat) : Int).natAbs < pw k := by
  have h1 : Int.gcd n d ≤ d.natAbs := Nat.gcd_le_right _ oM
  rw [Int.natAbs_natCast]
  omega
 have cn := refneg_p (Zar hGl) oM
 have cof := refof_p 1 dC dC
 have csm := refsame_p (ri (gsg n d)) (ri 1) (by
  have : (dgs (gsg n d).natAbs).length ≤ k := Zfp hgl
  show (dgs (gsg n d).natAbs).length ≤ _
  omega)
 rw [ri_iff] at csm
 have cn1 := Zex ha oM
 have cn2 := Zex hb oM
 have cd1 := refdivided_p ha (Zar hgl) hgn hk
 have cd2 := refdivided_p hb (Zar hgl) hgn hk
 obtain ⟨q1, q2⟩ := gsg_parts (n := n) h0
 have e : encQ (Rat.divInt n d) = .agg (ci (n / gsg n d) ++ ci (d / gsg n d)) := by unfold encQ; rw [q1, q2]
 rw [e]
 have hgd : gsg n d = if d < 0 then -((Int.gcd n d : Nat) : Int) else ((Int.gcd n d : Nat) : Int) := rfl
 have csm' : PW Tryz.prog 57 [encI (gsg n d), encI 1] (.p (.bool (decide (gsg n d = 1)))) := csm
 clear csm
 generalize gsg n d = G at *
 generalize ((Int.gcd n d : Nat) : Int) = g0 at *
 obtain ⟨cs', rfl, g, ds, rfl, -⟩ := ha
 obtain ⟨cs', rfl, g', ds', rfl, -⟩ := hb
 unfold encI at cg cn cof csm' cn1 cn2 cd1 cd2
 unfold ci at cg cn cof csm' cd1 cd2
 refine Zaz false Tryz.func58 rfl rfl rfl (Nat.le_of_ble_eq_true rfl) (Zac.agg Zbg) ?_
 refine r1A ?_
 refine T.seqE (mkS [(2, .ptr 2 0), (3, .ptr 3 0), (4, .ptr 4 0)] [(2, .var [.v (.p (.bool g)), .v (.sl (ds.map u32))]), (3, .var [.v (.p (.bool g')), .v (.sl (ds'.map u32))]), (4, varQ)] 33 false) ?_ ?_
 ·refine goA ?_
  refine clG cs ?_
  exact midE
 refine T.seqE (mkS [(2, .ptr 2 0), (3, .ptr 3 0), (4, .ptr 4 0), (5, .ptr 5 0)] [(2, .var [.v (.p (.bool g)), .v (.sl (ds.map u32))]), (3, .var [.v (.p (.bool g')), .v (.sl (ds'.map u32))]), (4, varQ), (5, .var [.v (.p (.bool (decide (g0 < 0)))), .v (.sl ((dgs g0.natAbs).map u32))])] 33 false) ?_ ?_
 ·refine goA ?_
  refine clG cg ?_
  exact midE
 refine T.seqE (mkS [(2, .ptr 2 0), (3, .ptr 3 0), (4, .ptr 4 0), (5, .ptr 5 0)] [(2, .var [.v (.p (.bool g)), .v (.sl (ds.map u32))]), (3, .var [.v (.p (.bool g')), .v (.sl (ds'.map u32))]), (4, varQ), (5, .var [.v (.p (.bool (decide (G < 0)))), .v (.sl ((dgs G.natAbs).map u32))])] 33 false) ?_ ?_
 ·by_cases h1 : d < 0
  ·rw [decide_eq_true h1] at hbs
   rw [if_pos h1] at hgd
   subst hgd
   refine goA ?_
   refine clG cs ?_
   refine clG cn ?_
   exact midE
  ·rw [decide_eq_false h1] at hbs
   rw [if_neg h1] at hgd
   subst hgd
   refine goA ?_
   refine clG cs ?_
   exact midE
 by_cases h2 : G = 1
 ·subst h2
  rw [decide_eq_true rfl] at csm'
  rw [Int.ediv_one, Int.ediv_one]
  refine goA ?_
  refine clA cof ?_
  refine clG csm' ?_
  refine clG cn1 ?_
  refine clG cn2 ?_
  exact rfl
 ·rw [decide_eq_false h2] at csm'
  refine goA ?_
  refine clA cof ?_
  refine clG csm' ?_
  refine clG cd1 ?_
  refine clG cd2 ?_
  exact rfl
theorem Zca {a : AV} {k : Nat} {q : Rat} (h : IsV a k q) (hk : k ≤ 274877906944) : PW Tryz.prog 23 [a] (encQ q) := by
 obtain ⟨cs, ds, p, d, rfl, h1, h2, rfl⟩ := h
 have c := over_p ⟨cs, rfl, h1⟩ ⟨ds, rfl, h2⟩ hk
 obtain ⟨g, l, rfl, -⟩ := h1
 obtain ⟨g', l', rfl, -⟩ := h2
 unfold encQ at c ⊢
 refine Zaz false Tryz.func23 rfl rfl rfl (Nat.le_of_ble_eq_true rfl) (Zac.agg Zbg) ?_
 refine goA ?_
 refine clG c ?_
 exact rfl
theorem lt_mul {x y : Int} {k l : Nat} (hx : x.natAbs < pw k) (hy : y.natAbs < pw l) : (x * y).natAbs < pw (k + l) := by
 rw [pw_nat] at hx hy ⊢
 rw [Int.natAbs_mul, Nat.pow_add]
 have := Nat.mul_lt_mul'' (show x.natAbs < 4294967296 ^ k by omega) (show y.natAbs < 4294967296 ^ l by omega)
 omega
theorem Zb7 {a b : AV} {k l : Nat} {p q : Rat} (ha : IsV a k p) (hb : IsV b l q) (hk : k + l ≤ 274877906944) : PW Tryz.prog 78 [a, b] (encQ (p * q)) := by
 obtain ⟨cs, ds, n1, d1, rfl, h1, h2, rfl⟩ := ha
 obtain ⟨es, fs, n2, d2, rfl, h3, h4, rfl⟩ := hb
 have c1 := Zdo ⟨cs, rfl, h1⟩ ⟨es, rfl, h3⟩ oM oM
 have c2 := Zdo ⟨ds, rfl, h2⟩ ⟨fs, rfl, h4⟩ oM oM
 have c3 := over_p (Zar (lt_mul (isC_lt h1) (isC_lt h3))) (Zar (lt_mul (isC_lt h2) (isC_lt h4))) hk
 rw [Rat.divInt_mul_divInt]
 obtain ⟨g, x, rfl, -⟩ := h1
 obtain ⟨g', x', rfl, -⟩ := h2
 obtain ⟨j, y, rfl, -⟩ := h3
 obtain ⟨j', y', rfl, -⟩ := h4
 unfold encI at c1 c2 c3
 unfold encQ at c3 ⊢
 refine Zaz false Tryz.func78 rfl rfl rfl (Nat.le_of_ble_eq_true rfl) (Zac.agg Zbg) ?_
 refine goA ?_
 refine clG c1 ?_
 refine clA c2 ?_
 refine clG c3 ?_
 exact rfl
end Ab
