/- The statement QuadformGroup: walked (the lemmas of QyB stand here, too: a claim holds at most 60 files). -/
import Derived.Test.YtajlkcnlfiikeaaQyA
set_option linter.all false
namespace Ab
open Go Go.RowKit Go.Proofs Qf
set_option maxRecDepth 100000

def u16 (x : Int) : AV := .p (.int .u16 x)
def B16 (x : Int) : Prop := 0 ≤ x ∧ x ≤ 65535
theorem pick {l : List F} (h : 0 < l.length) {x : Int} (h0 : 0 ≤ x) : ∃ f, f ∈ l ∧ 0 ≤ x.tmod l.length ∧ x.tmod l.length < l.length ∧ (l.map fA)[(x.tmod l.length).toNat]? = some (fA f) := by
  have h1 := Int.emod_nonneg x (show (l.length : Int) ≠ 0 by omega)
  have h2 := Int.emod_lt_of_pos x (show 0 < (l.length : Int) by omega)
  rw [tmod_pos h0]
  have h3 : (x % l.length).toNat < l.length := by omega
  exact ⟨l[(x % l.length).toNat], List.getElem_mem _, h1, h2, by simp [h3]⟩
/-- the inverse -/
theorem cmp_inv {f : F} (h : compC f f.bar = 0) (hd : posC f.disc = 0) : cmpF f.rd f.bar.rd = idF f.disc := by
  have can := compC_zero h
  obtain ⟨r, hr, -⟩ := compose_p can
  have e := hr.bar can.cf
  rw [← idF_idn hd] at e
  rw [cmpF_eq (cmp_rd hr), e]
theorem bar_bd {f : F} {N : Int} (h : FBd N f) : FBd N f.bar := ⟨h.a, by have := h.b; show Bd N (-f.b); unfold Bd at *; omega, h.c⟩
theorem can_bar {f : F} (h : Can f f) : Can f f.bar := ⟨h.pf, bar_pos h.pf, h.bf, bar_bd h.bf, h.cf, by rw [bar_ct]; exact h.cf, bar_disc f, h.d4⟩
theorem Cl.cmp_bar {d : Int} {f : F} (h : Cl d f) (hd : posC d = 0) : PC Try.prog 14 [fA f, fA f.bar] (.tup [fA (idF d), iV 0]) := by
  have h0 := (posC_zero hd).1
  have k := compC_of (can_bar (h.can h h0))
  have c := (Compose_c k).2
  rw [cmp_inv k (by rw [h.d]; exact hd), h.d] at c
  exact c

theorem T.drawE {dm : Bool} {P : Program} {l : List Oper} {s : AS} {id : Nat} {Q : Exit → AS → Prop} (hm : P.follows .mixedOrders = true) (h : EvX dm false P l.toArray l s (fun z => okE z l (Region.before l.toArray) = true ∧ Q .normal z)) : T dm P (.region id l.toArray true) s Q := T.draw2 hm h
set_option maxHeartbeats 8000000 in
theorem group_p (d : Int) {i j k : Int} (hi : B16 i) (hj : B16 j) (hk : B16 k) : PC Try.prog 6 [iV d, .agg [u16 i, u16 j, u16 k]] (bV true) := by
  have ca := awake_p
  have c1 := ClassesG d
  unfold clsO at c1
  by_cases h : posC d = 0
  case neg =>
    rw [if_neg h] at c1
    have k : (posC d != 0) = true := by simpa using h
    generalize posC d = c at *
    refine pc_body1 true Try.func6 rfl rfl rfl (Nat.le_of_ble_eq_true rfl) CellT.tmp ?_
    refine goA ?_
    refine evG ggA (ss_call (InB_of rfl) rfl rfl ca) ?_
    refine goA ?_
    refine evG ggA (ss_call (InB_of rfl) rfl rfl c1) ?_
    refine goA ?_
    exact rfl
  rw [if_pos h] at c1
  have c2 := IdentityG d
  unfold idO at c2
  rw [if_pos h] at c2
  have G := gp_cls h
  obtain ⟨h0, h1⟩ := posC_zero h
  have hl : 0 < (cls d).length := G.len_pos
  have hll : ((cls d).length : Int) ≤ 2664 := by
    have := cA_len d 36 (by decide)
    unfold cls
    omega
  obtain ⟨f, mf, f0, f1, f2⟩ := pick hl hi.1
  obtain ⟨g, mg, g0, g1, g2⟩ := pick hl hj.1
  obtain ⟨e, me, e0, e1, e2⟩ := pick hl hk.1
  have kf := (mem_cl h).1 mf
  have kg := (mem_cl h).1 mg
  have ke := (mem_cl h).1 me
  have m1 := G.cl _ _ mf mg
  have m2 := G.cl _ _ mg me
  have c3 := kf.Compose h0 kg
  have c4 := kg.Compose h0 kf
  have c5 := kg.Compose h0 ke
  have c6 := ((mem_cl h).1 m1).Compose h0 ke
  have c7 := kf.Compose h0 ((mem_cl h).1 m2)
  have c8 := kf.Compose h0 (idF_cl h)
  have c9 := kf.cmp_bar h
  rw [G.comm _ _ mg mf] at c4
  rw [← G.assoc _ _ _ mf mg me] at c7
  rw [G.one' mf] at c8
  rw [show fA f.bar = fA ⟨f.a, 0 - f.b, f.c⟩ by unfold F.bar; rw [Int.zero_sub]] at c9
  have hfb0 := (sd_of kf.r (by rw [kf.d]; exact h0)).bd.b
  clear kf kg ke m1 m2 mf mg me G
  generalize cmpF (cmpF f g) e = p at *
  generalize cmpF f g = q at *
  generalize cmpF g e = r at *
  generalize idF d = one at *
  generalize cls d = l at *
  unfold B16 at hi hj hk
  have hln : (l.map fA).length = l.length := List.length_map ..
  have hlp : 0 < (l.map fA).length := by rw [hln]; exact hl
  have t2 : (!decide ([q.a, q.b, q.c] = [q.a, q.b, q.c])) = false := by simp
  have t3 : decide ([p.a, p.b, p.c] = [p.a, p.b, p.c]) = true := by simp
  have t4 : decide ([f.a, f.b, f.c] = [f.a, f.b, f.c]) = true := by simp
  have t5 : decide ([one.a, one.b, one.c] = [one.a, one.b, one.c]) = true := by simp
  have hfb : -1400 ≤ f.b ∧ f.b ≤ 1400 := hfb0
  rw [← hln] at f0 f1 f2 g0 g1 g2 e0 e1 e2
  refine pc_body1 true Try.func6 rfl rfl rfl (Nat.le_of_ble_eq_true rfl) CellT.tmp ?_
  refine goA ?_
  refine evG ggA (ss_call (InB_of rfl) rfl rfl ca) ?_
  refine goA ?_
  refine evG ggA (ss_call (InB_of rfl) rfl rfl c1) ?_
  refine goA ?_
  have t1 : (((l.map fA).length : Int) == 0) = false := beq_false_of_ne (by omega)
  refine T.condF rfl t1 ?_
  refine T.skip ?_
  (repeat (first | with_reducible refine seqQ_n ?_ | with_reducible refine seqQ_e ?_ | with_reducible refine seqQ_r ?_ | with_reducible refine blockQ_n ?_ | with_reducible refine blockQ_r ?_ | with_reducible refine blockQ_e rfl ?_ | with_reducible refine blockQ_o rfl ?_ | with_reducible refine loopQ_e ?_ | with_reducible refine loopQ_r ?_ | with_reducible refine midQ_e ?_ | with_reducible refine midQ_r ?_ | with_reducible refine roundQ_n ?_ | with_reducible refine roundQ_e ?_ | with_reducible refine roundQ_r ?_))
  refine T.seq ?_
  refine T.drawE mixed ?_
  refine runA ?_
  refine evG ggA (ss_index_arr (InB_of rfl) arr_u16 rfl rfl (by decide) (by decide)) ?_
  refine runA ?_
  refine evG ggA (ss_conv (InB_of rfl) und_u16 und_int rfl (w64 (by omega) (by omega))) ?_
  refine runA ?_
  refine evG ggA (ss_div (op := .rem) (InB_of rfl) rfl rfl (by omega) rfl) ?_
  refine runA ?_
  refine evG ggA (ss_index_sl (InB_of rfl) (elem_tab rfl) rfl rfl f0 f2 rfl) ?_
  refine runA ?_
  refine evG ggA (ss_index_arr (InB_of rfl) arr_u16 rfl rfl (by decide) (by decide)) ?_
  refine runA ?_
  refine evG ggA (ss_conv (InB_of rfl) und_u16 und_int rfl (w64 (by omega) (by omega))) ?_
  refine runA ?_
  refine evG ggA (ss_div (op := .rem) (InB_of rfl) rfl rfl (by omega) rfl) ?_
  refine runA ?_
  refine evG ggA (ss_index_sl (InB_of rfl) (elem_tab rfl) rfl rfl g0 g2 rfl) ?_
  refine runA ?_
  refine evG ggA (ss_index_arr (InB_of rfl) arr_u16 rfl rfl (by decide) (by decide)) ?_
  refine runA ?_
  refine evG ggA (ss_conv (InB_of rfl) und_u16 und_int rfl (w64 (by omega) (by omega))) ?_
  refine runA ?_
  refine evG ggA (ss_div (op := .rem) (InB_of rfl) rfl rfl (by omega) rfl) ?_
  refine runA ?_
  refine evG ggA (ss_index_sl (InB_of rfl) (elem_tab rfl) rfl rfl e0 e2 rfl) ?_
  refine runA ?_
  refine ev_nil ⟨by kernel_rfl, ?_⟩
  refine goA ?_
  refine evG ggA (ss_call (InB_of rfl) rfl rfl c2) ?_
  refine goA ?_
  refine evG ggA (ss_call (InB_of rfl) rfl rfl c3) ?_
  refine goA ?_
  refine evG ggA (ss_call (InB_of rfl) rfl rfl c4) ?_
  refine goA ?_
  refine evG ggA (ss_call (InB_of rfl) rfl rfl c5) ?_
  refine goA ?_
  refine evG ggA (ss_eq3 (InB_of rfl) rfl rfl rfl rfl) ?_
  refine goA ?_
  refine evG ggA (ss_call (InB_of rfl) rfl rfl c6) ?_
  refine goA ?_
  refine evG ggA (ss_call (InB_of rfl) rfl rfl c7) ?_
  refine goA ?_
  refine evG ggA (ss_call (InB_of rfl) rfl rfl c8) ?_
  refine goA ?_
  refine evG ggA (ss_call (InB_of rfl) rfl rfl c9) ?_
  refine goA ?_
  refine evG ggA (ss_eq3 (InB_of rfl) rfl rfl rfl rfl) ?_
  refine goA ?_
  refine evG ggA (ss_eq3 (InB_of rfl) rfl rfl rfl rfl) ?_
  refine goA ?_
  refine evG ggA (ss_eq3 (InB_of rfl) rfl rfl rfl rfl) ?_
  refine goA ?_
  rw [t5]
  exact rfl
end Ab
