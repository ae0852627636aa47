/- A call within a call: the frame, for any context; functions that defer a closure. -/
import Derived.Test.YtbpdgaolmikjbaaGreatRdJ
import Derived.Defers
set_option linter.all false
namespace Ab
open Go Go.RowKit Go.Proofs
theorem frame_core {dm : Bool} {s : AS} {L L' : List (Nat × Blk)} {nd : Bool} (S : List (Nat × Nat)) (df : List Deferred) (hS : okS S L L' = true) (hnd : s.nd = nd) (hdm : (!dm || nd) = true)
  (hL : AllP (fun p : Nat × Blk => s.m (sg S p.1) = some (renB (sg S) p.2)) L) (hnew : AllP (fun p : Nat × Nat => (Zaq L p.1).isSome = true ∨ s.m p.2 = none) S) {w0 w : World} {M0 : Cx} {ρ : Nat → Option (Nat × Nat)} {a : Act} (hM : OKC dm M0 w0) (hr : RelR w0 M0 ρ s a w) :
  ∃ C : Cx, OKC dm C w ∧ C.m0 = Zaq L ∧ C.df = df ∧
   (∀ (t : Nat → Option TV) (nt : Nat) (a0 : Act), a0.defers = df → a0.tmps.size = nt → (∀ i x, t i = some x → Zgy L x = true ∧ ∃ v, a0.tmps[i]? = some v ∧ TRep w (MM M0 ρ s.m) ρ s.m (Zdb (sg S) x) v) → RelR w C C.ρ0 { t := t, m := Zaq L, nt := nt, nd := nd, k := L.map (·.1) } a0 w) ∧
   ∀ w' ρ' t' nt' k' a', RelR w C ρ' { t := t', m := Zaq L', nt := nt', nd := nd, k := k' } a' w' → ∃ ρ'', RelR w0 M0 ρ'' { s with m := memR S L' s.m } a w' ∧ ∀ x v, TRep w' (MM C ρ' (Zaq L')) ρ' (Zaq L') x v → TRep w' (MM M0 ρ'' (memR S L' s.m)) ρ'' (memR S L' s.m) (Zdb (sg S) x) v := by
 simp only [okS, Bool.and_eq_true, List.all_eq_true] at hS
 obtain ⟨⟨⟨⟨⟨n1, n2⟩, oL⟩, oL'⟩, oS⟩, cl⟩ := hS
 have hiff := fun {i j : Nat} => sg_iff (i := i) (j := j) n1 n2
 have hLm := Zd4 hL
 have inS : ∀ {L0 : List (Nat × Blk)}, (∀ p, p ∈ L0 → (Zaq S p.1).isSome = true) → ∀ {i b}, Zaq L0 i = some b → Zaq S i = some (sg S i) := fun h i b hi => by
  have := h (i, b) (Zbw hi)
  obtain ⟨j, hj⟩ := Option.isSome_iff_exists.1 this
  unfold sg
  rw [hj]; rfl
 have iL := fun {i b} => inS oL (i := i) (b := b)
 have iL' := fun {i b} => inS oL' (i := i) (b := b)
 have F1 : ∀ i b, Zaq L i = some b → s.m (sg S i) = some (renB (sg S) b) := fun i b h => hLm i b h
 -- what the callee is given
 have hC : ∃ C : Cx, C = ⟨fun b => MM M0 ρ s.m b ∧ ¬ ∃ i k, (Zaq L i).isSome = true ∧ ρ (sg S i) = some (b, k), Zaq L, fun i => ρ (sg S i), df⟩ := ⟨_, rfl⟩
 obtain ⟨C, eC⟩ := hC
 have cM : ∀ b, C.M b ↔ (MM M0 ρ s.m b ∧ ¬ C.P b) := fun b => by rw [eC]; exact Iff.rfl
 have cm : C.m0 = Zaq L := by rw [eC]
 have cρ : ∀ i, C.ρ0 i = ρ (sg S i) := fun i => by rw [eC]
 have cd : C.df = df := by rw [eC]
 have cP : ∀ b, C.P b → ∃ i k, (Zaq L i).isSome = true ∧ ρ (sg S i) = some (b, k) := fun b h => by rw [eC] at h; exact h
 clear eC
 have F1s : ∀ i, (Zaq L i).isSome = true → (s.m (sg S i)).isSome = true := fun i h => by
  obtain ⟨b, hb⟩ := Option.isSome_iff_exists.1 h
  rw [F1 i b hb]; rfl
 have cPb : ∀ b, C.P b → (w0.heap.size ≤ b ∨ M0.P b) ∧ b < w.heap.size := fun b h => by
  obtain ⟨i, k, h1, h2⟩ := cP b h
  exact hr.base _ b k (F1s i h1) h2
 have cPM : ∀ b, C.P b → MM M0 ρ s.m b := fun b h => by
  obtain ⟨i, k, h1, h2⟩ := cP b h
  exact .inr ⟨_, k, F1s i h1, h2⟩
 have hOKw := okm_of hM hr (by rw [hnd]; exact hdm)
 have hOK : OKC dm C w := ⟨⟨fun b hb => hOKw.1 b ((cM b).1 hb).1, fun b l hb => ⟨fun h => (hOKw.2 b l hb).1 ((cM b).1 h).1, (hOKw.2 b l hb).2⟩⟩, fun b hb => ⟨(cPb b hb).2, fun h => ((cM b).1 h).2 hb, by
  cases ht : Tabs b with
  | none => rfl
  | some l => exact ((hOKw.2 b l ht).1 (cPM b hb)).elim⟩⟩
 have sub : ∀ b, MM C C.ρ0 (Zaq L) b → MM M0 ρ s.m b := by
  rintro b (h | ⟨i, k, h1, h2⟩)
  ·exact ((cM b).1 h).1
  ·exact .inr ⟨_, k, F1s i h1, by rw [← cρ]; exact h2⟩
 refine ⟨C, hOK, cm, cd, fun t nt a0 hd0 hn0 ht => ?_, fun w' ρ' t' nt' k' a' h => ?_⟩
 ·refine ⟨BelowX.refl _ _, hd0.trans cd.symm, hn0, fun i b k h1 h2 => ?_, fun i j b k l h1 h2 h3 h4 => ?_, fun i x hx => ?_, fun i x hx => ?_, ?_, fun i hi => ?_⟩
  ·exact ⟨.inr ⟨i, k, by rw [cm]; exact h1, h2⟩, (hr.base _ b k (F1s i h1) (by rw [← cρ]; exact h2)).2⟩
  ·have := hr.inj _ _ b k l (F1s i h1) (F1s j h2) (by rw [← cρ]; exact h3) (by rw [← cρ]; exact h4)
   obtain ⟨x, hx⟩ := Option.isSome_iff_exists.1 h1
   obtain ⟨y, hy⟩ := Option.isSome_iff_exists.1 h2
   have e1 := hiff.1 (iL hx)
   have e2 := hiff.1 (iL hy)
   rw [this, e2] at e1
   injection e1 with e1
   exact e1.symm
  ·have h1 := hr.slots _ _ (F1 i x hx)
   refine Zdq.unren (σ := sg S) (m' := s.m) (ρ' := ρ) (M' := MM M0 ρ s.m) (nd' := s.nd) (fun e => by rw [hnd]; exact e) (fun b _ h => sub b h) (cρ i).symm (fun cs e c hc j hj => ?_) h1
   have h2 := cl (i, x) (Zbw hx)
   have h3 := List.all_eq_true.1 (show Zgy L c = true by
    rcases e with e | ⟨ty, e⟩ <;> (rw [e] at h2; simp only [List.all_eq_true] at h2; exact h2 c hc)) j hj
   obtain ⟨b, hb⟩ := Option.isSome_iff_exists.1 h3
   exact ⟨b, hb, F1 j b hb, (cρ j).symm⟩
  ·obtain ⟨har, v, hv1, hv2⟩ := ht i x hx
   refine ⟨v, hv1, ?_⟩
   refine TRep.unren (σ := sg S) (m' := s.m) (ρ' := ρ) (M' := MM M0 ρ s.m) (fun b _ h => sub b h) (fun j hj => ?_) hv2
   have h3 := List.all_eq_true.1 har j hj
   obtain ⟨b, hb⟩ := Option.isSome_iff_exists.1 h3
   exact ⟨b, hb, F1 j b hb, (cρ j).symm⟩
  ·rw [cm]; exact Zev.refl _ _
  ·rw [cm] at hi
   obtain ⟨b, hb⟩ := Option.isSome_iff_exists.1 hi
   exact List.mem_map.2 ⟨_, Zbw hb, rfl⟩
 ·let ρ'' : Nat → Option (Nat × Nat) := fun j => match Zaq (ivS S) j with | some i => ρ' i | none => ρ j
  have ρi : ∀ {i j}, Zaq S i = some j → ρ'' j = ρ' i := fun hij => by simp only [ρ'']; rw [hiff.1 hij]
  have ρn : ∀ {j}, Zaq (ivS S) j = none → ρ'' j = ρ j := fun hj => by simp only [ρ'']; rw [hj]
  have mi : ∀ {i j}, Zaq S i = some j → memR S L' s.m j = (Zaq L' i).map (renB (sg S)) := fun hij => by unfold memR; rw [hiff.1 hij]
  have mn : ∀ {j}, Zaq (ivS S) j = none → memR S L' s.m j = s.m j := fun hj => by unfold memR; rw [hj]
  have oS' : ∀ {i j}, Zaq S i = some j → (Zaq L' i).isSome = true := fun hij => oS _ (Zbw hij)
  have cases' : ∀ j, (∃ i, Zaq S i = some j) ∨ Zaq (ivS S) j = none := fun j => by
   cases h : Zaq (ivS S) j with
   | none => exact .inr rfl
   | some i => exact .inl ⟨i, hiff.2 h⟩
  have hbelow := h.below
  -- which blocks are written later
  have hMM : ∀ b, b < w'.heap.size → MM M0 ρ'' (memR S L' s.m) b → MM C ρ' (Zaq L') b := by
   rintro b hb (h1 | ⟨j, kk, h1, h2⟩)
   ·refine .inl ((cM b).2 ⟨.inl h1, fun hp => ?_⟩)
    have h3 := (hM.1.1 b h1).1
    rcases (cPb b hp).1 with h4 | h4
    ·omega
    ·exact (hM.2 b h4).2.1 h1
   ·rcases cases' j with ⟨i, hij⟩ | hj
    ·rw [ρi hij] at h2
     exact .inr ⟨i, kk, oS' hij, h2⟩
    ·rw [mn hj] at h1
     rw [ρn hj] at h2
     refine .inl ((cM b).2 ⟨.inr ⟨j, kk, h1, h2⟩, fun hp => ?_⟩)
     obtain ⟨i, k2, h3, h4⟩ := cP b hp
     have := hr.inj _ _ b kk k2 h1 (F1s i h3) h2 h4
     obtain ⟨x, hx⟩ := Option.isSome_iff_exists.1 h3
     have := hiff.1 (iL hx)
     rw [← ‹j = sg S i›, hj] at this
     cases this
  have hMMo : ∀ b, b < w.heap.size → MM M0 ρ'' (memR S L' s.m) b → MM M0 ρ s.m b := by
   rintro b hb (h1 | ⟨j, kk, h1, h2⟩)
   ·exact .inl h1
   ·rcases cases' j with ⟨i, hij⟩ | hj
    ·rw [ρi hij] at h2
     rcases (h.base i b kk (oS' hij) h2).1 with h3 | h3
     ·omega
     ·exact cPM b h3
    ·rw [mn hj] at h1
     rw [ρn hj] at h2
     exact .inr ⟨j, kk, h1, h2⟩
  have hkeep : Zcc (MM M0 ρ s.m) w w' := ⟨hbelow.size, fun b hb hnm => hbelow.block b hb fun hp => hnm (cPM b hp)⟩
  have hren : ∀ i b, Zaq L' i = some b → memR S L' s.m (sg S i) = some (renB (sg S) b) ∧ ρ'' (sg S i) = ρ' i := fun i b hi => by
   have := iL' hi
   exact ⟨by rw [mi this, hi]; rfl, ρi this⟩
  have hmoves : Zev ρ ρ'' s.m (memR S L' s.m) := by
   intro j x hj
   rcases cases' j with ⟨i, hij⟩ | hjn
   ·have hi : sg S i = j := by unfold sg; rw [hij]; rfl
    rcases Zd4 hnew i j hij with h1 | h1
    ·obtain ⟨b, hb⟩ := Option.isSome_iff_exists.1 h1
     have h2 := F1 i b hb
     rw [hi, hj] at h2
     injection h2 with h2
     obtain ⟨b', p1, p2, p3, pm, pt⟩ := h.pas i b (by rw [cm]; exact hb)
     have p1 : Zaq L' i = some b' := p1
     have q := hren i b' p1
     rw [hi] at q
     have e0 : C.ρ0 i = ρ j := by rw [cρ, hi]
     refine ⟨renB (sg S) b', q.1, fun cs e => ?_, fun sz ty es e => ?_, fun es e => ?_, fun ty cs e => ?_⟩
     ·rw [e] at h2
      obtain ⟨cs', rfl, -⟩ := Zgx h2.symm
      obtain ⟨⟨cs'', rfl⟩, p4⟩ := p2 cs' rfl
      exact ⟨⟨_, rfl⟩, by rw [q.2, p4, e0]⟩
     ·rw [e] at h2
      have := renB_lst h2.symm
      subst this
      obtain ⟨es', rfl, p4, p5⟩ := p3 sz ty es rfl
      exact ⟨es', rfl, fun hl => by rw [q.2, p4 hl, e0], p5⟩
     ·rw [e] at h2
      have := renB_mp h2.symm
      subst this
      obtain ⟨⟨es', rfl⟩, p4⟩ := pm es rfl
      exact ⟨⟨_, rfl⟩, by rw [q.2, p4, e0]⟩
     ·rw [e] at h2
      obtain ⟨cs', rfl, rfl⟩ := renB_tl h2.symm
      obtain ⟨cs'', rfl, p4, p5⟩ := pt ty cs' rfl
      exact ⟨_, rfl, fun hl => by rw [q.2, p4 (by simpa using hl), e0], by simpa using p5⟩
    ·rw [h1] at hj; cases hj
   ·exact ⟨x, by rw [mn hjn]; exact hj, fun cs e => ⟨⟨cs, e⟩, ρn hjn⟩, fun sz ty es e => ⟨es, e, fun _ => ρn hjn, Nat.le_refl _⟩, fun es e => ⟨⟨es, e⟩, ρn hjn⟩, fun ty cs e => ⟨cs, e, fun _ => ρn hjn, Nat.le_refl _⟩⟩
  have hrel : RelR w0 M0 ρ'' { s with m := memR S L' s.m } a w' := by
   refine ⟨⟨hbelow.os.trans hr.below.os, hbelow.tape.trans hr.below.tape, hbelow.output.trans hr.below.output, Nat.le_trans hr.below.size hbelow.size, fun b hb hx => ?_⟩, hr.defers, hr.nt, fun j b kk h1 h2 => ?_, fun j j' b kk l h1 h2 h3 h4 => ?_, fun j x hx => ?_, fun i x hi => ?_, hr.pas.trans hmoves, hr.kid⟩
   ·refine (hbelow.block b (Nat.lt_of_lt_of_le hb hr.below.size) fun hp => ?_).trans (hr.below.block b hb hx)
    rcases (cPb b hp).1 with h4 | h4
    ·omega
    ·exact hx h4
   ·rcases cases' j with ⟨i, hij⟩ | hj
    ·rw [ρi hij] at h2
     obtain ⟨h3, h4⟩ := h.base i b kk (oS' hij) h2
     refine ⟨?_, h4⟩
     rcases h3 with h3 | h3
     ·exact .inl (Nat.le_trans hr.below.size h3)
     ·exact (cPb b h3).1
    ·have h1 : (memR S L' s.m j).isSome = true := h1
     rw [mn hj] at h1
     rw [ρn hj] at h2
     obtain ⟨h3, h4⟩ := hr.base j b kk h1 h2
     exact ⟨h3, Nat.lt_of_lt_of_le h4 hbelow.size⟩
   ·have h1 : (memR S L' s.m j).isSome = true := h1
    have h2 : (memR S L' s.m j').isSome = true := h2
    have mixed : ∀ {i j j' kk l}, Zaq S i = some j → Zaq (ivS S) j' = none → (memR S L' s.m j').isSome = true → ρ'' j = some (b, kk) → ρ'' j' = some (b, l) → False := fun {i j j' kk l} hij hj' h2 h3 h4 => by
     rw [ρi hij] at h3
     rw [mn hj'] at h2
     rw [ρn hj'] at h4
     have h5 := (hr.base j' b l h2 h4).2
     rcases (h.base i b kk (oS' hij) h3).1 with h6 | h6
     ·omega
     ·obtain ⟨i2, k2, h7, h8⟩ := cP b h6
      have e := hr.inj _ _ b l k2 h2 (F1s i2 h7) h4 h8
      obtain ⟨x, hx⟩ := Option.isSome_iff_exists.1 h7
      have := hiff.1 (iL hx)
      rw [← e, hj'] at this
      cases this
    rcases cases' j with ⟨i, hij⟩ | hj
    ·rcases cases' j' with ⟨i', hij'⟩ | hj'
     ·rw [ρi hij] at h3
      rw [ρi hij'] at h4
      have := h.inj i i' b kk l (oS' hij) (oS' hij') h3 h4
      subst this
      rw [hij] at hij'
      injection hij'
     ·exact (mixed hij hj' h2 h3 h4).elim
    ·rcases cases' j' with ⟨i', hij'⟩ | hj'
     ·exact (mixed hij' hj h1 h4 h3).elim
     ·rw [mn hj] at h1
      rw [mn hj'] at h2
      rw [ρn hj] at h3
      rw [ρn hj'] at h4
      exact hr.inj j j' b kk l h1 h2 h3 h4
   ·have hx : memR S L' s.m j = some x := hx
    rcases cases' j with ⟨i, hij⟩ | hj
    ·have hi : sg S i = j := by unfold sg; rw [hij]; rfl
     rw [mi hij, Option.map_eq_some_iff] at hx
     obtain ⟨b, hb, rfl⟩ := hx
     have := Zdq.ren (σ := sg S) (M' := MM M0 ρ'' (memR S L' s.m)) (nd' := s.nd) (fun e => by rw [← hnd]; exact e) hMM hren hb (h.slots i b hb)
     rw [hi] at this
     exact this
    ·rw [mn hj] at hx
     refine (hr.slots j x hx).mono hkeep hMMo hmoves (ρn hj) (fun b kk h1 => ?_)
     refine hbelow.block b (hr.base j b kk (by rw [hx]; rfl) h1).2 fun hp => ?_
     obtain ⟨i2, k2, h7, h8⟩ := cP b hp
     have e := hr.inj _ _ b kk k2 (by rw [hx]; rfl) (F1s i2 h7) h1 h8
     obtain ⟨y, hy⟩ := Option.isSome_iff_exists.1 h7
     have := hiff.1 (iL hy)
     rw [← e, hj] at this
     cases this
   ·obtain ⟨u, h1, h2⟩ := hr.tmps i x hi
    exact ⟨u, h1, TRep.mono hkeep hMMo hmoves h2⟩
  exact ⟨ρ'', hrel, fun x v hv => TRep.ren hMM hren hv⟩
theorem pc_bodyD {dm : Bool} {P : Program} {f fcl : FuncId} {fn fncl : Func} {r0 r1 c1 ccl : Code} {args : List TV} {L L1 L2 L3 Lc Lc' L' : List (Nat × Blk)} {T1 : List (Nat × TV)} {S1 Sc : List (Nat × Nat)} {nd : Bool} {tb tf sb ad sr : Nat} {ty ty1 ty2 : TypeId} {p1 p2 : String} {q1 q2 : Array Edge} {id : Nat} {l : List AV}
  (hf : P.funcs[f]? = some fn) (hname : (fn.name == "runtime.NumGoroutine") = false)
  (hb : fn.body = some (.seq r0 (.seq r1 (.seq (.region id [⟨some tf, .makeFunc (.func fcl) #[] #[.tmp tb], ty1, p1, q1, none⟩, ⟨none, .defer ⟨.value (.tmp tf), #[], #[]⟩, ty2, p2, q2, none⟩].toArray false) c1))))
  (hres : fn.results = #[.cell ad ty]) (hn : args.length ≤ fn.ntmps) (hA : AggT P ty l.length) (hdm : (!dm || nd) = true)
  (hfc : P.funcs[fcl]? = some fncl) (hnc : (fncl.name == "runtime.NumGoroutine") = false) (hbc : fncl.body = some ccl) (hrc : fncl.results = #[]) (hnt : 1 ≤ fncl.ntmps) (htf : tf < fn.ntmps)
  (htb : Zaq T1 tb = some (.ptr sb 0))
  (hT0 : T dm P r0 { t := fun i => args[i]?, m := Zaq L, nt := fn.ntmps, nd := nd, k := L.map (·.1) } (fun x s => x = .normal ∧ T dm P r1 s (fun x s => x = .normal ∧ Ent s (mkP T1 L1 fn.ntmps nd (L.map (·.1))))))
  (hS1 : okS S1 L1 L3 = true) (hL1 : AllP (fun p : Nat × Blk => Zaq L1 (sg S1 p.1) = some (renB (sg S1) p.2)) L1) (hnew1 : AllP (fun p : Nat × Nat => (Zaq L1 p.1).isSome = true ∨ Zaq L1 p.2 = none) S1)
  (hT1 : AllP (fun p : Nat × TV => Zgy L1 p.2 = true ∧ Zdb (sg S1) p.2 = p.2 ∧ Nat.beq tf p.1 = false) T1)
  (hT2 : T dm P c1 (mkP T1 L1 fn.ntmps nd (L1.map (·.1))) (fun x s => (x = .normal ∨ x = .ret) ∧ Ent s (mkP [(ad, .ptr sr 0)] L2 fn.ntmps nd (L1.map (·.1)))))
  (hSc : okS Sc Lc Lc' = true) (hLc : AllP (fun p : Nat × Blk => Zaq L2 (sg Sc p.1) = some (renB (sg Sc) p.2)) Lc) (hnewc : AllP (fun p : Nat × Nat => (Zaq Lc p.1).isSome = true ∨ Zaq L2 p.2 = none) Sc)
  (hrf : Zgy Lc (.ptr sb 0) = true) (hrn : sg Sc sb = sb)
  (hTc : T dm P ccl (mkP [(0, .ptr sb 0)] Lc fncl.ntmps nd (Lc.map (·.1))) (fun x s => (x = .normal ∨ x = .ret) ∧ Ent s (mkP [] Lc' fncl.ntmps nd (Lc.map (·.1)))))
  (hE3 : Ent { mkP [(ad, .ptr sr 0)] L2 fn.ntmps nd (L1.map (·.1)) with m := memR Sc Lc' (Zaq L2) } (mkP [(ad, .ptr sr 0)] L3 fn.ntmps nd (L1.map (·.1))))
  (hrv : resV (mkP [(ad, .ptr sr 0)] L3 fn.ntmps nd (L1.map (·.1))) (.cell ad ty) = some (.agg l))
  (hE4 : Ent { t := upd (Zaq T1) fn.ntmps (.v (.agg l)), m := memR S1 L3 (Zaq L1), nt := fn.ntmps + 1, nd := nd, k := L.map (·.1) } (mkP [(fn.ntmps, .v (.agg l))] L' (fn.ntmps + 1) nd (L.map (·.1)))) : PCM dm P f args L nd (.v (.agg l)) L' := by
 refine ⟨⟨fn, hf, hname, by rw [hb]; rfl⟩, fun w M0 hM hm0 vs hr => ?_⟩
 refine calls_of_wp_defers hf hb ?_
 refine wp_seq (Code.wp_mono (fun x a1 w1 hx => ?_) (hT0 w M0 hM _ w ⟨_, Zg0 hn hr⟩))
 obtain ⟨s', ⟨rfl, hT1'⟩, hrel⟩ := hx
 refine wp_seq (Code.wp_mono (fun x a2 w2 hx => ?_) (hT1' w M0 hM a1 w1 hrel))
 obtain ⟨s'', ⟨rfl, hE⟩, hrel⟩ := hx
 obtain ⟨ρ1, h1⟩ := hE w M0 a2 w2 hM.weak hrel
 obtain ⟨v1, g1, g2⟩ := h1.tmps tb (.ptr sb 0) htb
 have hev : a2.eval (.tmp tb) = v1 := by simp [Act.eval, Array.getD_eq_getD_getElem?, g1]
 have hd2 : a2.defers = [] := h1.defers.trans hr.defers.symm
 have hsz : a2.tmps.size = fn.ntmps := h1.nt
 refine wp_seq ?_
 refine wp_region_lit ?_
 refine wpList_plain rfl fun K hK => ?_
 have e1 : (execOp a2.eval ⟨some tf, .makeFunc (.func fcl) #[] #[.tmp tb], ty1, p1, q1, none⟩).run P w2 = .ok (.value (.func (.func fcl) #[] #[v1])) w2 := by simp [execOp, Instr.makeFunc, hev]
 unfold Oper.wp
 rw [e1]
 refine hK _ _ ?_
 refine wpList_plain rfl fun K2 hK2 => ?_
 have e0 : (a2.put (some tf) (.func (.func fcl) #[] #[v1])).eval (.tmp tf) = .func (.func fcl) #[] #[v1] := by
  simp [Act.eval, Act.put, Array.getD_eq_getD_getElem?, Array.getElem?_setIfInBounds, hsz, htf]
 have e2 : (execOp (a2.put (some tf) (.func (.func fcl) #[] #[v1])).eval ⟨none, .defer ⟨.value (.tmp tf), #[], #[]⟩, ty2, p2, q2, none⟩).run P w2 = .ok (.defer { target := .fn (.func fcl) #[v1], args := #[] }) w2 := by
  simp [execOp, resolve, e0, Deferred.ofValue]
 unfold Oper.wp
 rw [e2]
 refine hK2 _ _ ?_
 refine wpList_nil ?_
 have ha : ({ (a2.put (some tf) (.func (.func fcl) #[] #[v1])) with defers := { target := .fn (.func fcl) #[v1], args := #[] } :: (a2.put (some tf) (.func (.func fcl) #[] #[v1])).defers } : Act).put none undef = { tmps := a2.tmps.setIfInBounds tf (.func (.func fcl) #[] #[v1]), defers := [{ target := .fn (.func fcl) #[v1], args := #[] }] } := by
  simp [Act.put, hd2]
 show c1.wp P _ (({ (a2.put (some tf) (.func (.func fcl) #[] #[v1])) with defers := { target := .fn (.func fcl) #[v1], args := #[] } :: (a2.put (some tf) (.func (.func fcl) #[] #[v1])).defers } : Act).put none undef) w2
 rw [ha]
 generalize hd : ({ target := .fn (.func fcl) #[v1], args := #[] } : Deferred) = d at *
 obtain ⟨C, hOK, cm, cd, hstart, hend⟩ := frame_core (dm := dm) S1 [d] hS1 rfl hdm hL1 hnew1 hM h1
 have hTm := Zd4 hT1
 have h3 := hstart (Zaq T1) fn.ntmps { tmps := a2.tmps.setIfInBounds tf (.func (.func fcl) #[] #[v1]), defers := [d] } rfl (by simp [hsz]) (fun i x hx => by
  obtain ⟨k1, k2, k3⟩ := hTm i x hx
  obtain ⟨v, k4, k5⟩ := h1.tmps i x hx
  refine ⟨k1, v, ?_, by rw [k2]; exact k5⟩
  have hne : tf ≠ i := fun e => by subst e; simp at k3
  rw [Array.getElem?_setIfInBounds_ne hne]
  exact k4)
 have hptr : ∃ b k, C.ρ0 sb = some (b, k) ∧ v1 = .pointer (some ⟨b, 0, none⟩) ∧ ∃ cs, Zaq L1 sb = some (.var cs) := by
  obtain ⟨u, k1, k2⟩ := h3.tmps tb (.ptr sb 0) htb
  have hne : tf ≠ tb := fun e => by
   have := (hTm tb _ htb).2.2
   subst e; simp at this
  have k1 : (a2.tmps.setIfInBounds tf (.func (.func fcl) #[] #[v1]))[tb]? = some u := k1
  rw [Array.getElem?_setIfInBounds_ne hne, g1] at k1
  injection k1 with k1
  subst k1
  obtain ⟨⟨cs, k3⟩, b, k, k4, k5⟩ := k2
  exact ⟨b, k, k4, k5, cs, k3⟩
 refine Code.wp_mono (fun x a4 w4 hx => ?_) (hT2 w2 C hOK _ w2 ⟨_, h3⟩)
 obtain ⟨s4, ⟨hxx, hE2⟩, hrel4⟩ := hx
 obtain ⟨ρ2, h4⟩ := hE2 w2 C a4 w4 hOK.weak hrel4
 obtain ⟨C2, hOK2, cm2, cd2, hstart2, hend2⟩ := frame_core (dm := dm) Sc [] hSc rfl hdm hLc hnewc hOK h4
 have hptr2 : TRep w4 (MM C ρ2 (Zaq L2)) ρ2 (Zaq L2) (.ptr sb 0) v1 := by
  obtain ⟨b, k, k1, k2, cs, k3⟩ := hptr
  obtain ⟨x', k4, k5, -⟩ := h4.pas sb (.var cs) (by rw [cm]; exact k3)
  obtain ⟨⟨cs', rfl⟩, k6⟩ := k5 cs rfl
  exact ⟨⟨cs', k4⟩, b, k, k6.trans k1, k2⟩
 have hinv : (invoke d.target d.args).run P w4 = .ok (.enter fcl #[v1]) w4 := by
  subst hd
  have hnc' : ¬ fncl.name = "runtime.NumGoroutine" := fun e => by rw [e] at hnc; simp at hnc
  simp [invoke, callFunc, run_program, hfc, hnc', hbc]
 have key : Leaves P fn a4.tmps (fun e w' => ∃ v ρ', e = .returned v ∧ RelR w M0 ρ' { t := fun i => bif Nat.beq i 0 then some (.v (.agg l)) else none, m := Zaq L', nt := 1, nd := nd, k := L.map (·.1) } { tmps := #[v], defers := [] } w') a4.defers .returning w4 := by
  have hdf : a4.defers = [d] := h4.defers.trans cd
  rw [hdf]
  have hinv' := hinv
  have ed : d = { target := .fn (.func fcl) #[v1], args := #[] } := hd.symm
  rw [ed] at hinv' ⊢
  refine leaves_cons (by simp) hinv' ?_
  refine CallsD.mono (callsD_of_wp hfc hbc (R := fun e w' => ∃ v0, e = .returned v0 ∧ ∃ v, (results fn a4.tmps).run P w' = .ok v w' ∧ ∃ v' ρ', Ending.returned v = .returned v' ∧ RelR w M0 ρ' { t := fun i => bif Nat.beq i 0 then some (.v (.agg l)) else none, m := Zaq L', nt := 1, nd := nd, k := L.map (·.1) } { tmps := #[v'], defers := [] } w') ?_) (fun e u' w' he => ?_)
  ·have hs := hstart2 (Zaq [(0, .ptr sb 0)]) fncl.ntmps { tmps := #[v1] ++ Array.replicate (fncl.ntmps - 1) undef, defers := [] } rfl (by simp; omega) (fun i x hx => by
    have := Zbw hx
    rw [List.mem_singleton] at this
    injection this with e1 e2
    subst e1 e2
    refine ⟨hrf, v1, by rw [Array.getElem?_append_left (by simp)]; rfl, ?_⟩
    show TRep _ _ _ _ (.ptr (sg Sc sb) 0) v1
    rw [hrn]
    exact hptr2)
   refine Code.wp_mono (fun x a5 w5 hx => ?_) (hTc w4 C2 hOK2 _ w4 ⟨_, hs⟩)
   obtain ⟨s5, ⟨hx5, hE5⟩, hrel5⟩ := hx
   obtain ⟨ρ3, h5⟩ := hE5 w4 C2 a5 w5 hOK2.weak hrel5
   obtain ⟨ρ4, h6, -⟩ := hend2 w5 ρ3 _ _ _ a5 h5
   obtain ⟨ρ5, h7⟩ := hE3 w2 C a4 w5 hOK.weak ⟨ρ4, h6⟩
   obtain ⟨v, h8, h9⟩ := Zgw (P := P) h7 hrv (fun ad' t' e => by cases e; exact ⟨l, rfl, hA⟩)
   obtain ⟨ρ6, h10, tr⟩ := hend w5 ρ5 _ _ _ a4 h7
   have h9 := tr (.v (.agg l)) v h9
   have h11 : RelR w M0 ρ6 { t := upd (Zaq T1) fn.ntmps (.v (.agg l)), m := memR S1 L3 (Zaq L1), nt := fn.ntmps + 1, nd := nd, k := L.map (·.1) } { a2 with tmps := a2.tmps.push v } w5 := by
    refine ⟨h10.below, h10.defers, by simp [hsz], h10.base, h10.inj, h10.slots, fun i y hi => ?_, h10.pas, h10.kid⟩
    by_cases h : fn.ntmps = i
    ·subst h
     have hi : upd (Zaq T1) fn.ntmps (.v (.agg l)) fn.ntmps = some y := hi
     rw [Za6] at hi
     injection hi with hi
     subst hi
     exact ⟨v, by rw [← hsz]; simp, h9⟩
    ·have hi : upd (Zaq T1) fn.ntmps (.v (.agg l)) i = some y := hi
     rw [Za7 _ _ h] at hi
     obtain ⟨u, k1, k2⟩ := h10.tmps i y hi
     refine ⟨u, ?_, k2⟩
     have := (Array.getElem?_eq_some_iff.1 k1).1
     rw [Array.getElem?_push, if_neg (by omega)]
     exact k1
   obtain ⟨ρ7, h12⟩ := hE4 w M0 _ w5 hM.weak ⟨ρ6, h11⟩
   obtain ⟨u, k1, k2⟩ := h12.tmps fn.ntmps (.v (.agg l)) (by simp [mkP, Zaq])
   have hu : u = v := by
    have k1 : (a2.tmps.push v)[fn.ntmps]? = some u := k1
    rw [Array.getElem?_push, if_pos hsz.symm] at k1
    injection k1 with k1
    exact k1.symm
   subst hu
   have fin : a5.defers = [] ∧ ∃ v, (results fncl a5.tmps).run P w5 = .ok v w5 ∧ ∃ v0, Ending.returned v = .returned v0 ∧ ∃ v, (results fn a4.tmps).run P w5 = .ok v w5 ∧ ∃ v' ρ', Ending.returned v = .returned v' ∧ RelR w M0 ρ' { t := fun i => bif Nat.beq i 0 then some (.v (.agg l)) else none, m := Zaq L', nt := 1, nd := nd, k := L.map (·.1) } { tmps := #[v'], defers := [] } w5 := by
    refine ⟨h5.defers.trans cd2, .tuple #[], by simp [results, hrc], _, rfl, u, ?_, u, ρ7, rfl, pcm_end hr.defers h12 k2 rfl rfl⟩
    simp only [results, hres]
    simp at h8 ⊢
    rw [h8]
   rcases hx5 with rfl | rfl
   ·exact fin
   ·exact fin
  ·obtain ⟨hu, v0, rfl, v, k1, v', ρ', k2, k3⟩ := he
   subst hu
   injection k2 with k2
   subst k2
   exact ⟨v, k1, v, ρ', rfl, k3⟩
 rcases hxx with rfl | rfl
 ·exact key
 ·exact key
end Ab
