/- The laws of Decode: what is read, and what is read back. -/
import Derived.Test.YtbpdgaolmikjbaaGreatRdP
set_option linter.all false
namespace Ab
open Go Go.RowKit Go.Proofs Hp
set_option maxRecDepth 100000
theorem BI.of_z (z : Int) : (BI.of z).z = z := by
 show zof (decide (z < 0)) (vl (dgs z.natAbs)) = z
 rw [Zc3]
 unfold zof
 by_cases h : z < 0
 ·rw [decide_eq_true h]; simp; omega
 ·rw [decide_eq_false h]; simp; omega
theorem BR.can_q (a : BR) : a.can.q = a.q := by
 show Rat.divInt (BI.of a.q.num).z (BI.of (a.q.den : Int)).z = a.q
 rw [BI.of_z, BI.of_z]
 exact Rat.num_divInt_den _
theorem BR.can_can (a : BR) : a.can.can = a.can := by
 show (⟨BI.of a.can.q.num, BI.of a.can.q.den⟩ : BR) = ⟨BI.of a.q.num, BI.of a.q.den⟩
 rw [BR.can_q]
theorem Zfe {α : Type} {f g : α → α} {l : List α} (h : ∀ x, x ∈ l → f (g x) = g x) : (l.map g).map f = l.map g := by
 rw [List.map_map]
 exact List.map_congr_left h
theorem PS.can_can (a : PS) : a.can.can = a.can := by
 show (⟨a.f, (a.c.map BR.can).map BR.can⟩ : PS) = _
 rw [Zfe fun x _ => BR.can_can x]; rfl
mutual
theorem PX.can_can : ∀ a : PX, a.can.can = a.can
 | .mk op ns c nm gs => by rw [PX.can, PX.can, BR.can_can, PX.cans_can gs]
theorem PX.cans_can : ∀ l : List PX, PX.cans (PX.cans l) = PX.cans l
 | [] => rfl
 | a :: l => by rw [PX.cans, PX.cans, PX.can_can a, PX.cans_can l]
end
theorem PB.can_can (a : PB) : a.can.can = a.can := by
 show (⟨a.nm, a.e.can.can⟩ : PB) = _
 rw [PX.can_can]; rfl
theorem PZ.can_can (a : PZ) : a.can.can = a.can := by
 show (⟨a.a.can.can, a.b.can.can, (a.ds.map PB.can).map PB.can, a.k, a.bo, a.c.can.can⟩ : PZ) = _
 rw [PX.can_can, PX.can_can, Zfe fun x _ => PB.can_can x, PS.can_can]; rfl
theorem PF.can_can (a : PF) : a.can.can = a.can := by
 show (⟨a.l, a.w, a.d, a.pr, (a.b.map PS.can).map PS.can⟩ : PF) = _
 rw [Zfe fun x _ => PS.can_can x]; rfl
theorem PM.can_can (a : PM) : a.can.can = a.can := by
 show (⟨a.r, a.c, (a.a.map BR.can).map BR.can⟩ : PM) = _
 rw [Zfe fun x _ => BR.can_can x]; rfl
theorem PP.can_can (p : PP) : p.can.can = p.can := by
 show (⟨(p.ser.map PS.can).map PS.can, p.eta, (p.defs.map PB.can).map PB.can, (p.cert.map PZ.can).map PZ.can, (p.spc.map PF.can).map PF.can, (p.mat.map PM.can).map PM.can⟩ : PP) = _
 rw [Zfe fun x _ => PS.can_can x, Zfe fun x _ => PB.can_can x, Zfe fun x _ => PZ.can_can x, Zfe fun x _ => PF.can_can x, Zfe fun x _ => PM.can_can x]; rfl
mutual
theorem fit_can : ∀ (a : PX) (L n : Nat), fit a.can L n = fit a L n
 | .mk op ns c nm gs, L, n => by rw [PX.can, fit, fit, fits_can gs]
theorem fits_can : ∀ (l : List PX) (L n : Nat), fits (PX.cans l) L n = fits l L n
  | [], L, n => rfl
  | a :: l, L, n => by
    rw [PX.cans, fits, fits, fit_can a]
    cases fit a L n with
    | none => rfl
    | some m => exact fits_can l L m
end
theorem fitB_can (a : PX) : fitB a.can = fitB a := by unfold fitB; rw [fit_can]
theorem binds_can (p : PP) : p.can.binds = p.binds.map PB.can := by
 show p.defs.map PB.can ++ (p.cert.map PZ.can).flatMap (·.ds) = (p.defs ++ p.cert.flatMap (·.ds)).map PB.can
 rw [List.map_append, List.flatMap_map, List.map_flatMap]; rfl
theorem fewB_can (p : PP) : fewB p.can = fewB p := by
 unfold fewB
 rw [binds_can, List.all_map]
 show (((p.cert.map PZ.can).all fun c => fitB c.a && fitB c.b) && (p.binds.all _)) = _
 rw [List.all_map]
 congr 1
 ·refine congrArg (p.cert.all ·) (funext fun c => ?_)
  show (fitB c.a.can && fitB c.b.can) = _
  rw [fitB_can, fitB_can]
 ·refine congrArg (p.binds.all ·) (funext fun c => ?_)
  exact fitB_can c.e
theorem eL_len {α : Type} {f : α → List Nat} {g : α → Nat} {l : List α} (h : ∀ x, x ∈ l → g x ≤ (f x).length) : (l.map g).sum ≤ (eL f l).length := by
  unfold eL
  rw [List.length_append]
  have : (l.map g).sum ≤ (l.flatMap f).length := by
    induction l with
    | nil => simp
    | cons a l ih =>
      rw [List.map_cons, List.sum_cons, List.flatMap_cons, List.length_append]
      have := h a (List.mem_cons_self ..)
      have := ih fun x hx => h x (List.mem_cons_of_mem _ hx)
      omega
  omega
theorem sum_one {α : Type} (l : List α) : (l.map fun _ => 1).sum = l.length := by
 induction l with
 | nil => rfl
 | cons a l ih => rw [List.map_cons, List.sum_cons, ih, List.length_cons]; omega
theorem eD_pos (d : PB) : 1 ≤ (eD d).length := by
 unfold eD
 rw [List.length_append]
 have := eX_pos d.e
 omega
theorem defs_len (l : List PB) : l.length ≤ (eL eD l).length := by
 have := eL_len (f := eD) (g := fun _ => 1) (l := l) fun x _ => eD_pos x
 rw [sum_one] at this
 exact this
theorem eP_binds (p : PP) : p.binds.length ≤ (eP p).length := by
 have h1 := defs_len p.defs
 have h2 := eL_len (f := eC) (g := fun c : PZ => c.ds.length) (l := p.cert) fun c _ => by
  unfold eC
  simp only [List.length_append]
  have := defs_len c.ds
  omega
 have h3 : (p.cert.flatMap (·.ds)).length = (p.cert.map fun c : PZ => c.ds.length).sum := List.length_flatMap
 unfold PP.binds eP
 simp only [List.length_append]
 omega
def Hd (l : List Nat) : Prop := 7 ≤ l.length ∧ l.take 3 = [72, 80, 1]
def Sm (l : List Nat) : Prop := Zc5 (fnv (l.take (l.length - 4))) = l.drop (l.length - 4)
theorem Hd.split {l : List Nat} (h : Hd l) : ∃ mid y0 y1 y2 y3, l = (72 :: 80 :: 1 :: mid) ++ [y0, y1, y2, y3] := by
 obtain ⟨h7, h3⟩ := h
 obtain ⟨a, b, c, t, rfl⟩ := three l h7
 simp only [List.length_cons] at h7
 obtain ⟨m, y0, y1, y2, y3, rfl⟩ := last4 t (by omega)
 simp at h3
 obtain ⟨rfl, rfl, rfl⟩ := h3
 exact ⟨m, y0, y1, y2, y3, rfl⟩
theorem split_len (mid : List Nat) (y0 y1 y2 y3 : Nat) : ((72 :: 80 :: 1 :: mid) ++ [y0, y1, y2, y3]).length - 4 = (72 :: 80 :: 1 :: mid).length := by
 rw [List.length_append]; simp
theorem Sm_iff (mid : List Nat) (y0 y1 y2 y3 : Nat) : Sm ((72 :: 80 :: 1 :: mid) ++ [y0, y1, y2, y3]) ↔ Zc5 (fnv (72 :: 80 :: 1 :: mid)) = [y0, y1, y2, y3] := by
 unfold Sm
 rw [split_len, List.take_left, List.drop_left]
abbrev ZP : PP := ⟨[], [], [], [], [], []⟩
theorem ZP_ok : ZP.ok := by
 refine ⟨⟨fun _ h => (by cases h), by decide⟩, ⟨fun _ h => (by cases h), by decide⟩, ⟨fun _ h => (by cases h), by decide⟩, ⟨fun _ h => (by cases h), by decide⟩, ⟨fun _ h => (by cases h), by decide⟩, fun _ h => (by cases h), by decide⟩
theorem Zf2 (p : PP) : encB p = (72 :: 80 :: 1 :: eP p) ++ Zc5 (fnv (72 :: 80 :: 1 :: eP p)) := rfl
theorem few_good {w : PP} (h : fewB w = true) : (∀ d, d ∈ w.defs → Zdr 100 d.e) ∧ ∀ c, c ∈ w.cert → Zdr 100 c.a ∧ Zdr 100 c.b ∧ ∀ d, d ∈ c.ds → Zdr 100 d.e := by
 unfold fewB at h
 rw [Bool.and_eq_true, List.all_eq_true, List.all_eq_true] at h
 obtain ⟨h1, h2⟩ := h
 refine ⟨fun d hd => goodX_of (h2 d (List.mem_append.2 (.inl hd))), fun c hc => ?_⟩
 have h3 := h1 c hc
 rw [Bool.and_eq_true] at h3
 exact ⟨goodX_of h3.1, goodX_of h3.2, fun d hd => goodX_of (h2 d (List.mem_append.2 (.inr (List.mem_flatMap.2 ⟨c, hc, hd⟩))))⟩
theorem decode_back {w : PP} (hw : w.ok) (hc : w.can = w) (hf : fewB w = true) (hn : (eP w).length ≤ 15000000) : PC Tryz.prog 17 [.sl ((encB w).map nV)] (.tup [w.av, iV 0]) := by
 have hby := eP_by hw
 have hbd : By (72 :: 80 :: 1 :: eP w) := By.app (a := [72, 80, 1]) (fun c hc => by simp at hc; omega) hby
 obtain ⟨⟨sr, et, df, ce, sp, ma⟩, l6, b6, ⟨l1, b1, c1, l2, b2, c2, l3, b3, c3, l4, b4, c4, l5, b5, c5, c6⟩, -, -, -, -, r⟩ := (Zax (rd_lSeries 0) (Zax (rd_lEta 0) (Zax Zgo (Zax rd_lCert (Zax (rd_lSpace 0) (rd_lMatrix 0)))))).law (eP w) hby (by omega) false
 obtain ⟨g1, g2⟩ := few_good hf
 obtain ⟨e1, e2, e3⟩ := r (w.ser, w.eta, w.defs, w.cert, w.spc, w.mat) [] ⟨hw.1, hw.2.1, hw.2.2.1, hw.2.2.2.1, hw.2.2.2.2.1, hw.2.2.2.2.2⟩ ⟨fun _ _ => trivial, fun _ _ => trivial, g1, g2, fun _ _ => trivial, fun _ _ => trivial⟩ rfl (by rw [List.append_nil]; rfl)
 injection e1 with f1 e1
 injection e1 with f2 e1
 injection e1 with f3 e1
 injection e1 with f4 e1
 injection e1 with f5 f6
 obtain ⟨sr', et', df', ce', sp', ma'⟩ := w
 subst f1 f2 f3 f4 f5 f6
 have hb := eP_binds ⟨sr, et, df, ce, sp, ma⟩
 have cE := encode_p hw (by omega) hf (by rw [hc]; omega)
 rw [hc] at cE
 have cq := equal_p (a := encB ⟨sr, et, df, ce, sp, ma⟩) (b := encB ⟨sr, et, df, ce, sp, ma⟩) (by rw [Zf2, List.length_append]; show (eP _).length + 1 + 1 + 1 + 4 ≤ _; omega)
 rw [show decide (encB ⟨sr, et, df, ce, sp, ma⟩ = encB ⟨sr, et, df, ce, sp, ma⟩) = true from decide_eq_true rfl] at cq
 exact dec_p (mid := eP _) hbd hn c1 c2 c3 c4 c5 c6 (.inr ⟨e3, .inr ⟨e2, _, 0, cE, .inr ⟨rfl, true, cq, .inr ⟨rfl, rfl, rfl⟩⟩⟩⟩)
theorem decode_ex {l : List Nat} (hl : By l) (hn : l.length ≤ 1500000) : ∃ (p : PP) (e : Int), PC Tryz.prog 17 [.sl (l.map nV)] (.tup [p.av, iV e]) ∧ p.ok ∧ ((e = 0 ∧ fewB p = true ∧ encB p.can = l ∧ p.can = p ∧ (eP p.can).length ≤ 15000000) ∨ ((e = 3 ∨ e = 26) ∧ p = ZP)) ∧
    (¬ Hd l → e = 3) ∧ (Hd l → ¬ Sm l → e = 26) ∧ (Hd l → Sm l → e = 0 ∨ e = 3) ∧ ∀ w : PP, w.ok → w.can = w → fewB w = true → l = encB w → e = 0 ∧ p = w := by
  have hdw : ∀ w : PP, Hd (encB w) ∧ Sm (encB w) := fun w => by
    refine ⟨⟨?_, rfl⟩, ?_⟩
    · rw [Zf2, List.length_append]
      show 7 ≤ (eP w).length + 1 + 1 + 1 + 4
      omega
    · rw [Zf2]; exact (Sm_iff _ _ _ _ _).2 rfl
  by_cases hh : Hd l
  · obtain ⟨mid, y0, y1, y2, y3, rfl⟩ := hh.split
    have hbd : By (72 :: 80 :: 1 :: mid) := fun c hc => hl c (List.mem_append.2 (.inl hc))
    have hby : By mid := fun c hc => hbd c (by simp [hc])
    have hm : mid.length ≤ 1500000 := by rw [List.length_append] at hn; simp only [List.length_cons] at hn; omega
    by_cases hs : Sm ((72 :: 80 :: 1 :: mid) ++ [y0, y1, y2, y3])
    · have hs' := (Sm_iff _ _ _ _ _).1 hs
      rw [← hs'] at hs hh hl ⊢
      obtain ⟨⟨sr, et, df, ce, sp, ma⟩, l6, b6, ⟨l1, b1, c1, l2, b2, c2, l3, b3, c3, l4, b4, c4, l5, b5, c5, c6⟩, ho, hd, -, sz, r⟩ := (Zax (rd_lSeries 0) (Zax (rd_lEta 0) (Zax Zgo (Zax rd_lCert (Zax (rd_lSpace 0) (rd_lMatrix 0)))))).law mid hby (by omega) false
      have hpo : (PP.mk sr et df ce sp ma).ok := ⟨ho.1, ho.2.1, ho.2.2.1, ho.2.2.2.1, ho.2.2.2.2.1, ho.2.2.2.2.2⟩
      have back : ∀ w : PP, w.ok → w.can = w → fewB w = true → (72 :: 80 :: 1 :: mid) ++ Zc5 (fnv (72 :: 80 :: 1 :: mid)) = encB w → PP.mk sr et df ce sp ma = w ∧ l6 = [] ∧ b6 = false := fun w hw _ hf he => by
        have hmid : mid = eP w := by
          rw [Zf2] at he
          have := congrArg List.length he
          simp only [List.length_append, List.length_cons] at this
          have h4 : ∀ h, (Zc5 h).length = 4 := fun _ => rfl
          rw [h4, h4] at this
          have := (List.append_inj he (by simp only [List.length_cons]; omega)).1
          injection this with _ this
          injection this with _ this
          injection this
        obtain ⟨g1, g2⟩ := few_good hf
        obtain ⟨e1, e2, e3⟩ := r (w.ser, w.eta, w.defs, w.cert, w.spc, w.mat) [] ⟨hw.1, hw.2.1, hw.2.2.1, hw.2.2.2.1, hw.2.2.2.2.1, hw.2.2.2.2.2⟩ ⟨fun _ _ => trivial, fun _ _ => trivial, g1, g2, fun _ _ => trivial, fun _ _ => trivial⟩ rfl (by rw [List.append_nil]; exact hmid)
        injection e1 with f1 e1
        injection e1 with f2 e1
        injection e1 with f3 e1
        injection e1 with f4 e1
        injection e1 with f5 f6
        obtain ⟨sr', et', df', ce', sp', ma'⟩ := w
        subst f1 f2 f3 f4 f5 f6
        exact ⟨rfl, e2, e3⟩
      cases b6 with
      | true =>
        exact ⟨ZP, 3, dec_p hbd (by omega) c1 c2 c3 c4 c5 c6 (.inl ⟨rfl, rfl, rfl⟩), ZP_ok, .inr ⟨.inl rfl, rfl⟩, fun h => absurd hh h, fun _ h => absurd hs h, fun _ _ => .inr rfl, fun w h1 h2 h3 h4 => by
          obtain ⟨-, -, g⟩ := back w h1 h2 h3 h4
          cases g⟩
      | false =>
        obtain ⟨-, sz⟩ := sz rfl
        have hez : (eP (PP.mk sr et df ce sp ma).can).length ≤ 10 * mid.length := by
          have sz : (eL eS (sr.map PS.can) ++ (eL eE (et.map id) ++ (eL eD (df.map PB.can) ++ (eL eC (ce.map PZ.can) ++ (eL eF (sp.map PF.can) ++ eL eM (ma.map PM.can)))))).length ≤ 10 * (mid.length - l6.length) := sz
          rw [List.map_id] at sz
          show (eL eS (sr.map PS.can) ++ (eL eE et ++ (eL eD (df.map PB.can) ++ (eL eC (ce.map PZ.can) ++ (eL eF (sp.map PF.can) ++ eL eM (ma.map PM.can)))))).length ≤ _
          omega
        have hbn : (PP.mk sr et df ce sp ma).binds.length ≤ 10 * mid.length := by
          have := eP_binds (PP.mk sr et df ce sp ma).can
          rw [binds_can, List.length_map] at this
          omega
        by_cases h6 : l6 = []
        · cases hfw : fewB (PP.mk sr et df ce sp ma) with
          | false =>
            have cN := encode_no hpo (by omega) hfw
            exact ⟨ZP, 3, dec_p hbd (by omega) c1 c2 c3 c4 c5 c6 (.inr ⟨rfl, .inr ⟨h6, [], 7, cN, .inl ⟨rfl, rfl, rfl⟩⟩⟩), ZP_ok, .inr ⟨.inl rfl, rfl⟩, fun h => absurd hh h, fun _ h => absurd hs h, fun _ _ => .inr rfl, fun w h1 h2 h3 h4 => by
              obtain ⟨g, -, -⟩ := back w h1 h2 h3 h4
              rw [g, h3] at hfw; cases hfw⟩
          | true =>
            have cE := encode_p hpo (by omega) hfw (by omega)
            have hlen : (encB (PP.mk sr et df ce sp ma).can).length ≤ 1000000000 := by
              rw [Zf2, List.length_append]; show (eP _).length + 1 + 1 + 1 + 4 ≤ _; omega
            have cq := equal_p (b := (72 :: 80 :: 1 :: mid) ++ Zc5 (fnv (72 :: 80 :: 1 :: mid))) hlen
            by_cases hq : encB (PP.mk sr et df ce sp ma).can = (72 :: 80 :: 1 :: mid) ++ Zc5 (fnv (72 :: 80 :: 1 :: mid))
            · rw [decide_eq_true hq] at cq
              refine ⟨PP.mk sr et df ce sp ma, 0, dec_p hbd (by omega) c1 c2 c3 c4 c5 c6 (.inr ⟨rfl, .inr ⟨h6, _, 0, cE, .inr ⟨rfl, true, cq, .inr ⟨rfl, rfl, rfl⟩⟩⟩⟩), hpo, .inl ⟨rfl, hfw, hq, ?_, by omega⟩, fun h => absurd hh h, fun _ h => absurd hs h, fun _ _ => .inl rfl, fun w h1 h2 h3 h4 => ⟨rfl, (back w h1 h2 h3 h4).1⟩⟩
              exact (back _ (PP.can_ok hpo) (PP.can_can _) (by rw [fewB_can]; exact hfw) hq.symm).1.symm
            · rw [decide_eq_false hq] at cq
              exact ⟨ZP, 3, dec_p hbd (by omega) c1 c2 c3 c4 c5 c6 (.inr ⟨rfl, .inr ⟨h6, _, 0, cE, .inr ⟨rfl, false, cq, .inl ⟨rfl, rfl, rfl⟩⟩⟩⟩), ZP_ok, .inr ⟨.inl rfl, rfl⟩, fun h => absurd hh h, fun _ h => absurd hs h, fun _ _ => .inr rfl, fun w h1 h2 h3 h4 => by
                obtain ⟨g, -, -⟩ := back w h1 h2 h3 h4
                rw [g, h2] at hq
                exact absurd h4.symm hq⟩
        · exact ⟨ZP, 3, dec_p hbd (by omega) c1 c2 c3 c4 c5 c6 (.inr ⟨rfl, .inl ⟨List.length_pos_iff.2 h6, rfl, rfl⟩⟩), ZP_ok, .inr ⟨.inl rfl, rfl⟩, fun h => absurd hh h, fun _ h => absurd hs h, fun _ _ => .inr rfl, fun w h1 h2 h3 h4 => by
            obtain ⟨-, g, -⟩ := back w h1 h2 h3 h4
            exact absurd g h6⟩
    · exact ⟨ZP, 26, dec_sum hbd (by omega) fun e => hs ((Sm_iff _ _ _ _ _).2 e), ZP_ok, .inr ⟨.inr rfl, rfl⟩, fun h => absurd hh h, fun _ _ => rfl, fun _ h => absurd h hs, fun w h1 h2 h3 h4 => by
        rw [h4] at hs
        exact absurd (hdw w).2 hs⟩
  · exact ⟨ZP, 3, dec_hdr (by omega) hh, ZP_ok, .inr ⟨.inl rfl, rfl⟩, fun _ => rfl, fun h => absurd h hh, fun h => absurd h hh, fun w h1 h2 h3 h4 => by
      rw [h4] at hh
      exact absurd (hdw w).1 hh⟩
end Ab
