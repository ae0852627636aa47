/- Expressions, definitions, certificates, spaces read (printed by tools/gen_rd.py). -/
import Derived.Test.YtbpdgaolmikjbaaGreatRdM
set_option linter.all false
namespace Ab
open Go Go.RowKit Go.Proofs Hp
set_option maxRecDepth 100000
set_option maxHeartbeats 4000000
def Zdr (k : Nat) (w : PX) : Prop := ∃ n m, fit w k n = some m
theorem fits_mem {L : Nat} : ∀ {l : List PX} {n m : Nat}, fits l L n = some m → ∀ x, x ∈ l → Zdr L x
  | [], _, _, _, x, hx => by cases hx
  | a :: l, n, m, h, x, hx => by
    rw [fits] at h
    cases hf : fit a L n with
    | none => rw [hf] at h; cases h
    | some k =>
      rw [hf] at h
      rcases List.mem_cons.1 hx with rfl | hx
      · exact ⟨n, k, hf⟩
      · exact fits_mem h x hx
theorem goodX_args {k : Nat} {op : Int} {ns : List Int} {c : BR} {nm : ByteArray} {gs : List PX} (h : Zdr (k + 1) (.mk op ns c nm gs)) : ∀ x, x ∈ gs → Zdr k x := by
 obtain ⟨n, m, h⟩ := h
 rw [fit] at h
 split at h
 ·cases h
 ·exact fits_mem h
theorem goodX_zero {w : PX} (h : Zdr 0 w) : False := by
 obtain ⟨n, m, h⟩ := h
 cases w
 rw [fit, if_pos (.inl rfl)] at h
 cases h
theorem goodX_of {w : PX} (h : fitB w = true) : Zdr 100 w := by
 unfold fitB at h
 obtain ⟨m, h⟩ := Option.isSome_iff_exists.1 h
 exact ⟨1000, m, h⟩
theorem eX_mk (op : Int) (ns : List Int) (c : BR) (nm : ByteArray) (gs : List PX) : eX (.mk op ns c nm gs) = eI op ++ (eL eI ns ++ (eR c ++ (eT nm ++ eL eX gs))) := by
 rw [eX, eXs_map]; rfl
theorem eX_pos (w : PX) : 1 ≤ (eX w).length := by
 obtain ⟨op, ns, c, nm, gs⟩ := w
 rw [eX_mk, List.length_append]
 have := Zcu (zg op)
 have : 1 ≤ (eI op).length := this
 omega
theorem zX_ok : zX.ok := by
 refine ⟨by unfold I64; omega, ⟨fun n h => (by cases h), by decide⟩, ⟨⟨fun d h => (by cases h), by decide⟩, ⟨fun d h => (by cases h), by decide⟩⟩, by decide, trivial, by decide⟩
theorem rd_lExpr (lv : Int) {k : Nat} (h : Rd (RC 112 [] PX.av lv) PX.ok eX PX.can (Zdr k)) : Rd (RC 132 [.bm 112 100 0] (fun vs : List PX => .sl (vs.map PX.av)) lv) (fun vs => (∀ v, v ∈ vs → PX.ok v) ∧ vs.length ≤ 1000000000) (eL eX) (fun vs => vs.map PX.can) (fun vs => ∀ v, v ∈ vs → Zdr k v) :=
 Zfb h (Zgz lv) fun g hg l b n l1 b1 hN hn hb hl => l_Expr hg l b n l1 b1 hN hn hb hl
theorem rd_expr : ∀ (k : Nat) (lv : Int), lv = 100 - (k : Int) → k ≤ 100 → Rd (RC 112 [] PX.av lv) PX.ok eX PX.can (Zdr k) := by
  intro k
  induction k with
  | zero =>
    intro lv hlv _
    exact ⟨fun l hl hn b => ⟨zX, l, true, expr_no (by omega) (by omega) (.inr (by omega)), zX_ok, ⟨0, rfl⟩, fun _ => rfl, fun h => (by cases h), fun w tail _ hg => (goodX_zero hg).elim⟩, eX_pos⟩
  | succ k ih =>
    intro lv hlv hk
    have hx := Zax (Zeh (lv + 1)) (Zax (rd_lInt (lv + 1)) (Zax (rd_rat (lv + 1)) (Zax (rd_text (lv + 1)) (rd_lExpr (lv + 1) (ih (lv + 1) (by omega) (by omega))))))
    refine ⟨fun l hl hn b => ?_, eX_pos⟩
    cases b with
    | true => exact ⟨zX, l, true, expr_no (by omega) (by omega) (.inl rfl), zX_ok, ⟨0, rfl⟩, fun _ => rfl, fun h => (by cases h), fun w tail _ _ h => (by cases h)⟩
    | false =>
      obtain ⟨⟨op, ns, c, nm, gs⟩, l', b', ⟨l1, b1, c1, l2, b2, c2, l3, b3, c3, l4, b4, c4, c5⟩, ⟨o1, o2, o3, o4, o5⟩, d, -, s, r⟩ := hx.law l hl hn false
      refine ⟨.mk op ns c nm gs, l', b', expr_ok (by omega) (by omega) c1 c2 c3 c4 c5, ⟨o1, o2, o3, o4, (PX.oks_iff gs).2 o5.1, o5.2⟩, d, fun h => (by cases h), fun h => ?_, fun w tail wo wg _ he => ?_⟩
      · obtain ⟨s1, s2⟩ := s h
        refine ⟨s1, ?_⟩
        rw [PX.can, PX.cans_map, eX_mk]
        have s2 : (eI op ++ (eL eI (ns.map id) ++ (eR c.can ++ (eT nm ++ eL eX (gs.map PX.can))))).length ≤ _ := s2
        rw [List.map_id] at s2
        exact s2
      · obtain ⟨op', ns', c', nm', gs'⟩ := w
        rw [eX_mk] at he
        obtain ⟨w1, w2, w3, w4, w5, w6⟩ := wo
        obtain ⟨e1, e2, e3⟩ := r (op', ns', c', nm', gs') tail ⟨w1, w2, w3, w4, (PX.oks_iff gs').1 w5, w6⟩ ⟨trivial, fun _ _ => trivial, trivial, trivial, goodX_args wg⟩ rfl he
        injection e1 with f1 e1
        injection e1 with f2 e1
        injection e1 with f3 e1
        injection e1 with f4 f5
        subst f1 f2 f3 f4 f5
        exact ⟨rfl, e2, e3⟩
theorem rd_expr0 : Rd (RC 112 [] PX.av 0) PX.ok eX PX.can (Zdr 100) := rd_expr 100 0 (by decide) (Nat.le_refl _)
theorem binding_w {lv : Int} {l l1 l2 : List Nat} {b b1 b2 : Bool} {nb : ByteArray} {e : PX} (c1 : PCM false Tryz.prog 111 [.ptr 100 0] (RR l b lv) true (.v (tV nb)) (RR l1 b1 lv)) (c2 : PCM false Tryz.prog 112 [.ptr 100 0] (RR l1 b1 lv) true (.v (PX.av e)) (RR l2 b2 lv)) : PCM false Tryz.prog 71 [.ptr 100 0] (RR l b lv) true (.v (.agg (PB.cs ⟨nb, e⟩))) (RR l2 b2 lv) := by
 obtain ⟨op, ns, ⟨⟨ga, da⟩, ⟨gb, db⟩⟩, nm, gs⟩ := e
 refine Zbz Tryz.func71 rfl rfl rfl (Nat.le_of_ble_eq_true rfl) (Za1 rfl) ?_
 refine goI ?_
 refine mcA c1 ?_
 refine goI ?_
 refine mcA c2 ?_
 refine goI ?_
 exact ⟨.inr rfl, rfl, rfl, by exact Zak⟩
theorem certificate_w {lv : Int} {l l1 l2 l3 l4 l5 l6 : List Nat} {b b1 b2 b3 b4 b5 b6 : Bool} {x : PX} {y : PX} {ds : List PB} {kk : PK} {bo : Int} {s : PS} (c1 : PCM false Tryz.prog 112 [.ptr 100 0] (RR l b lv) true (.v (PX.av x)) (RR l1 b1 lv)) (c2 : PCM false Tryz.prog 112 [.ptr 100 0] (RR l1 b1 lv) true (.v (PX.av y)) (RR l2 b2 lv)) (c3 : PCM false Tryz.prog 70 [.ptr 100 0, .bm 71 100 0] (RR l2 b2 lv) true (.v (.sl (ds.map PB.av))) (RR l3 b3 lv)) (c4 : PCM false Tryz.prog 113 [.ptr 100 0] (RR l3 b3 lv) true (.v (PK.av kk)) (RR l4 b4 lv)) (c5 : PCM false Tryz.prog 107 [.ptr 100 0] (RR l4 b4 lv) true (.v (iV bo)) (RR l5 b5 lv)) (c6 : PCM false Tryz.prog 67 [.ptr 100 0] (RR l5 b5 lv) true (.v (PS.av s)) (RR l6 b6 lv)) : PCM false Tryz.prog 73 [.ptr 100 0] (RR l b lv) true (.v (.agg (PZ.cs ⟨x, y, ds, kk, bo, s⟩))) (RR l6 b6 lv) := by
 obtain ⟨op1, ns1, ⟨⟨ga1, da1⟩, ⟨gb1, db1⟩⟩, nm1, gs1⟩ := x
 obtain ⟨op2, ns2, ⟨⟨ga2, da2⟩, ⟨gb2, db2⟩⟩, nm2, gs2⟩ := y
 obtain ⟨kw, kl, kd, kp, ku⟩ := kk
 obtain ⟨f, cs⟩ := s
 refine Zbz Tryz.func73 rfl rfl rfl (Nat.le_of_ble_eq_true rfl) (Za1 rfl) ?_
 refine goI ?_
 refine mcA c1 ?_
 refine goI ?_
 refine mcA c2 ?_
 refine goI ?_
 refine mcA c3 ?_
 refine goI ?_
 refine mcA c4 ?_
 refine goI ?_
 refine mcA c5 ?_
 refine goI ?_
 refine mcA c6 ?_
 refine goI ?_
 exact ⟨.inr rfl, rfl, rfl, by exact Zak⟩
theorem space_w {lv : Int} {l l1 l2 l3 l4 l5 : List Nat} {b b1 b2 b3 b4 b5 : Bool} {f : Int} {g : Int} {h : Int} {k : Int} {cs : List PS} (c1 : PCM false Tryz.prog 107 [.ptr 100 0] (RR l b lv) true (.v (iV f)) (RR l1 b1 lv)) (c2 : PCM false Tryz.prog 107 [.ptr 100 0] (RR l1 b1 lv) true (.v (iV g)) (RR l2 b2 lv)) (c3 : PCM false Tryz.prog 107 [.ptr 100 0] (RR l2 b2 lv) true (.v (iV h)) (RR l3 b3 lv)) (c4 : PCM false Tryz.prog 107 [.ptr 100 0] (RR l3 b3 lv) true (.v (iV k)) (RR l4 b4 lv)) (c5 : PCM false Tryz.prog 66 [.ptr 100 0, .bm 67 100 0] (RR l4 b4 lv) true (.v (.sl (cs.map PS.av))) (RR l5 b5 lv)) : PCM false Tryz.prog 75 [.ptr 100 0] (RR l b lv) true (.v (.agg (PF.cs ⟨f, g, h, k, cs⟩))) (RR l5 b5 lv) := by
 refine Zbz Tryz.func75 rfl rfl rfl (Nat.le_of_ble_eq_true rfl) (Za1 rfl) ?_
 refine goI ?_
 refine mcA c1 ?_
 refine goI ?_
 refine mcA c2 ?_
 refine goI ?_
 refine mcA c3 ?_
 refine goI ?_
 refine mcA c4 ?_
 refine goI ?_
 refine mcA c5 ?_
 refine goI ?_
 exact ⟨.inr rfl, rfl, rfl, by exact Zak⟩
theorem rd_lSeries (lv : Int) : Rd (RC 66 [.bm 67 100 0] (fun vs : List PS => .sl (vs.map PS.av)) lv) (fun vs => (∀ v, v ∈ vs → PS.ok v) ∧ vs.length ≤ 1000000000) (eL eS) (fun vs => vs.map PS.can) (fun vs => ∀ v, v ∈ vs → (fun _ => True) v) :=
 Zfb (rd_series lv) (Zgz lv) fun g hg l b n l1 b1 hN hn hb hl => l_Series hg l b n l1 b1 hN hn hb hl
theorem rd_lEta (lv : Int) : Rd (RC 68 [.bm 69 100 0] (fun vs : List PE => .sl (vs.map PE.av)) lv) (fun vs => (∀ v, v ∈ vs → PE.ok v) ∧ vs.length ≤ 1000000000) (eL eE) (fun vs => vs.map id) (fun vs => ∀ v, v ∈ vs → (fun _ => True) v) :=
 Zfb (rd_eta lv) (Zgz lv) fun g hg l b n l1 b1 hN hn hb hl => l_Eta hg l b n l1 b1 hN hn hb hl
theorem rd_lMatrix (lv : Int) : Rd (RC 76 [.bm 77 100 0] (fun vs : List PM => .sl (vs.map PM.av)) lv) (fun vs => (∀ v, v ∈ vs → PM.ok v) ∧ vs.length ≤ 1000000000) (eL eM) (fun vs => vs.map PM.can) (fun vs => ∀ v, v ∈ vs → (fun _ => True) v) :=
 Zfb (rd_matrix lv) (Zgz lv) fun g hg l b n l1 b1 hN hn hb hl => l_Matrix hg l b n l1 b1 hN hn hb hl
theorem rd_space (lv : Int) : Rd (RC 75 [] PF.av lv) PF.ok eF PF.can (fun _ => True) :=
 Zfl (Zax (Zeh lv) (Zax (Zeh lv) (Zax (Zeh lv) (Zax (Zeh lv) (rd_lSeries lv))))) (fun p => ⟨p.1, p.2.1, p.2.2.1, p.2.2.2.1, p.2.2.2.2⟩) (fun w => (w.l, w.w, w.d, w.pr, w.b)) (fun w => rfl) (fun v h => h) (fun w h => h) (fun w h => ⟨trivial, trivial, trivial, trivial, fun _ _ => trivial⟩) (fun w => rfl) (fun v _ => Nat.le_refl _) (fun l b v l' b' _ _ _ _ _ h => by obtain ⟨_, _, c1, ⟨_, _, c2, ⟨_, _, c3, ⟨_, _, c4, c5⟩⟩⟩⟩ := h; exact space_w c1 c2 c3 c4 c5)
theorem rd_lSpace (lv : Int) : Rd (RC 74 [.bm 75 100 0] (fun vs : List PF => .sl (vs.map PF.av)) lv) (fun vs => (∀ v, v ∈ vs → PF.ok v) ∧ vs.length ≤ 1000000000) (eL eF) (fun vs => vs.map PF.can) (fun vs => ∀ v, v ∈ vs → (fun _ => True) v) :=
 Zfb (rd_space lv) (Zgz lv) fun g hg l b n l1 b1 hN hn hb hl => l_Space hg l b n l1 b1 hN hn hb hl
theorem rd_binding : Rd (RC 71 [] PB.av 0) PB.ok eD PB.can (fun w => Zdr 100 w.e) :=
 Zfl (Zax (rd_text 0) rd_expr0) (fun p => ⟨p.1, p.2⟩) (fun w => (w.nm, w.e)) (fun w => rfl) (fun v h => h) (fun w h => h) (fun w h => ⟨trivial, h⟩) (fun w => rfl) (fun v _ => Nat.le_refl _) (fun l b v l' b' _ _ _ _ _ h => by obtain ⟨_, _, c1, c2⟩ := h; exact binding_w c1 c2)
theorem Zgo  : Rd (RC 70 [.bm 71 100 0] (fun vs : List PB => .sl (vs.map PB.av)) 0) (fun vs => (∀ v, v ∈ vs → PB.ok v) ∧ vs.length ≤ 1000000000) (eL eD) (fun vs => vs.map PB.can) (fun vs => ∀ v, v ∈ vs → (fun w : PB => Zdr 100 w.e) v) :=
 Zfb rd_binding (Zgz 0) fun g hg l b n l1 b1 hN hn hb hl => l_Binding hg l b n l1 b1 hN hn hb hl
theorem rd_certificate : Rd (RC 73 [] PZ.av 0) PZ.ok eC PZ.can (fun w => Zdr 100 w.a ∧ Zdr 100 w.b ∧ ∀ v, v ∈ w.ds → Zdr 100 v.e) :=
 Zfl (Zax rd_expr0 (Zax rd_expr0 (Zax Zgo (Zax (rd_kind 0) (Zax (Zeh 0) (rd_series 0)))))) (fun p => ⟨p.1, p.2.1, p.2.2.1, p.2.2.2.1, p.2.2.2.2.1, p.2.2.2.2.2⟩) (fun w => (w.a, w.b, w.ds, w.k, w.bo, w.c)) (fun w => rfl) (fun v h => h) (fun w h => h) (fun w h => ⟨h.1, h.2.1, h.2.2, trivial, trivial, trivial⟩) (fun w => rfl) (fun v _ => Nat.le_refl _) (fun l b v l' b' _ _ _ _ _ h => by obtain ⟨_, _, c1, ⟨_, _, c2, ⟨_, _, c3, ⟨_, _, c4, ⟨_, _, c5, c6⟩⟩⟩⟩⟩ := h; exact certificate_w c1 c2 c3 c4 c5 c6)
theorem rd_lCert  : Rd (RC 72 [.bm 73 100 0] (fun vs : List PZ => .sl (vs.map PZ.av)) 0) (fun vs => (∀ v, v ∈ vs → PZ.ok v) ∧ vs.length ≤ 1000000000) (eL eC) (fun vs => vs.map PZ.can) (fun vs => ∀ v, v ∈ vs → (fun w : PZ => Zdr 100 w.a ∧ Zdr 100 w.b ∧ ∀ v, v ∈ w.ds → Zdr 100 v.e) v) :=
 Zfb rd_certificate (Zgz 0) fun g hg l b n l1 b1 hN hn hb hl => l_Cert hg l b n l1 b1 hN hn hb hl
end Ab
