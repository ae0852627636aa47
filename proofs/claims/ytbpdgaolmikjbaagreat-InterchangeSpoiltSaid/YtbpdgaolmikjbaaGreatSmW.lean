/- What the statements look at: small packages; plain. What the statements look at: the walks (printed by tools/gen_sm.py). Small packages: the walk (printed by tools/gen_sm.py C). -/
import Derived.Test.YtbpdgaolmikjbaaGreatRdQ
import Derived.Test.YtbpdgaolmikjbaaGreatEnP
set_option linter.all false
namespace Ab
open Go Go.RowKit Go.Proofs Hp
set_option maxRecDepth 100000
def BI.wk (a : BI) : Prop := (∀ d, d ∈ a.ds → 0 ≤ d ∧ d < 4294967296) ∧ a.ds.length ≤ 9223372036854775807
def BR.wk (a : BR) : Prop := a.n.wk ∧ a.d.wk
def LW {α : Type} (P : α → Prop) (l : List α) : Prop := (∀ x, x ∈ l → P x) ∧ l.length ≤ 9223372036854775807
def PS.wk (a : PS) : Prop := I64 a.f ∧ LW BR.wk a.c
def PE.wk (a : PE) : Prop := I64 a.l ∧ LW I64 a.e
mutual
def PX.wk : PX → Prop
 | .mk op ns c nm gs => I64 op ∧ LW I64 ns ∧ c.wk ∧ nm.size ≤ 9223372036854775807 ∧ PX.wks gs ∧ gs.length ≤ 9223372036854775807
def PX.wks : List PX → Prop
 | [] => True
 | a :: l => PX.wk a ∧ PX.wks l
end
theorem PX.wks_iff : ∀ l : List PX, PX.wks l ↔ ∀ a, a ∈ l → PX.wk a
 | [] => ⟨fun _ a h => (by cases h), fun _ => trivial⟩
 | b :: l => by rw [PX.wks, PX.wks_iff l]; simp
def PB.wk (a : PB) : Prop := a.nm.size ≤ 9223372036854775807 ∧ a.e.wk
def PZ.wk (a : PZ) : Prop := a.a.wk ∧ a.b.wk ∧ LW PB.wk a.ds ∧ a.k.ok ∧ I64 a.bo ∧ a.c.wk
def PF.wk (a : PF) : Prop := I64 a.l ∧ I64 a.w ∧ I64 a.d ∧ I64 a.pr ∧ LW PS.wk a.b
def PM.wk (a : PM) : Prop := I64 a.r ∧ I64 a.c ∧ LW BR.wk a.a
def PP.wk (a : PP) : Prop := LW PS.wk a.ser ∧ LW PE.wk a.eta ∧ LW PB.wk a.defs ∧ LW PZ.wk a.cert ∧ LW PF.wk a.spc ∧ LW PM.wk a.mat
def rS (a : BR) : Bool := !decide (40 < a.n.ds.length) && !decide (40 < a.d.ds.length)
def shB (l : List BR) : Bool := decide (l.length ≤ 60) && l.all rS
mutual
def nd' : PX → Nat
 | .mk _ _ _ _ gs => 1 + nds gs
def nds : List PX → Nat
 | [] => 0
 | a :: l => nd' a + nds l
end
mutual
def plB : PX → Bool
 | .mk _ ns c nm gs => (decide (ns.length ≤ 80) && (decide (c.n.ds.length ≤ 8) && (decide (c.d.ds.length ≤ 8) && decide (nm.size ≤ 100)))) && plBs gs
def plBs : List PX → Bool
 | [] => true
 | a :: l => plB a && plBs l
end
theorem plBs_all : ∀ l : List PX, plBs l = l.all plB
 | [] => rfl
 | a :: l => by rw [plBs, plBs_all l]; rfl
def lgP (x : PX) : Prop := nd' x ≤ 80 ∧ plB x = true
def ldP (l : List PB) : Prop := (∀ d, d ∈ l → lgP d.e ∧ d.nm.size ≤ 200) ∧ l.length ≤ 6
def smP (p : PP) : Prop := ((∀ s, s ∈ p.ser → shB s.c = true) ∧ p.ser.length ≤ 6) ∧ ((∀ s, s ∈ p.eta → s.e.length ≤ 60) ∧ p.eta.length ≤ 6) ∧ ldP p.defs ∧
 ((∀ c, c ∈ p.cert → lgP c.a ∧ lgP c.b ∧ shB c.c.c = true ∧ ldP c.ds) ∧ p.cert.length ≤ 3) ∧ ((∀ s, s ∈ p.spc → (∀ b, b ∈ s.b → shB b.c = true) ∧ s.b.length ≤ 6) ∧ p.spc.length ≤ 3) ∧ (∀ m, m ∈ p.mat → shB m.a = true) ∧ p.mat.length ≤ 3
theorem shB_ok {l : List BR} (h : LW BR.wk l) (hs : shB l = true) : (∀ r, r ∈ l → r.ok) ∧ l.length ≤ 60 ∧ ∀ r, r ∈ l → (eR r.can).length ≤ 658 := by
 unfold shB at hs
 rw [Bool.and_eq_true, List.all_eq_true] at hs
 obtain ⟨h1, h2⟩ := hs
 have h1 := of_decide_eq_true h1
 have hr : ∀ r, r ∈ l → r.ok ∧ r.n.ds.length ≤ 40 ∧ r.d.ds.length ≤ 40 := fun r hr => by
  have h3 := h2 r hr
  unfold rS at h3
  rw [Bool.and_eq_true, Bool.not_eq_true', Bool.not_eq_true'] at h3
  have h4 := of_decide_eq_false h3.1
  have h5 := of_decide_eq_false h3.2
  obtain ⟨⟨g1, -⟩, ⟨g2, -⟩⟩ := h.1 r hr
  exact ⟨⟨⟨g1, by omega⟩, ⟨g2, by omega⟩⟩, by omega, by omega⟩
 refine ⟨fun r h => (hr r h).1, h1, fun r h => ?_⟩
 obtain ⟨k1, k2, k3⟩ := hr r h
 have := eR_can k1
 omega
theorem nd_pos (x : PX) : 1 ≤ nd' x := by cases x; rw [nd']; omega
theorem nds_len : ∀ l : List PX, l.length ≤ nds l
 | [] => Nat.zero_le _
 | a :: l => by rw [nds, List.length_cons]; have := nds_len l; have := nd_pos a; omega
mutual
theorem px_ok : ∀ x : PX, x.wk → plB x = true → nd' x ≤ 1000 → x.ok
  | .mk op ns c nm gs, h, hp, hn => by
    obtain ⟨h1, ⟨h2, -⟩, ⟨⟨h3, -⟩, ⟨h4, -⟩⟩, -, h5, -⟩ := h
    rw [plB, Bool.and_eq_true, Bool.and_eq_true, Bool.and_eq_true, Bool.and_eq_true] at hp
    obtain ⟨⟨q1, q2, q3, q4⟩, q5⟩ := hp
    have q1 := of_decide_eq_true q1
    have q2 := of_decide_eq_true q2
    have q3 := of_decide_eq_true q3
    have q4 := of_decide_eq_true q4
    rw [nd'] at hn
    have := nds_len gs
    exact ⟨h1, ⟨h2, by omega⟩, ⟨⟨h3, by omega⟩, ⟨h4, by omega⟩⟩, by omega, pxs_ok gs h5 q5 (by omega), by omega⟩
theorem pxs_ok : ∀ l : List PX, PX.wks l → plBs l = true → nds l ≤ 1000 → PX.oks l
  | [], _, _, _ => trivial
  | a :: l, h, hp, hn => by
    rw [plBs, Bool.and_eq_true] at hp
    rw [nds] at hn
    exact ⟨px_ok a h.1 hp.1 (by omega), pxs_ok l h.2 hp.2 (by omega)⟩
end
mutual
theorem fit_nd : ∀ (x : PX) (L n : Nat), nd' x ≤ L → nd' x ≤ n → fit x L n = some (n - nd' x)
  | .mk op ns c nm gs, L, n, h1, h2 => by
    rw [nd'] at h1 h2 ⊢
    rw [fit, if_neg (by omega)]
    have := fits_nd gs (L - 1) (n - 1) (by omega) (by omega)
    rw [this]
    congr 1; omega
theorem fits_nd : ∀ (l : List PX) (L n : Nat), nds l ≤ L → nds l ≤ n → fits l L n = some (n - nds l)
  | [], L, n, _, _ => by rw [fits, nds]; rfl
  | a :: l, L, n, h1, h2 => by
    rw [nds] at h1 h2 ⊢
    rw [fits, fit_nd a L n (by omega) (by omega)]
    show fits l L (n - nd' a) = _
    rw [fits_nd l L (n - nd' a) (by omega) (by omega)]
    congr 1; omega
end
theorem lg_fit {x : PX} (h : lgP x) : fitB x = true := by
 unfold fitB
 rw [fit_nd x 100 1000 (by have := h.1; omega) (by have := h.1; omega)]; rfl
theorem eI_all {l : List Int} {k : Nat} (h : ∀ n, n ∈ l → I64 n) (hk : l.length ≤ k) (hk5 : k ≤ 2000000001) : (eL eI l).length ≤ 5 + 10 * k := by
  unfold eL
  rw [List.length_append]
  have h1 := eN_5 (n := l.length) (by omega)
  have h2 : (l.flatMap eI).length ≤ 10 * l.length := by
    clear h1 hk
    induction l with
    | nil => simp
    | cons a l ih =>
      rw [List.flatMap_cons, List.length_append, List.length_cons]
      have := eI_10 (h a (List.mem_cons_self ..))
      have := ih fun n hn => h n (List.mem_cons_of_mem _ hn)
      omega
  omega
theorem eL_all {α : Type} {f : α → List Nat} {l : List α} {m : Nat} (k : Nat) (h : ∀ x, x ∈ l → (f x).length ≤ k) (hm : l.length ≤ m) (hm5 : m ≤ 2000000001) : (eL f l).length ≤ 5 + m * k := by
  unfold eL
  rw [List.length_append]
  have h1 := eN_5 (n := l.length) (by omega)
  have h2 : (l.flatMap f).length ≤ l.length * k := by
    clear h1 hm
    induction l with
    | nil => simp
    | cons a l ih =>
      rw [List.flatMap_cons, List.length_append, List.length_cons, Nat.succ_mul]
      have := h a (List.mem_cons_self ..)
      have := ih fun n hn => h n (List.mem_cons_of_mem _ hn)
      omega
  have h3 : l.length * k ≤ m * k := Nat.mul_le_mul_right k hm
  omega
mutual
theorem lg_len : ∀ x : PX, x.ok → plB x = true → nd' x ≤ 1000 → (eX x.can).length ≤ 1100 * nd' x
  | .mk op ns c nm gs, h, hp, hn => by
    obtain ⟨h1, ⟨h2, -⟩, h3, -, h5, -⟩ := h
    rw [plB, Bool.and_eq_true, Bool.and_eq_true, Bool.and_eq_true, Bool.and_eq_true] at hp
    obtain ⟨⟨q1, q2, q3, q4⟩, q5⟩ := hp
    have q1 := of_decide_eq_true q1
    have q2 := of_decide_eq_true q2
    have q3 := of_decide_eq_true q3
    have q4 := of_decide_eq_true q4
    rw [nd'] at hn ⊢
    have g0 := nds_len gs
    have ih := lgs_len gs h5 q5 (by omega)
    rw [PX.can, eX]
    simp only [List.length_append]
    have g1 := eI_10 h1
    have g2 := eI_all h2 q1 (by decide)
    have g3 := eR_can h3
    have g4 := eT_len nm (by omega)
    have g5 := eN_5 (n := (PX.cans gs).length) (by rw [PX.cans_map, List.length_map]; omega)
    omega
theorem lgs_len : ∀ l : List PX, PX.oks l → plBs l = true → nds l ≤ 1000 → (eXs (PX.cans l)).length ≤ 1100 * nds l
  | [], _, _, _ => by rw [PX.cans, eXs, nds]; simp
  | a :: l, h, hp, hn => by
    rw [plBs, Bool.and_eq_true] at hp
    rw [nds] at hn ⊢
    rw [PX.cans, eXs, List.length_append]
    have := lg_len a h.1 hp.1 (by omega)
    have := lgs_len l h.2 hp.2 (by omega)
    omega
end
theorem lg_all {x : PX} (hw : x.wk) (h : lgP x) : x.ok ∧ (eX x.can).length ≤ 88000 := by
 have h1 := px_ok x hw h.2 (by have := h.1; omega)
 have := lg_len x h1 h.2 (by have := h.1; omega)
 have := h.1
 exact ⟨h1, by omega⟩
theorem ps_all {s : PS} (hw : s.wk) (h : shB s.c = true) : s.ok ∧ (eS s.can).length ≤ 39495 := by
 obtain ⟨h1, h2, h3⟩ := shB_ok hw.2 h
 refine ⟨⟨hw.1, h1, by omega⟩, ?_⟩
 show (eI s.f ++ eL eR (s.c.map BR.can)).length ≤ _
 rw [List.length_append]
 have g1 := eI_10 hw.1
 have g2 := eL_all (f := eR) (l := s.c.map BR.can) (m := 60) 658 (fun x hx => by
  obtain ⟨r, hr, rfl⟩ := List.mem_map.1 hx
  exact h3 r hr) (by rw [List.length_map]; exact h2) (by decide)
 omega
theorem defs_all {l : List PB} (hw : LW PB.wk l) (h : ldP l) : (∀ d, d ∈ l → d.ok) ∧ l.length ≤ 6 ∧ (eL eD (l.map PB.can)).length ≤ 529235 ∧ ∀ d, d ∈ l → fitB d.e = true := by
 have hd : ∀ d, d ∈ l → d.ok ∧ (eD d.can).length ≤ 88205 := fun d hd => by
  obtain ⟨h1, h2⟩ := h.1 d hd
  obtain ⟨k1, k2⟩ := lg_all (hw.1 d hd).2 h1
  refine ⟨⟨by omega, k1⟩, ?_⟩
  show (eT d.nm ++ eX d.e.can).length ≤ _
  rw [List.length_append]
  have := eT_len d.nm (by omega)
  omega
 refine ⟨fun d h => (hd d h).1, h.2, ?_, fun d hd => lg_fit (h.1 d hd).1⟩
 have := eL_all (f := eD) (l := l.map PB.can) (m := 6) 88205 (fun x hx => by
  obtain ⟨r, hr, rfl⟩ := List.mem_map.1 hx
  exact (hd r hr).2) (by rw [List.length_map]; exact h.2) (by decide)
 omega
theorem sm_all {p : PP} (hw : p.wk) (h : smP p) : p.ok ∧ p.binds.length ≤ 1000000000 ∧ fewB p = true ∧ (eP p.can).length ≤ 5000000 := by
 obtain ⟨w0, w1, w2, w3, w4, w5⟩ := hw
 obtain ⟨⟨h0, n0⟩, ⟨h1, n1⟩, h2, ⟨h3, n3⟩, ⟨h4, n4⟩, h5, n5⟩ := h
 have s0 : ∀ s, s ∈ p.ser → s.ok ∧ (eS s.can).length ≤ 39495 := fun s hs => ps_all (w0.1 s hs) (h0 s hs)
 have s1 : ∀ s, s ∈ p.eta → s.ok ∧ (eE s).length ≤ 615 := fun s hs => by
  obtain ⟨g1, g2, -⟩ := w1.1 s hs
  have g3 := h1 s hs
  refine ⟨⟨g1, g2, by omega⟩, ?_⟩
  show (eI s.l ++ eL eI s.e).length ≤ _
  rw [List.length_append]
  have := eI_10 g1
  have := eI_all g2 g3 (by decide)
  omega
 obtain ⟨d1, d2, d3, d4⟩ := defs_all w2 h2
 have s3 : ∀ c, c ∈ p.cert → c.ok ∧ (eC c.can).length ≤ 744800 ∧ fitB c.a = true ∧ fitB c.b = true ∧ ∀ d, d ∈ c.ds → fitB d.e = true := fun c hc => by
  obtain ⟨g1, g2, g3, g4, g5, g6⟩ := w3.1 c hc
  obtain ⟨k1, k2, k3, k4⟩ := h3 c hc
  obtain ⟨m1, m2⟩ := lg_all g1 k1
  obtain ⟨m3, m4⟩ := lg_all g2 k2
  obtain ⟨m5, m6, m7, m8⟩ := defs_all g3 k4
  obtain ⟨m9, m10⟩ := ps_all g6 k3
  refine ⟨⟨m1, m3, ⟨m5, by omega⟩, g4, g5, m9⟩, ?_, lg_fit k1, lg_fit k2, m8⟩
  show (eX c.a.can ++ (eX c.b.can ++ (eL eD (c.ds.map PB.can) ++ ((eI c.k.w ++ (eI c.k.l ++ (eI c.k.d ++ (eI c.k.p ++ eN (if c.k.cu then 1 else 0))))) ++ (eI c.bo ++ eS c.c.can))))).length ≤ _
  simp only [List.length_append]
  have := eI_10 g4.1
  have := eI_10 g4.2.1
  have := eI_10 g4.2.2.1
  have := eI_10 g4.2.2.2
  have := eI_10 g5
  have : (eN (if c.k.cu = true then 1 else 0)).length ≤ 5 := eN_5 (by split <;> decide)
  omega
 have s4 : ∀ f, f ∈ p.spc → f.ok ∧ (eF f.can).length ≤ 237015 := fun f hf => by
  obtain ⟨g1, g2, g3, g4, g5⟩ := w4.1 f hf
  obtain ⟨k1, k2⟩ := h4 f hf
  refine ⟨⟨g1, g2, g3, g4, fun s hs => (ps_all (g5.1 s hs) (k1 s hs)).1, by omega⟩, ?_⟩
  show (eI f.l ++ (eI f.w ++ (eI f.d ++ (eI f.pr ++ eL eS (f.b.map PS.can))))).length ≤ _
  simp only [List.length_append]
  have := eI_10 g1
  have := eI_10 g2
  have := eI_10 g3
  have := eI_10 g4
  have := eL_all (f := eS) (l := f.b.map PS.can) (m := 6) 39495 (fun x hx => by
   obtain ⟨r, hr, rfl⟩ := List.mem_map.1 hx
   exact (ps_all (g5.1 r hr) (k1 r hr)).2) (by rw [List.length_map]; exact k2) (by decide)
  omega
 have s5 : ∀ m, m ∈ p.mat → m.ok ∧ (eM m.can).length ≤ 39505 := fun m hm => by
  obtain ⟨g1, g2, g3⟩ := w5.1 m hm
  obtain ⟨k1, k2, k3⟩ := shB_ok g3 (h5 m hm)
  refine ⟨⟨g1, g2, k1, by omega⟩, ?_⟩
  show (eI m.r ++ (eI m.c ++ eL eR (m.a.map BR.can))).length ≤ _
  simp only [List.length_append]
  have := eI_10 g1
  have := eI_10 g2
  have := eL_all (f := eR) (l := m.a.map BR.can) (m := 60) 658 (fun x hx => by
   obtain ⟨r, hr, rfl⟩ := List.mem_map.1 hx
   exact k3 r hr) (by rw [List.length_map]; exact k2) (by decide)
  omega
 have len : (eP p.can).length ≤ 5000000 := by
  show (eL eS (p.ser.map PS.can) ++ (eL eE p.eta ++ (eL eD (p.defs.map PB.can) ++ (eL eC (p.cert.map PZ.can) ++ (eL eF (p.spc.map PF.can) ++ eL eM (p.mat.map PM.can)))))).length ≤ _
  simp only [List.length_append]
  have t0 := eL_all (f := eS) (l := p.ser.map PS.can) (m := 6) 39495 (fun x hx => by
   obtain ⟨r, hr, rfl⟩ := List.mem_map.1 hx
   exact (s0 r hr).2) (by rw [List.length_map]; exact n0) (by decide)
  have t1 := eL_all (f := eE) (l := p.eta) (m := 6) 615 (fun x hx => (s1 x hx).2) n1 (by decide)
  have t3 := eL_all (f := eC) (l := p.cert.map PZ.can) (m := 3) 744800 (fun x hx => by
   obtain ⟨r, hr, rfl⟩ := List.mem_map.1 hx
   exact (s3 r hr).2.1) (by rw [List.length_map]; exact n3) (by decide)
  have t4 := eL_all (f := eF) (l := p.spc.map PF.can) (m := 3) 237015 (fun x hx => by
   obtain ⟨r, hr, rfl⟩ := List.mem_map.1 hx
   exact (s4 r hr).2) (by rw [List.length_map]; exact n4) (by decide)
  have t5 := eL_all (f := eM) (l := p.mat.map PM.can) (m := 3) 39505 (fun x hx => by
   obtain ⟨r, hr, rfl⟩ := List.mem_map.1 hx
   exact (s5 r hr).2) (by rw [List.length_map]; exact n5) (by decide)
  omega
 have hb : p.binds.length ≤ 1000000000 := by
  have := eP_binds p.can
  rw [binds_can, List.length_map] at this
  omega
 refine ⟨⟨⟨fun s h => (s0 s h).1, by omega⟩, ⟨fun s h => (s1 s h).1, by omega⟩, ⟨d1, by omega⟩, ⟨fun s h => (s3 s h).1, by omega⟩, ⟨fun s h => (s4 s h).1, by omega⟩, fun s h => (s5 s h).1, by omega⟩, hb, ?_, len⟩
 unfold fewB
 rw [Bool.and_eq_true, List.all_eq_true, List.all_eq_true]
 refine ⟨fun c hc => ?_, fun d hd => ?_⟩
 ·obtain ⟨-, -, g1, g2, -⟩ := s3 c hc
  rw [g1, g2]; rfl
 ·rcases List.mem_append.1 hd with hd | hd
  ·exact d4 d hd
  ·obtain ⟨c, hc, hd⟩ := List.mem_flatMap.1 hd
   exact (s3 c hc).2.2.2.2 d hd
end Ab
namespace Ab
open Go Go.RowKit Go.Proofs Hp
set_option maxRecDepth 100000
set_option maxHeartbeats 4000000
section
variable {dm : Bool} {P : Program} {ops : Array Oper} {s : AS} {dst : Option Tmp} {ty : TypeId} {pos : String} {after : Array Edge} {g : Option (Nat × Bool)}
theorem ss_max3 {ts : Array TypeId} {k : IntKind} {y z t : Operand} {p q r : Int} (hin : InB s dst) (hy : s.ev y = some (.v (.p (.int k p)))) (hz : s.ev z = some (.v (.p (.int k q)))) (ht : s.ev t = some (.v (.p (.int k r)))) : SStep dm P ops ⟨dst, .call ⟨.builtin .max, #[y, z, t], ts⟩, ty, pos, after, g⟩ s (.v (.p (.int k (max (max p q) r)))) .none :=
 ss_pure hin fun s' hag w0 M0 ρ a w _ hr => by
  have h1 := Rep.p_inv (hr.ev ((hag.ev (by simp [Op.operands, Call.operands])).trans hy))
  have h2 := Rep.p_inv (hr.ev ((hag.ev (by simp [Op.operands, Call.operands])).trans hz))
  have h3 := Rep.p_inv (hr.ev ((hag.ev (by simp [Op.operands, Call.operands])).trans ht))
  refine ⟨.int k (max (max p q) r), ?_, .p _ rfl⟩
  have e : (if q > p then q else p) = max p q := by omega
  have e2 : (if r > max p q then r else max p q) = max (max p q) r := by omega
  simp [execOp, resolve, invoke, builtin, h1, h2, h3, Builtin.max_, Builtin.max2, e, e2]
end
theorem nds_app : ∀ a b : List PX, nds (a ++ b) = nds a + nds b
 | [], b => by simp [nds]
 | x :: a, b => by rw [List.cons_append, nds, nds, nds_app a b]; omega
theorem nds_take {gs : List PX} {i : Nat} {x : PX} (h : gs[i]? = some x) : nds (gs.take (i + 1)) = nds (gs.take i) + nd' x := by
 rw [List.take_add_one, h, nds_app]; simp [nds]
theorem nds_take_le (gs : List PX) (i : Nat) : nds (gs.take i) ≤ nds gs := by
 have := nds_app (gs.take i) (gs.drop i)
 rw [List.take_append_drop] at this
 omega
def tm (op : Int) (ns : List Int) (t : Int) : Int := if op = 12 then (match ns with | [] => t | k :: _ => min (t * max (max 1 (min k 1000)) (min (-(max k (-1000))) 1000)) 100000) else t
mutual
def bt : PX → Int → Int
 | .mk op ns c nm gs, t => bts gs (tm op ns t) (if op = 1 then (32 * ((c.n.ds.length : Int) + c.d.ds.length) * t).tdiv 4 else 0)
def bts : List PX → Int → Int → Int
 | [], _, n => n
 | a :: l, t, n => bts l t (min (n + bt a t) 100000)
end
theorem bts_app : ∀ (a b : List PX) (t n : Int), bts (a ++ b) t n = bts b t (bts a t n)
 | [], b, t, n => rfl
 | x :: a, b, t, n => by rw [List.cons_append, bts, bts, bts_app a b]
theorem bts_take {gs : List PX} {i : Nat} {x : PX} (h : gs[i]? = some x) (t n : Int) : bts (gs.take (i + 1)) t n = min (bts (gs.take i) t n + bt x t) 100000 := by
 rw [List.take_add_one, h, bts_app]; rfl
theorem tm_bd {op : Int} {ns : List Int} {t : Int} (h0 : 0 ≤ t) (h1 : t ≤ 100000) : 0 ≤ tm op ns t ∧ tm op ns t ≤ 100000 := by
 unfold tm
 split
 ·split
  ·exact ⟨h0, h1⟩
  ·rename_i k _
   have hM : 0 ≤ max (max 1 (min k 1000)) (min (-(max k (-1000))) 1000) := by omega
   have := Int.mul_nonneg h0 hM
   omega
 ·exact ⟨h0, h1⟩
mutual
theorem bt_bd : ∀ (x : PX) (t : Int), plB x = true → 0 ≤ t → t ≤ 100000 → 0 ≤ bt x t ∧ bt x t ≤ 12800000
  | .mk op ns c nm gs, t, hp, h0, h1 => by
    rw [plB, Bool.and_eq_true, Bool.and_eq_true, Bool.and_eq_true, Bool.and_eq_true] at hp
    obtain ⟨⟨-, q2, q3, -⟩, q5⟩ := hp
    have q2 := of_decide_eq_true q2
    have q3 := of_decide_eq_true q3
    obtain ⟨t0, t1⟩ := tm_bd (op := op) (ns := ns) h0 h1
    rw [bt]
    have hb : 0 ≤ (if op = 1 then (32 * ((c.n.ds.length : Int) + c.d.ds.length) * t).tdiv 4 else 0) ∧ (if op = 1 then (32 * ((c.n.ds.length : Int) + c.d.ds.length) * t).tdiv 4 else 0) ≤ 12800000 := by
      split
      · have e1 : 0 ≤ 32 * ((c.n.ds.length : Int) + c.d.ds.length) * t := Int.mul_nonneg (by omega) h0
        have e2 : 32 * ((c.n.ds.length : Int) + c.d.ds.length) * t ≤ 512 * 100000 := Int.mul_le_mul (by omega) h1 h0 (by omega)
        rw [Int.tdiv_eq_ediv_of_nonneg e1]
        omega
      · omega
    exact bts_bd gs _ _ q5 t0 t1 hb.1 hb.2
theorem bts_bd : ∀ (l : List PX) (t n : Int), plBs l = true → 0 ≤ t → t ≤ 100000 → 0 ≤ n → n ≤ 12800000 → 0 ≤ bts l t n ∧ bts l t n ≤ 12800000
  | [], t, n, _, _, _, h2, h3 => ⟨h2, h3⟩
  | a :: l, t, n, hp, h0, h1, h2, h3 => by
    rw [plBs, Bool.and_eq_true] at hp
    rw [bts]
    have := bt_bd a t hp.1 h0 h1
    exact bts_bd l t _ hp.2 h0 h1 (by omega) (by omega)
end
def lgB (x : PX) : Bool := decide (nd' x ≤ 80) && (plB x && decide (bt x 1 ≤ 4000))
def ldB (l : List PB) : Bool := (l.all fun d => lgB d.e && !decide (200 < d.nm.size)) && decide (l.length ≤ 6)
def hdB (p : PP) : Bool := decide (p.ser.length ≤ 6) && (decide (p.eta.length ≤ 6) && (decide (p.defs.length ≤ 6) && (decide (p.cert.length ≤ 3) && (decide (p.spc.length ≤ 3) && decide (p.mat.length ≤ 3)))))
def smB (p : PP) : Bool := hdB p && ((p.ser.all fun s => shB s.c) && ((p.eta.all fun e => !decide (60 < e.e.length)) && ((p.spc.all fun f => !decide (6 < f.b.length) && f.b.all fun s => shB s.c) && ((p.mat.all fun m => shB m.a) && ((p.cert.all fun c => lgB c.a && (lgB c.b && (shB c.c.c && ldB c.ds))) && ldB p.defs)))))
theorem lgB_P {x : PX} (h : lgB x = true) : lgP x := by
 unfold lgB at h
 rw [Bool.and_eq_true, Bool.and_eq_true] at h
 exact ⟨of_decide_eq_true h.1, h.2.1⟩
theorem ldB_P {l : List PB} (h : ldB l = true) : ldP l := by
 unfold ldB at h
 rw [Bool.and_eq_true, List.all_eq_true] at h
 refine ⟨fun d hd => ?_, of_decide_eq_true h.2⟩
 have := h.1 d hd
 rw [Bool.and_eq_true, Bool.not_eq_true'] at this
 have h2 := of_decide_eq_false this.2
 exact ⟨lgB_P this.1, by omega⟩
theorem smB_P {p : PP} (h : smB p = true) : smP p := by
 unfold smB hdB at h
 simp only [Bool.and_eq_true, List.all_eq_true, Bool.not_eq_true', decide_eq_true_eq, decide_eq_false_iff_not] at h
 obtain ⟨⟨a0, a1, a2, a3, a4, a5⟩, b0, b1, b4, b5, b3, b2⟩ := h
 exact ⟨⟨b0, a0⟩, ⟨fun s hs => by have := b1 s hs; omega, a1⟩, ldB_P b2, ⟨fun c hc => ⟨lgB_P (b3 c hc).1, lgB_P (b3 c hc).2.1, (b3 c hc).2.2.1, ldB_P (b3 c hc).2.2.2⟩, a3⟩, ⟨fun s hs => ⟨(b4 s hs).2, by have := (b4 s hs).1; omega⟩, a4⟩, b5, a5⟩
theorem szc_p' : ∀ (n : Nat) (a : PX), sizeOf a ≤ n → a.wk → ∀ m : Nat, m ≤ 1000 → PC Tryz.prog 120 [a.av, iV m] (iV ((min (nd' a) (m + 1) : Nat) : Int)) := by
  intro n
  induction n with
  | zero => intro a hs; cases a; simp at hs
  | succ n ih =>
    rintro ⟨op, ns, c, nm, gs⟩ hs ⟨-, -, -, -, h6, h7⟩ m hm
    have cg : ∀ x, x ∈ gs → ∀ m : Nat, m ≤ 1000 → PC Tryz.prog 120 [x.av, iV m] (iV ((min (nd' x) (m + 1) : Nat) : Int)) := fun x hx => ih x (by have := List.sizeOf_lt_of_mem hx; simp at hs; omega) ((PX.wks_iff gs).1 h6 x hx)
    clear ih hs h6
    rw [px_av, nd']
    obtain ⟨⟨ga, da⟩, ⟨gb, db⟩⟩ := c
    refine pc_body1 true Tryz.func120 rfl rfl rfl (Nat.le_of_ble_eq_true rfl) CellT.tmp ?_
    refine goJ ?_
    refine T.loop (fun N s1 => ∃ (i : Nat) (k : Nat), N = gs.length - i ∧ i ≤ gs.length ∧ k = min (1 + nds (gs.take i)) (m + 1) ∧ s1 = mkS [(1, .v (iV m)), (2, .ptr 2 0), (5, .v (iV k)), (6, .v (iV i))] [(2, .var [.v (iV op), .v (.sl (ns.map iV)), .v (boV ga), .v (.sl (da.map u32)), .v (boV gb), .v (.sl (db.map u32)), .v (tV nm), .v (.sl (gs.map PX.av))])] 31 true) gs.length
      (s' := mkS [(1, .v (iV m)), (2, .ptr 2 0), (5, .v (iV ((1 : Nat) : Int))), (6, .v (iV ((0 : Nat) : Int)))] [(2, .var [.v (iV op), .v (.sl (ns.map iV)), .v (boV ga), .v (.sl (da.map u32)), .v (boV gb), .v (.sl (db.map u32)), .v (tV nm), .v (.sl (gs.map PX.av))])] 31 true) (by exact entA) ⟨0, 1, rfl, Nat.zero_le _, by simp [nds], rfl⟩ ?_
    rintro _ _ ⟨i, k, rfl, hi, hk, rfl⟩
    have hle := nds_take_le gs i
    by_cases hlt : i < gs.length
    · have d1 : decide ((i : Int) < ((gs.map PX.av).length : Int)) = true := decide_eq_true (by rw [List.length_map]; omega)
      by_cases hkm : k ≤ m
      · have d2 : decide ((k : Int) ≤ (m : Int)) = true := decide_eq_true (by omega)
        have hg : gs[i]? = some gs[i] := List.getElem?_eq_getElem hlt
        have hx : (gs.map PX.av)[((i : Nat) : Int).toNat]? = some (PX.av gs[i]) := by rw [Int.toNat_natCast, List.getElem?_map, hg]; rfl
        have c := cg _ (List.getElem_mem hlt) (m - k) (by omega)
        have ht := nds_take hg
        have hle2 := nds_take_le gs (i + 1)
        clear hg cg
        generalize gs[i] = x at *
        rw [show (((m - k : Nat) : Int)) = (m : Int) - (k : Int) by omega] at c
        have hq : ((k : Nat) : Int) + ((min (nd' x) (m - k + 1) : Nat) : Int) = ((min (1 + nds (gs.take (i + 1))) (m + 1) : Nat) : Int) := by omega
        have hz : ((min (nd' x) (m - k + 1) : Nat) : Int) ≤ 1001 := by omega
        have hz0 : 0 ≤ ((min (nd' x) (m - k + 1) : Nat) : Int) := by omega
        have hk9 : (k : Int) ≤ 1001 := by omega
        generalize ((min (nd' x) (m - k + 1) : Nat) : Int) = Y at *
        obtain ⟨op', ns', ⟨⟨ga', da'⟩, ⟨gb', db'⟩⟩, nm', gs'⟩ := x
        refine goJ ?_
        refine evG ggA (ss_index_sl (InB_of rfl) (elem_tab rfl) rfl rfl (by omega) hx rfl) ?_
        refine goJ ?_
        refine evG ggA (ss_call (InB_of rfl) rfl rfl c) ?_
        refine goJ ?_
        exact loopQ_intro (k := gs.length - (i + 1)) (s' := mkS [(1, .v (iV m)), (2, .ptr 2 0), (5, .v (iV ((k : Int) + Y))), (6, .v (iV ((i : Int) + 1)))] [(2, .var [.v (iV op), .v (.sl (ns.map iV)), .v (boV ga), .v (.sl (da.map u32)), .v (boV gb), .v (.sl (db.map u32)), .v (tV nm), .v (.sl (gs.map PX.av))])] 31 true) (by omega) (by exact entA) ⟨i + 1, _, rfl, hlt, rfl, by rw [← hq]; rfl⟩
      · have d2 : decide ((k : Int) ≤ (m : Int)) = false := decide_eq_false (by omega)
        have hr : min (1 + nds gs) (m + 1) = k := by omega
        rw [hr]
        clear hle hr hk cg
        refine goJ ?_
        exact rfl
    · obtain rfl : i = gs.length := by omega
      have d1 : decide ((gs.length : Int) < ((gs.map PX.av).length : Int)) = false := decide_eq_false (by rw [List.length_map]; omega)
      rw [List.take_length] at hk
      rw [← hk]
      clear hle hk cg
      refine goJ ?_
      exact rfl
theorem few80_p {a : PX} (h : a.wk) : PC Tryz.prog 86 [a.av, iV 80] (boV (decide (nd' a ≤ 80))) := by
 have c := szc_p' _ a (Nat.le_refl _) h 80 (by decide)
 have hr : decide (((min (nd' a) (80 + 1) : Nat) : Int) ≤ 80) = decide (nd' a ≤ 80) := decide_eq_decide.2 ⟨fun h => by omega, fun h => by omega⟩
 rw [← hr]
 clear hr
 generalize ((min (nd' a) (80 + 1) : Nat) : Int) = Y at *
 obtain ⟨op, ns, ⟨⟨ga, da⟩, ⟨gb, db⟩⟩, nm, gs⟩ := a
 refine pc_body1 true Tryz.func86 rfl rfl rfl (Nat.le_of_ble_eq_true rfl) CellT.tmp ?_
 refine goJ ?_
 refine evG ggA (ss_call (InB_of rfl) rfl rfl c) ?_
 refine goJ ?_
 exact rfl
theorem plc_p' : ∀ (n : Nat) (a : PX), sizeOf a ≤ n → a.wk → PC Tryz.prog 87 [a.av] (boV (plB a)) := by
  intro n
  induction n with
  | zero => intro a hs; cases a; simp at hs
  | succ n ih =>
    rintro ⟨op, ns, c, nm, gs⟩ hs ⟨-, ⟨-, h2⟩, ⟨⟨-, h3⟩, ⟨-, h4⟩⟩, h5, h6, h7⟩
    have cg : ∀ x, x ∈ gs → PC Tryz.prog 87 [x.av] (boV (plB x)) := fun x hx => ih x (by have := List.sizeOf_lt_of_mem hx; simp at hs; omega) ((PX.wks_iff gs).1 h6 x hx)
    clear ih hs h6
    have hpl := plB.eq_1 op ns c nm gs
    rw [plBs_all] at hpl
    rw [px_av]
    obtain ⟨⟨ga, da⟩, ⟨gb, db⟩⟩ := c
    have hpl : plB (PX.mk op ns ⟨⟨ga, da⟩, ⟨gb, db⟩⟩ nm gs) = ((decide (ns.length ≤ 80) && (decide (da.length ≤ 8) && (decide (db.length ≤ 8) && decide (nm.size ≤ 100)))) && gs.all plB) := hpl
    refine pc_body1 true Tryz.func87 rfl rfl rfl (Nat.le_of_ble_eq_true rfl) CellT.tmp ?_
    by_cases q0 : 80 < ns.length
    · have t0 : decide ((((ns.map iV).length : Nat) : Int) > 80) = true := decide_eq_true (by rw [List.length_map]; omega)
      rw [hpl, show decide (ns.length ≤ 80) = false from decide_eq_false (by omega)]
      simp only [Bool.false_and, Bool.and_false]
      refine goJ ?_
      exact rfl
    have t0 : decide ((((ns.map iV).length : Nat) : Int) > 80) = false := decide_eq_false (by rw [List.length_map]; omega)
    by_cases q1 : 8 < da.length
    · have t1 : decide ((((da.map u32).length : Nat) : Int) > 8) = true := decide_eq_true (by rw [List.length_map]; omega)
      rw [hpl, show decide (da.length ≤ 8) = false from decide_eq_false (by omega)]
      simp only [Bool.false_and, Bool.and_false]
      refine goJ ?_
      exact rfl
    have t1 : decide ((((da.map u32).length : Nat) : Int) > 8) = false := decide_eq_false (by rw [List.length_map]; omega)
    by_cases q2 : 8 < db.length
    · have t2 : decide ((((db.map u32).length : Nat) : Int) > 8) = true := decide_eq_true (by rw [List.length_map]; omega)
      rw [hpl, show decide (db.length ≤ 8) = false from decide_eq_false (by omega)]
      simp only [Bool.false_and, Bool.and_false]
      refine goJ ?_
      exact rfl
    have t2 : decide ((((db.map u32).length : Nat) : Int) > 8) = false := decide_eq_false (by rw [List.length_map]; omega)
    by_cases q3 : 100 < nm.size
    · have t3 : decide (((nm.size : Nat) : Int) > 100) = true := decide_eq_true (by omega)
      rw [hpl, show decide (nm.size ≤ 100) = false from decide_eq_false (by omega)]
      simp only [Bool.false_and, Bool.and_false]
      refine goJ ?_
      refine evG ggA (ss_len_str (InB_of rfl) rfl und_str' rfl) ?_
      refine goJ ?_
      exact rfl
    have t3 : decide (((nm.size : Nat) : Int) > 100) = false := decide_eq_false (by omega)
    rw [hpl, show decide (ns.length ≤ 80) = true from decide_eq_true (by omega), show decide (da.length ≤ 8) = true from decide_eq_true (by omega), show decide (db.length ≤ 8) = true from decide_eq_true (by omega), show decide (nm.size ≤ 100) = true from decide_eq_true (by omega)]
    simp only [Bool.true_and]
    clear hpl
    refine goJ ?_
    refine evG ggA (ss_len_str (InB_of rfl) rfl und_str' rfl) ?_
    refine goJ ?_
    refine T.loop (fun N s1 => ∃ i : Nat, N = gs.length - i ∧ i ≤ gs.length ∧ ((gs.take i).all fun x => plB x) = true ∧ s1 = mkS [(1, .ptr 1 0), (3, .v (iV i))] [(1, .var [.v (iV op), .v (.sl (ns.map iV)), .v (boV ga), .v (.sl (da.map u32)), .v (boV gb), .v (.sl (db.map u32)), .v (tV nm), .v (.sl (gs.map PX.av))])] 44 true) gs.length
      (s' := mkS [(1, .ptr 1 0), (3, .v (iV ((0 : Nat) : Int)))] [(1, .var [.v (iV op), .v (.sl (ns.map iV)), .v (boV ga), .v (.sl (da.map u32)), .v (boV gb), .v (.sl (db.map u32)), .v (tV nm), .v (.sl (gs.map PX.av))])] 44 true) (by exact entA) ⟨0, rfl, Nat.zero_le _, rfl, rfl⟩ ?_
    rintro _ _ ⟨i, rfl, hii, hoki, rfl⟩
    by_cases hlti : i < gs.length
    rotate_left
    · obtain rfl : i = gs.length := by omega
      have d1 : decide ((gs.length : Int) < ((gs.map PX.av).length : Int)) = false := decide_eq_false (by rw [List.length_map]; omega)
      rw [List.take_length] at hoki
      rw [hoki]
      refine goJ ?_
      exact rfl
    · have d1 : decide ((i : Int) < ((gs.map PX.av).length : Int)) = true := decide_eq_true (by rw [List.length_map]; omega)
      have hg : gs[i]? = some gs[i] := List.getElem?_eq_getElem hlti
      have hm := List.getElem_mem hlti
      have hx : (gs.map PX.av)[((i : Nat) : Int).toNat]? = some (PX.av gs[i]) := by rw [Int.toNat_natCast, List.getElem?_map, hg]; rfl
      have c := cg _ hm
      clear cg
      cases hf : (fun x => plB x) gs[i] with
      | false =>
        have hall : (gs.all fun x => plB x) = false := all_get hg hf
        clear hg hm
        generalize gs[i] = x at *
        have hf : plB x = false := hf
        rw [hf] at c
        clear hf
        obtain ⟨op', ns', ⟨⟨ga', da'⟩, ⟨gb', db'⟩⟩, nm', gs'⟩ := x
        rw [hall]
        refine goJ ?_
        refine evG ggA (ss_index_sl (InB_of rfl) (elem_tab rfl) rfl rfl (by omega) hx rfl) ?_
        refine goJ ?_
        refine evG ggA (ss_call (InB_of rfl) rfl rfl c) ?_
        refine goJ ?_
        exact rfl
      | true =>
        have hok2 : ((gs.take (i + 1)).all fun x => plB x) = true := all_take hg hoki hf
        clear hg hm
        generalize gs[i] = x at *
        have hf : plB x = true := hf
        rw [hf] at c
        clear hf
        obtain ⟨op', ns', ⟨⟨ga', da'⟩, ⟨gb', db'⟩⟩, nm', gs'⟩ := x
        refine goJ ?_
        refine evG ggA (ss_index_sl (InB_of rfl) (elem_tab rfl) rfl rfl (by omega) hx rfl) ?_
        refine goJ ?_
        refine evG ggA (ss_call (InB_of rfl) rfl rfl c) ?_
        refine goJ ?_
        exact loopQ_intro (k := gs.length - (i + 1)) (s' := mkS [(1, .ptr 1 0), (3, .v (iV ((i : Int) + 1)))] [(1, .var [.v (iV op), .v (.sl (ns.map iV)), .v (boV ga), .v (.sl (da.map u32)), .v (boV gb), .v (.sl (db.map u32)), .v (tV nm), .v (.sl (gs.map PX.av))])] 44 true) (by omega) (by exact entA) ⟨i + 1, rfl, hlti, hok2, rfl⟩
theorem plc_p {a : PX} (h : a.wk) : PC Tryz.prog 87 [a.av] (boV (plB a)) := plc_p' _ a (Nat.le_refl _) h
theorem btc_p' : ∀ (n : Nat) (a : PX), sizeOf a ≤ n → a.wk → plB a = true → ∀ t : Int, 0 ≤ t → t ≤ 100000 → PC Tryz.prog 88 [a.av, iV t] (iV (bt a t)) := by
  intro n
  induction n with
  | zero => intro a hs; cases a; simp at hs
  | succ n ih =>
    rintro ⟨op, ns, c, nm, gs⟩ hs ⟨-, ⟨h1, h2⟩, -, -, h6, h7⟩ hp t ht0 ht1
    rw [plB, Bool.and_eq_true, Bool.and_eq_true, Bool.and_eq_true, Bool.and_eq_true] at hp
    obtain ⟨⟨-, q2, q3, -⟩, q5⟩ := hp
    have q2 := of_decide_eq_true q2
    have q3 := of_decide_eq_true q3
    have hps := q5
    rw [plBs_all, List.all_eq_true] at q5
    have cg : ∀ x, x ∈ gs → ∀ t : Int, 0 ≤ t → t ≤ 100000 → PC Tryz.prog 88 [x.av, iV t] (iV (bt x t)) := fun x hx => ih x (by have := List.sizeOf_lt_of_mem hx; simp at hs; omega) ((PX.wks_iff gs).1 h6 x hx) (q5 x hx)
    clear ih hs h6
    rw [px_av, bt]
    obtain ⟨⟨ga, da⟩, ⟨gb, db⟩⟩ := c
    have q2 : da.length ≤ 8 := q2
    have q3 : db.length ≤ 8 := q3
    refine pc_body1 true Tryz.func88 rfl rfl rfl (Nat.le_of_ble_eq_true rfl) CellT.tmp ?_
    refine r1A ?_
    refine r1A ?_
    obtain ⟨tt0, tt1⟩ := tm_bd (op := op) (ns := ns) ht0 ht1
    obtain ⟨n0, hn0, hb0, hb1⟩ : ∃ n0 : Int, n0 = (if op = 1 then (32 * ((da.length : Int) + db.length) * t).tdiv 4 else 0) ∧ 0 ≤ n0 ∧ n0 ≤ 12800000 := by
      refine ⟨_, rfl, ?_⟩
      split
      · have e1 : 0 ≤ 32 * ((da.length : Int) + db.length) * t := Int.mul_nonneg (by omega) ht0
        have e2 : 32 * ((da.length : Int) + db.length) * t ≤ 512 * 100000 := Int.mul_le_mul (by omega) ht1 ht0 (by omega)
        rw [Int.tdiv_eq_ediv_of_nonneg e1]
        omega
      · omega
    show T _ _ _ _ (fun x s => _)
    have hgoal : bts gs (tm op ns t) (if op = 1 then (32 * ((da.length : Int) + db.length) * t).tdiv 4 else 0) = bts gs (tm op ns t) n0 := by rw [← hn0]
    rw [hgoal]
    clear hgoal
    refine T.seqI (fun s1 => s1 = mkS [(1, .v (iV t)), (2, .ptr 2 0), (5, .v (iV n0))] [(2, .var [.v (iV op), .v (.sl (ns.map iV)), .v (boV ga), .v (.sl (da.map u32)), .v (boV gb), .v (.sl (db.map u32)), .v (tV nm), .v (.sl (gs.map PX.av))])] 68 true) ?_ ?_
    · by_cases ho : op = 1
      · have d1 : (op == 1) = true := by rw [ho]; rfl
        rw [if_pos ho] at hn0
        have el : ((da.map u32).length : Int) + ((db.map u32).length : Int) = (da.length : Int) + db.length := by rw [List.length_map, List.length_map]
        have e1 : 0 ≤ 32 * ((da.length : Int) + db.length) * t := Int.mul_nonneg (by omega) ht0
        have e2 : 32 * ((da.length : Int) + db.length) * t ≤ 512 * 100000 := Int.mul_le_mul (by omega) ht1 ht0 (by omega)
        have la : (da.map u32).length = da.length := List.length_map ..
        have lb : (db.map u32).length = db.length := List.length_map ..
        have w1 : IntKind.i64.wrap (((da.map u32).length : Int) + ((db.map u32).length : Int)) = (da.length : Int) + db.length := by rw [el]; exact w64 (by omega) (by omega)
        have w2 : IntKind.i64.wrap (32 * ((da.length : Int) + db.length)) = 32 * ((da.length : Int) + db.length) := w64 (by omega) (by omega)
        have w3 : IntKind.i64.wrap (32 * ((da.length : Int) + db.length) * t) = 32 * ((da.length : Int) + db.length) * t := w64 (by omega) (by omega)
        have w4 : IntKind.i64.wrap ((32 * ((da.length : Int) + db.length) * t).tdiv 4) = n0 := by rw [← hn0]; exact w64 (by omega) (by omega)
        refine goJ ?_
        refine evG ggA (ss_arith (InB_of rfl) rfl rfl w1) ?_
        refine evG ggA (ss_arith (InB_of rfl) rfl rfl w2) ?_
        refine stpA ?_
        refine evG ggA (ss_arith (InB_of rfl) rfl rfl w3) ?_
        refine evG ggA (ss_div (InB_of rfl) rfl rfl (by decide) w4) ?_
        refine goJ ?_
        exact midQ_intro (by exact entA) rfl
      · have d1 : (op == 1) = false := by simp [ho]
        rw [if_neg ho] at hn0
        subst hn0
        refine goJ ?_
        exact midQ_intro (by exact entA) rfl
    rintro _ rfl
    clear hn0
    refine T.seqI (fun s1 => s1 = mkS [(1, .v (iV (tm op ns t))), (2, .ptr 2 0), (5, .v (iV n0))] [(2, .var [.v (iV op), .v (.sl (ns.map iV)), .v (boV ga), .v (.sl (da.map u32)), .v (boV gb), .v (.sl (db.map u32)), .v (tV nm), .v (.sl (gs.map PX.av))])] 68 true) ?_ ?_
    · by_cases ho : op = 12
      · have d1 : (op == 12) = true := by rw [ho]; rfl
        unfold tm at tt0 tt1 ⊢
        rw [if_pos ho] at tt0 tt1 ⊢
        cases ns with
        | nil =>
          have d2 : decide ((([].map iV : List AV).length : Int) > 0) = false := rfl
          refine goJ ?_
          exact midQ_intro (by exact entA) rfl
        | cons k ns =>
          have hk := h1 k (List.mem_cons_self ..)
          have d2 : decide ((((k :: ns).map iV).length : Int) > 0) = true := decide_eq_true (by rw [List.length_map, List.length_cons]; omega)
          have hx : ((k :: ns).map iV)[(0 : Int).toNat]? = some (iV k) := rfl
          show T _ _ _ _ _
          obtain ⟨hk0, hk1⟩ := hk
          have hM0 : 0 ≤ max (max 1 (min k 1000)) (min (-(max k (-1000))) 1000) := by omega
          have hM1 : max (max 1 (min k 1000)) (min (-(max k (-1000))) 1000) ≤ 1000 := by omega
          have e1 := Int.mul_nonneg ht0 hM0
          have e2 : t * max (max 1 (min k 1000)) (min (-(max k (-1000))) 1000) ≤ 100000 * 1000 := Int.mul_le_mul ht1 hM1 hM0 (by omega)
          have w1 : IntKind.i64.wrap (0 - max k (-1000)) = -(max k (-1000)) := by rw [w64 (by omega) (by omega)]; omega
          have w2 : IntKind.i64.wrap (t * max (max 1 (min k 1000)) (min (-(max k (-1000))) 1000)) = t * max (max 1 (min k 1000)) (min (-(max k (-1000))) 1000) := w64 (by omega) (by omega)
          generalize (k :: ns).map iV = X at *
          refine goJ ?_
          refine T.drawF mixed ?_
          refine goJ ?_
          refine evG ggA (ss_index_sl (InB_of rfl) (elem_tab rfl) rfl rfl (by decide) hx rfl) ?_
          refine goJ ?_
          refine evG ggA (ss_index_sl (InB_of rfl) (elem_tab rfl) rfl rfl (by decide) hx rfl) ?_
          refine stpA ?_
          refine stpA ?_
          refine evG ggA (ss_neg (InB_of rfl) rfl w1) ?_
          refine stpA ?_
          refine evG ggA (ss_max3 (InB_of rfl) rfl rfl rfl) ?_
          refine evG ggA (ss_arith (InB_of rfl) rfl rfl w2) ?_
          refine goJ ?_
          refine ⟨by kernel_rfl, ?_⟩
          refine goJ ?_
          exact midQ_intro (by exact entA) rfl
      · have d1 : (op == 12) = false := by simp [ho]
        unfold tm
        rw [if_neg ho]
        refine goJ ?_
        exact midQ_intro (by exact entA) rfl
    rintro _ rfl
    clear ht0 ht1
    generalize tm op ns t = t2 at *
    refine goJ ?_
    refine T.loop (fun N s1 => ∃ (i : Nat) (k : Int), N = gs.length - i ∧ i ≤ gs.length ∧ k = bts (gs.take i) t2 n0 ∧ 0 ≤ k ∧ k ≤ 12800000 ∧ s1 = mkS [(1, .v (iV t2)), (2, .ptr 2 0), (5, .v (iV k)), (6, .v (iV i))] [(2, .var [.v (iV op), .v (.sl (ns.map iV)), .v (boV ga), .v (.sl (da.map u32)), .v (boV gb), .v (.sl (db.map u32)), .v (tV nm), .v (.sl (gs.map PX.av))])] 68 true) gs.length
      (s' := mkS [(1, .v (iV t2)), (2, .ptr 2 0), (5, .v (iV n0)), (6, .v (iV ((0 : Nat) : Int)))] [(2, .var [.v (iV op), .v (.sl (ns.map iV)), .v (boV ga), .v (.sl (da.map u32)), .v (boV gb), .v (.sl (db.map u32)), .v (tV nm), .v (.sl (gs.map PX.av))])] 68 true) (by exact entA) ⟨0, n0, rfl, Nat.zero_le _, rfl, hb0, hb1, rfl⟩ ?_
    rintro _ _ ⟨i, k, rfl, hi, hk, hk0, hk1, rfl⟩
    by_cases hlt : i < gs.length
    · have d1 : decide ((i : Int) < ((gs.map PX.av).length : Int)) = true := decide_eq_true (by rw [List.length_map]; omega)
      have hg : gs[i]? = some gs[i] := List.getElem?_eq_getElem hlt
      have hx : (gs.map PX.av)[((i : Nat) : Int).toNat]? = some (PX.av gs[i]) := by rw [Int.toNat_natCast, List.getElem?_map, hg]; rfl
      have c := cg _ (List.getElem_mem hlt) t2 tt0 tt1
      obtain ⟨y0, y1⟩ := bt_bd _ t2 (q5 _ (List.getElem_mem hlt)) tt0 tt1
      have hs := bts_take hg t2 n0
      rw [← hk] at hs
      clear hg cg q5
      generalize gs[i] = x at *
      generalize bt x t2 = Y at *
      obtain ⟨op', ns', ⟨⟨ga', da'⟩, ⟨gb', db'⟩⟩, nm', gs'⟩ := x
      refine goJ ?_
      refine evG ggA (ss_index_sl (InB_of rfl) (elem_tab rfl) rfl rfl (by omega) hx rfl) ?_
      refine goJ ?_
      refine evG ggA (ss_call (InB_of rfl) rfl rfl c) ?_
      refine goJ ?_
      exact loopQ_intro (k := gs.length - (i + 1)) (s' := mkS [(1, .v (iV t2)), (2, .ptr 2 0), (5, .v (iV (min (k + Y) 100000))), (6, .v (iV ((i : Int) + 1)))] [(2, .var [.v (iV op), .v (.sl (ns.map iV)), .v (boV ga), .v (.sl (da.map u32)), .v (boV gb), .v (.sl (db.map u32)), .v (tV nm), .v (.sl (gs.map PX.av))])] 68 true) (by omega) (by exact entA) ⟨i + 1, _, rfl, hlt, hs.symm, by omega, by omega, rfl⟩
    · obtain rfl : i = gs.length := by omega
      have d1 : decide ((gs.length : Int) < ((gs.map PX.av).length : Int)) = false := decide_eq_false (by rw [List.length_map]; omega)
      rw [List.take_length] at hk
      rw [← hk]
      clear cg
      refine goJ ?_
      exact rfl
theorem light_p {a : PX} (h : a.wk) : PC Tryz.prog 22 [a.av] (boV (lgB a)) := by
 have c1 := few80_p h
 have c2 := plc_p h
 have c3 : plB a = true → PC Tryz.prog 88 [a.av, iV 1] (iV (bt a 1)) := fun hp => btc_p' _ a (Nat.le_refl _) h hp 1 (by decide) (by decide)
 unfold lgB
 generalize decide (nd' a ≤ 80) = b1 at *
 generalize plB a = b2 at *
 generalize bt a 1 = Y at *
 obtain ⟨op, ns, ⟨⟨ga, da⟩, ⟨gb, db⟩⟩, nm, gs⟩ := a
 refine pc_body1 true Tryz.func22 rfl rfl rfl (Nat.le_of_ble_eq_true rfl) CellT.tmp ?_
 cases b1
 ·refine goJ ?_
  refine evG ggA (ss_call (InB_of rfl) rfl rfl c1) ?_
  refine goJ ?_
  exact rfl
 ·cases b2
  ·refine goJ ?_
   refine evG ggA (ss_call (InB_of rfl) rfl rfl c1) ?_
   refine goJ ?_
   refine evG ggA (ss_call (InB_of rfl) rfl rfl c2) ?_
   refine goJ ?_
   exact rfl
  ·have c3 := c3 rfl
   refine goJ ?_
   refine evG ggA (ss_call (InB_of rfl) rfl rfl c1) ?_
   refine goJ ?_
   refine evG ggA (ss_call (InB_of rfl) rfl rfl c2) ?_
   refine goJ ?_
   refine evG ggA (ss_call (InB_of rfl) rfl rfl c3) ?_
   refine goJ ?_
   exact rfl
end Ab
namespace Ab
open Go Go.RowKit Go.Proofs Hp
set_option maxRecDepth 100000
set_option maxHeartbeats 4000000
theorem short_p {l : List BR} (hw : LW BR.wk l) : PC Tryz.prog 21 [.sl (l.map BR.av)] (boV (shB l)) := by
  obtain ⟨hw, hn⟩ := hw
  refine pc_body1 true Tryz.func21 rfl rfl rfl (Nat.le_of_ble_eq_true rfl) CellT.tmp ?_
  refine goJ ?_
  refine T.loop (fun N s1 => ∃ i : Nat, N = l.length - i ∧ i ≤ l.length ∧ i ≤ 60 ∧ (l.take i).all rS = true ∧ s1 = mkS [(0, .v (.sl (l.map BR.av))), (3, .v (iV i))] [] 32 true) l.length
    (s' := mkS [(0, .v (.sl (l.map BR.av))), (3, .v (iV ((0 : Nat) : Int)))] [] 32 true) (by exact entA) ⟨0, rfl, Nat.zero_le _, Nat.zero_le _, rfl, rfl⟩ ?_
  rintro _ _ ⟨i, rfl, hi, h60, hok, rfl⟩
  by_cases hlt : i < l.length
  · have d1 : decide ((i : Int) < ((l.map BR.av).length : Int)) = true := decide_eq_true (by rw [List.length_map]; omega)
    by_cases h6 : i = 60
    · have d2 : decide ((i : Int) ≥ 60) = true := decide_eq_true (by omega)
      have hr : shB l = false := by unfold shB; rw [decide_eq_false (by omega)]; rfl
      rw [hr]
      refine goJ ?_
      exact rfl
    · have d2 : decide ((i : Int) ≥ 60) = false := decide_eq_false (by omega)
      have hg : l[i]? = some l[i] := List.getElem?_eq_getElem hlt
      have hm := List.getElem_mem hlt
      have hx : (l.map BR.av)[((i : Nat) : Int).toNat]? = some (BR.av l[i]) := by rw [Int.toNat_natCast, List.getElem?_map, hg]; rfl
      obtain ⟨⟨-, w1⟩, -, w2⟩ := hw _ hm
      cases hf : rS l[i] with
      | false =>
        have hall : l.all rS = false := all_get hg hf
        have hr : shB l = false := by unfold shB; rw [hall, Bool.and_false]
        rw [hr]
        clear hg hm hall
        generalize l[i] = x at *
        obtain ⟨⟨ga, da⟩, ⟨gb, db⟩⟩ := x
        by_cases h1 : 40 < da.length
        · have t1 : decide (((da.map u32).length : Int) > 40) = true := decide_eq_true (by rw [List.length_map]; omega)
          refine goJ ?_
          refine evG ggA (ss_index_sl (InB_of rfl) (elem_tab rfl) rfl rfl (by omega) hx rfl) ?_
          refine goJ ?_
          exact rfl
        · have t1 : decide (((da.map u32).length : Int) > 40) = false := decide_eq_false (by rw [List.length_map]; omega)
          have h2 : 40 < db.length := by
            unfold rS at hf
            rw [show decide (40 < (⟨⟨ga, da⟩, ⟨gb, db⟩⟩ : BR).n.ds.length) = false from decide_eq_false h1] at hf
            simpa using hf
          have t2 : decide (((db.map u32).length : Int) > 40) = true := decide_eq_true (by rw [List.length_map]; omega)
          refine goJ ?_
          refine evG ggA (ss_index_sl (InB_of rfl) (elem_tab rfl) rfl rfl (by omega) hx rfl) ?_
          refine goJ ?_
          refine evG ggA (ss_index_sl (InB_of rfl) (elem_tab rfl) rfl rfl (by omega) hx rfl) ?_
          refine goJ ?_
          exact rfl
      | true =>
        have hok2 : (l.take (i + 1)).all rS = true := all_take hg hok hf
        clear hg hm
        generalize l[i] = x at *
        obtain ⟨⟨ga, da⟩, ⟨gb, db⟩⟩ := x
        unfold rS at hf
        rw [Bool.and_eq_true, Bool.not_eq_true', Bool.not_eq_true'] at hf
        have h1 : ¬ 40 < da.length := of_decide_eq_false hf.1
        have h2 : ¬ 40 < db.length := of_decide_eq_false hf.2
        have t1 : decide (((da.map u32).length : Int) > 40) = false := decide_eq_false (by rw [List.length_map]; omega)
        have t2 : decide (((db.map u32).length : Int) > 40) = false := decide_eq_false (by rw [List.length_map]; omega)
        refine goJ ?_
        refine evG ggA (ss_index_sl (InB_of rfl) (elem_tab rfl) rfl rfl (by omega) hx rfl) ?_
        refine goJ ?_
        refine evG ggA (ss_index_sl (InB_of rfl) (elem_tab rfl) rfl rfl (by omega) hx rfl) ?_
        refine goJ ?_
        exact loopQ_intro (k := l.length - (i + 1)) (s' := mkS [(0, .v (.sl (l.map BR.av))), (3, .v (iV ((i : Int) + 1)))] [] 32 true) (by omega) (by exact entA) ⟨i + 1, rfl, hlt, by omega, hok2, rfl⟩
  · obtain rfl : i = l.length := by omega
    have d1 : decide ((l.length : Int) < ((l.map BR.av).length : Int)) = false := decide_eq_false (by rw [List.length_map]; omega)
    rw [List.take_length] at hok
    have hr : shB l = true := by unfold shB; rw [hok, decide_eq_true (by omega)]; rfl
    rw [hr]
    refine goJ ?_
    exact rfl
theorem lightL_p {l : List PB} (hw : LW PB.wk l) : PC Tryz.prog 23 [.sl (l.map PB.av)] (boV (ldB l)) := by
  obtain ⟨hw, hn⟩ := hw
  refine pc_body1 true Tryz.func23 rfl rfl rfl (Nat.le_of_ble_eq_true rfl) CellT.tmp ?_
  refine goJ ?_
  refine T.loop (fun N s1 => ∃ i : Nat, N = l.length - i ∧ i ≤ l.length ∧ ((l.take i).all fun x => (lgB x.e && !decide (200 < x.nm.size))) = true ∧ s1 = mkS [(0, .v (.sl (l.map PB.av))), (3, .v (iV i))] [] 29 true) l.length
    (s' := mkS [(0, .v (.sl (l.map PB.av))), (3, .v (iV ((0 : Nat) : Int)))] [] 29 true) (by exact entA) ⟨0, rfl, Nat.zero_le _, rfl, rfl⟩ ?_
  rintro _ _ ⟨i, rfl, hii, hoki, rfl⟩
  by_cases hlti : i < l.length
  rotate_left
  · obtain rfl : i = l.length := by omega
    have d1 : decide ((l.length : Int) < ((l.map PB.av).length : Int)) = false := decide_eq_false (by rw [List.length_map]; omega)
    rw [List.take_length] at hoki
    have hr : ldB l = decide (((l.map PB.av).length : Int) ≤ 6) := by
      unfold ldB
      rw [hoki, Bool.true_and]
      exact decide_eq_decide.2 ⟨fun h => by rw [List.length_map]; omega, fun h => by rw [List.length_map] at h; omega⟩
    rw [hr]
    refine goJ ?_
    exact rfl
  · have d1 : decide ((i : Int) < ((l.map PB.av).length : Int)) = true := decide_eq_true (by rw [List.length_map]; omega)
    have hg : l[i]? = some l[i] := List.getElem?_eq_getElem hlti
    have hm := List.getElem_mem hlti
    have hx : (l.map PB.av)[((i : Nat) : Int).toNat]? = some (PB.av l[i]) := by rw [Int.toNat_natCast, List.getElem?_map, hg]; rfl
    have c := light_p (hw _ hm).2
    cases hf : (fun x => (lgB x.e && !decide (200 < x.nm.size))) l[i] with
    | false =>
      have hall : (l.all fun x => (lgB x.e && !decide (200 < x.nm.size))) = false := all_get hg hf
      clear hg hm
      generalize l[i] = x at *
      have hr : ldB l = false := by unfold ldB; rw [hall]; rfl
      rw [hr]
      clear hr hall
      have hf : (lgB x.e && !decide (200 < x.nm.size)) = false := hf
      cases h1 : lgB x.e with
      | false =>
        rw [h1] at c
        clear hf h1
        obtain ⟨nb, ⟨op', ns', ⟨⟨ga', da'⟩, ⟨gb', db'⟩⟩, nm', gs'⟩⟩ := x
        refine goJ ?_
        refine evG ggA (ss_index_sl (InB_of rfl) (elem_tab rfl) rfl rfl (by omega) hx rfl) ?_
        refine goJ ?_
        refine evG ggA (ss_call (InB_of rfl) rfl rfl c) ?_
        refine goJ ?_
        exact rfl
      | true =>
        rw [h1] at c
        rw [h1, Bool.true_and] at hf
        have hf2 : 200 < x.nm.size := by simpa using hf
        clear hf h1
        obtain ⟨nb, ⟨op', ns', ⟨⟨ga', da'⟩, ⟨gb', db'⟩⟩, nm', gs'⟩⟩ := x
        have hf2 : 200 < nb.size := hf2
        have t2 : decide (((nb.size : Nat) : Int) > 200) = true := decide_eq_true (by omega)
        refine goJ ?_
        refine evG ggA (ss_index_sl (InB_of rfl) (elem_tab rfl) rfl rfl (by omega) hx rfl) ?_
        refine goJ ?_
        refine evG ggA (ss_call (InB_of rfl) rfl rfl c) ?_
        refine goJ ?_
        refine evG ggA (ss_index_sl (InB_of rfl) (elem_tab rfl) rfl rfl (by omega) hx rfl) ?_
        refine goJ ?_
        refine evG ggA (ss_len_str (InB_of rfl) rfl und_str' rfl) ?_
        refine goJ ?_
        exact rfl
    | true =>
      have hok2 : ((l.take (i + 1)).all fun x => (lgB x.e && !decide (200 < x.nm.size))) = true := all_take hg hoki hf
      clear hg hm
      generalize l[i] = x at *
      have hf : (lgB x.e && !decide (200 < x.nm.size)) = true := hf
      rw [Bool.and_eq_true, Bool.not_eq_true'] at hf
      obtain ⟨hf1, hf2⟩ := hf
      rw [hf1] at c
      have hf2 := of_decide_eq_false hf2
      clear hf1
      obtain ⟨nb, ⟨op', ns', ⟨⟨ga', da'⟩, ⟨gb', db'⟩⟩, nm', gs'⟩⟩ := x
      have hf2 : ¬ 200 < nb.size := hf2
      have t2 : decide (((nb.size : Nat) : Int) > 200) = false := decide_eq_false (by omega)
      refine goJ ?_
      refine evG ggA (ss_index_sl (InB_of rfl) (elem_tab rfl) rfl rfl (by omega) hx rfl) ?_
      refine goJ ?_
      refine evG ggA (ss_call (InB_of rfl) rfl rfl c) ?_
      refine goJ ?_
      refine evG ggA (ss_index_sl (InB_of rfl) (elem_tab rfl) rfl rfl (by omega) hx rfl) ?_
      refine goJ ?_
      refine evG ggA (ss_len_str (InB_of rfl) rfl und_str' rfl) ?_
      refine goJ ?_
      exact loopQ_intro (k := l.length - (i + 1)) (s' := mkS [(0, .v (.sl (l.map PB.av))), (3, .v (iV ((i : Int) + 1)))] [] 29 true) (by omega) (by exact entA) ⟨i + 1, rfl, hlti, hok2, rfl⟩
theorem small_pk {p : PP} (h : p.wk) : PC Tryz.prog 10 [p.av] (boV (smB p)) := by
  obtain ⟨sr, et, df, ce, sp, ma⟩ := p
  obtain ⟨⟨w0, n0⟩, ⟨w1, n1⟩, w2, ⟨w3, n3⟩, ⟨w4, n4⟩, w5, n5⟩ := h
  have w0 : ∀ s, s ∈ sr → s.wk := w0
  have n0 : sr.length ≤ 9223372036854775807 := n0
  have w1 : ∀ s, s ∈ et → s.wk := w1
  have n1 : et.length ≤ 9223372036854775807 := n1
  have w3 : ∀ s, s ∈ ce → s.wk := w3
  have n3 : ce.length ≤ 9223372036854775807 := n3
  have w4 : ∀ s, s ∈ sp → s.wk := w4
  have n4 : sp.length ≤ 9223372036854775807 := n4
  have w5 : ∀ s, s ∈ ma → s.wk := w5
  have n5 : ma.length ≤ 9223372036854775807 := n5
  have w2 : LW PB.wk df := w2
  have hsm : smB ⟨sr, et, df, ce, sp, ma⟩ = (hdB ⟨sr, et, df, ce, sp, ma⟩ && ((sr.all fun x => shB x.c) && ((et.all fun x => (!decide (60 < x.e.length))) && ((sp.all fun x => (!decide (6 < x.b.length) && x.b.all fun s => shB s.c)) && ((ma.all fun x => shB x.a) && ((ce.all fun x => (lgB x.a && (lgB x.b && (shB x.c.c && ldB x.ds)))) && ldB df)))))) := rfl
  have hhd : hdB ⟨sr, et, df, ce, sp, ma⟩ = (decide (sr.length ≤ 6) && (decide (et.length ≤ 6) && (decide (df.length ≤ 6) && (decide (ce.length ≤ 3) && (decide (sp.length ≤ 3) && decide (ma.length ≤ 3)))))) := rfl
  refine pc_body1 true Tryz.func10 rfl rfl rfl (Nat.le_of_ble_eq_true rfl) CellT.tmp ?_
  by_cases q0 : 6 < sr.length
  · have v0 : decide (((sr.map PS.av).length : Int) > 6) = true := decide_eq_true (by rw [List.length_map]; omega)
    have hr : smB ⟨sr, et, df, ce, sp, ma⟩ = false := by rw [hsm, hhd, show decide (sr.length ≤ 6) = false from decide_eq_false (by omega)]; simp only [Bool.false_and, Bool.and_false]
    rw [hr]
    refine goJ ?_
    exact rfl
  have v0 : decide (((sr.map PS.av).length : Int) > 6) = false := decide_eq_false (by rw [List.length_map]; omega)
  by_cases q1 : 6 < et.length
  · have v1 : decide (((et.map PE.av).length : Int) > 6) = true := decide_eq_true (by rw [List.length_map]; omega)
    have hr : smB ⟨sr, et, df, ce, sp, ma⟩ = false := by rw [hsm, hhd, show decide (et.length ≤ 6) = false from decide_eq_false (by omega)]; simp only [Bool.false_and, Bool.and_false]
    rw [hr]
    refine goJ ?_
    exact rfl
  have v1 : decide (((et.map PE.av).length : Int) > 6) = false := decide_eq_false (by rw [List.length_map]; omega)
  by_cases q2 : 6 < df.length
  · have v2 : decide (((df.map PB.av).length : Int) > 6) = true := decide_eq_true (by rw [List.length_map]; omega)
    have hr : smB ⟨sr, et, df, ce, sp, ma⟩ = false := by rw [hsm, hhd, show decide (df.length ≤ 6) = false from decide_eq_false (by omega)]; simp only [Bool.false_and, Bool.and_false]
    rw [hr]
    refine goJ ?_
    exact rfl
  have v2 : decide (((df.map PB.av).length : Int) > 6) = false := decide_eq_false (by rw [List.length_map]; omega)
  by_cases q3 : 3 < ce.length
  · have v3 : decide (((ce.map PZ.av).length : Int) > 3) = true := decide_eq_true (by rw [List.length_map]; omega)
    have hr : smB ⟨sr, et, df, ce, sp, ma⟩ = false := by rw [hsm, hhd, show decide (ce.length ≤ 3) = false from decide_eq_false (by omega)]; simp only [Bool.false_and, Bool.and_false]
    rw [hr]
    refine goJ ?_
    exact rfl
  have v3 : decide (((ce.map PZ.av).length : Int) > 3) = false := decide_eq_false (by rw [List.length_map]; omega)
  by_cases q4 : 3 < sp.length
  · have v4 : decide (((sp.map PF.av).length : Int) > 3) = true := decide_eq_true (by rw [List.length_map]; omega)
    have hr : smB ⟨sr, et, df, ce, sp, ma⟩ = false := by rw [hsm, hhd, show decide (sp.length ≤ 3) = false from decide_eq_false (by omega)]; simp only [Bool.false_and, Bool.and_false]
    rw [hr]
    refine goJ ?_
    exact rfl
  have v4 : decide (((sp.map PF.av).length : Int) > 3) = false := decide_eq_false (by rw [List.length_map]; omega)
  by_cases q5 : 3 < ma.length
  · have v5 : decide (((ma.map PM.av).length : Int) > 3) = true := decide_eq_true (by rw [List.length_map]; omega)
    have hr : smB ⟨sr, et, df, ce, sp, ma⟩ = false := by rw [hsm, hhd, show decide (ma.length ≤ 3) = false from decide_eq_false (by omega)]; simp only [Bool.false_and, Bool.and_false]
    rw [hr]
    refine goJ ?_
    exact rfl
  have v5 : decide (((ma.map PM.av).length : Int) > 3) = false := decide_eq_false (by rw [List.length_map]; omega)
  have hH : hdB ⟨sr, et, df, ce, sp, ma⟩ = true := by rw [hhd, show decide (sr.length ≤ 6) = true from decide_eq_true (by omega), show decide (et.length ≤ 6) = true from decide_eq_true (by omega), show decide (df.length ≤ 6) = true from decide_eq_true (by omega), show decide (ce.length ≤ 3) = true from decide_eq_true (by omega), show decide (sp.length ≤ 3) = true from decide_eq_true (by omega), show decide (ma.length ≤ 3) = true from decide_eq_true (by omega)]; rfl
  clear hhd
  refine goJ ?_
  refine T.loop (fun N s1 => ∃ i : Nat, N = sr.length - i ∧ i ≤ sr.length ∧ ((sr.take i).all fun x => shB x.c) = true ∧ s1 = mkS [(1, .ptr 1 0), (3, .v (iV i))] [(1, .var [.v (.sl (sr.map PS.av)), .v (.sl (et.map PE.av)), .v (.sl (df.map PB.av)), .v (.sl (ce.map PZ.av)), .v (.sl (sp.map PF.av)), .v (.sl (ma.map PM.av))])] 165 true) sr.length
    (s' := mkS [(1, .ptr 1 0), (3, .v (iV ((0 : Nat) : Int)))] [(1, .var [.v (.sl (sr.map PS.av)), .v (.sl (et.map PE.av)), .v (.sl (df.map PB.av)), .v (.sl (ce.map PZ.av)), .v (.sl (sp.map PF.av)), .v (.sl (ma.map PM.av))])] 165 true) (by exact entA) ⟨0, rfl, Nat.zero_le _, rfl, rfl⟩ ?_
  rintro _ _ ⟨i, rfl, hii, hoki, rfl⟩
  by_cases hlti : i < sr.length
  rotate_left
  · obtain rfl : i = sr.length := by omega
    have d1 : decide ((sr.length : Int) < ((sr.map PS.av).length : Int)) = false := decide_eq_false (by rw [List.length_map]; omega)
    rw [List.take_length] at hoki
    have hk0 := hoki
    refine goJ ?_
    refine T.loop (fun N s1 => ∃ i : Nat, N = et.length - i ∧ i ≤ et.length ∧ ((et.take i).all fun x => (!decide (60 < x.e.length))) = true ∧ s1 = mkS [(1, .ptr 1 0), (4, .v (iV i))] [(1, .var [.v (.sl (sr.map PS.av)), .v (.sl (et.map PE.av)), .v (.sl (df.map PB.av)), .v (.sl (ce.map PZ.av)), .v (.sl (sp.map PF.av)), .v (.sl (ma.map PM.av))])] 165 true) et.length
      (s' := mkS [(1, .ptr 1 0), (4, .v (iV ((0 : Nat) : Int)))] [(1, .var [.v (.sl (sr.map PS.av)), .v (.sl (et.map PE.av)), .v (.sl (df.map PB.av)), .v (.sl (ce.map PZ.av)), .v (.sl (sp.map PF.av)), .v (.sl (ma.map PM.av))])] 165 true) (by exact entA) ⟨0, rfl, Nat.zero_le _, rfl, rfl⟩ ?_
    rintro _ _ ⟨i, rfl, hii, hoki, rfl⟩
    by_cases hlti : i < et.length
    rotate_left
    · obtain rfl : i = et.length := by omega
      have d1 : decide ((et.length : Int) < ((et.map PE.av).length : Int)) = false := decide_eq_false (by rw [List.length_map]; omega)
      rw [List.take_length] at hoki
      have hk1 := hoki
      refine goJ ?_
      refine T.loop (fun N s1 => ∃ i : Nat, N = sp.length - i ∧ i ≤ sp.length ∧ ((sp.take i).all fun x => (!decide (6 < x.b.length) && x.b.all fun s => shB s.c)) = true ∧ s1 = mkS [(1, .ptr 1 0), (5, .v (iV i))] [(1, .var [.v (.sl (sr.map PS.av)), .v (.sl (et.map PE.av)), .v (.sl (df.map PB.av)), .v (.sl (ce.map PZ.av)), .v (.sl (sp.map PF.av)), .v (.sl (ma.map PM.av))])] 165 true) sp.length
        (s' := mkS [(1, .ptr 1 0), (5, .v (iV ((0 : Nat) : Int)))] [(1, .var [.v (.sl (sr.map PS.av)), .v (.sl (et.map PE.av)), .v (.sl (df.map PB.av)), .v (.sl (ce.map PZ.av)), .v (.sl (sp.map PF.av)), .v (.sl (ma.map PM.av))])] 165 true) (by exact entA) ⟨0, rfl, Nat.zero_le _, rfl, rfl⟩ ?_
      rintro _ _ ⟨i, rfl, hii, hoki, rfl⟩
      by_cases hlti : i < sp.length
      rotate_left
      · obtain rfl : i = sp.length := by omega
        have d1 : decide ((sp.length : Int) < ((sp.map PF.av).length : Int)) = false := decide_eq_false (by rw [List.length_map]; omega)
        rw [List.take_length] at hoki
        have hk4 := hoki
        refine goJ ?_
        refine T.loop (fun N s1 => ∃ i : Nat, N = ma.length - i ∧ i ≤ ma.length ∧ ((ma.take i).all fun x => shB x.a) = true ∧ s1 = mkS [(1, .ptr 1 0), (7, .v (iV i))] [(1, .var [.v (.sl (sr.map PS.av)), .v (.sl (et.map PE.av)), .v (.sl (df.map PB.av)), .v (.sl (ce.map PZ.av)), .v (.sl (sp.map PF.av)), .v (.sl (ma.map PM.av))])] 165 true) ma.length
          (s' := mkS [(1, .ptr 1 0), (7, .v (iV ((0 : Nat) : Int)))] [(1, .var [.v (.sl (sr.map PS.av)), .v (.sl (et.map PE.av)), .v (.sl (df.map PB.av)), .v (.sl (ce.map PZ.av)), .v (.sl (sp.map PF.av)), .v (.sl (ma.map PM.av))])] 165 true) (by exact entA) ⟨0, rfl, Nat.zero_le _, rfl, rfl⟩ ?_
        rintro _ _ ⟨i, rfl, hii, hoki, rfl⟩
        by_cases hlti : i < ma.length
        rotate_left
        · obtain rfl : i = ma.length := by omega
          have d1 : decide ((ma.length : Int) < ((ma.map PM.av).length : Int)) = false := decide_eq_false (by rw [List.length_map]; omega)
          rw [List.take_length] at hoki
          have hk5 := hoki
          refine goJ ?_
          refine T.loop (fun N s1 => ∃ i : Nat, N = ce.length - i ∧ i ≤ ce.length ∧ ((ce.take i).all fun x => (lgB x.a && (lgB x.b && (shB x.c.c && ldB x.ds)))) = true ∧ s1 = mkS [(1, .ptr 1 0), (8, .v (iV i))] [(1, .var [.v (.sl (sr.map PS.av)), .v (.sl (et.map PE.av)), .v (.sl (df.map PB.av)), .v (.sl (ce.map PZ.av)), .v (.sl (sp.map PF.av)), .v (.sl (ma.map PM.av))])] 165 true) ce.length
            (s' := mkS [(1, .ptr 1 0), (8, .v (iV ((0 : Nat) : Int)))] [(1, .var [.v (.sl (sr.map PS.av)), .v (.sl (et.map PE.av)), .v (.sl (df.map PB.av)), .v (.sl (ce.map PZ.av)), .v (.sl (sp.map PF.av)), .v (.sl (ma.map PM.av))])] 165 true) (by exact entA) ⟨0, rfl, Nat.zero_le _, rfl, rfl⟩ ?_
          rintro _ _ ⟨i, rfl, hii, hoki, rfl⟩
          by_cases hlti : i < ce.length
          rotate_left
          · obtain rfl : i = ce.length := by omega
            have d1 : decide ((ce.length : Int) < ((ce.map PZ.av).length : Int)) = false := decide_eq_false (by rw [List.length_map]; omega)
            rw [List.take_length] at hoki
            have hr : smB ⟨sr, et, df, ce, sp, ma⟩ = ldB df := by rw [hsm, hH, hk0, hk1, hk4, hk5, hoki]; rfl
            rw [hr]
            have c := lightL_p w2
            refine goJ ?_
            refine evG ggA (ss_call (InB_of rfl) rfl rfl c) ?_
            refine goJ ?_
            exact rfl
          · have d1 : decide ((i : Int) < ((ce.map PZ.av).length : Int)) = true := decide_eq_true (by rw [List.length_map]; omega)
            have hg : ce[i]? = some ce[i] := List.getElem?_eq_getElem hlti
            have hm := List.getElem_mem hlti
            have hx : (ce.map PZ.av)[((i : Nat) : Int).toNat]? = some (PZ.av ce[i]) := by rw [Int.toNat_natCast, List.getElem?_map, hg]; rfl
            have hh := w3 _ hm
            have c1 := light_p hh.1
            have c2 := light_p hh.2.1
            have c3 := short_p hh.2.2.2.2.2.2
            have c4 := lightL_p hh.2.2.1
            clear hh
            cases hf : (fun x => (lgB x.a && (lgB x.b && (shB x.c.c && ldB x.ds)))) ce[i] with
            | false =>
              have hall : (ce.all fun x => (lgB x.a && (lgB x.b && (shB x.c.c && ldB x.ds)))) = false := all_get hg hf
              clear hg hm
              generalize ce[i] = x at *
              have hr : smB ⟨sr, et, df, ce, sp, ma⟩ = false := by rw [hsm, hall]; simp only [Bool.false_and, Bool.and_false]
              rw [hr]
              clear hr hall
              have hf : (lgB x.a && (lgB x.b && (shB x.c.c && ldB x.ds))) = false := hf
              cases f1 : lgB x.a with
              | false =>
                rw [f1] at c1
                clear hf f1 c2 c3 c4
                obtain ⟨⟨op1, ns1, ⟨⟨ga1, da1⟩, ⟨gb1, db1⟩⟩, nm1, gs1⟩, ⟨op2, ns2, ⟨⟨ga2, da2⟩, ⟨gb2, db2⟩⟩, nm2, gs2⟩, ds, ⟨kw, kl, kd, kp, ku⟩, bo, ⟨f, cs⟩⟩ := x
                refine goJ ?_
                refine evG ggA (ss_index_sl (InB_of rfl) (elem_tab rfl) rfl rfl (by omega) hx rfl) ?_
                refine goJ ?_
                refine evG ggA (ss_call (InB_of rfl) rfl rfl c1) ?_
                refine goJ ?_
                exact rfl
              | true =>
                rw [f1] at c1
                rw [f1, Bool.true_and] at hf
                cases f2 : lgB x.b with
                | false =>
                  rw [f2] at c2
                  clear hf f1 f2 c3 c4
                  obtain ⟨⟨op1, ns1, ⟨⟨ga1, da1⟩, ⟨gb1, db1⟩⟩, nm1, gs1⟩, ⟨op2, ns2, ⟨⟨ga2, da2⟩, ⟨gb2, db2⟩⟩, nm2, gs2⟩, ds, ⟨kw, kl, kd, kp, ku⟩, bo, ⟨f, cs⟩⟩ := x
                  refine goJ ?_
                  refine evG ggA (ss_index_sl (InB_of rfl) (elem_tab rfl) rfl rfl (by omega) hx rfl) ?_
                  refine goJ ?_
                  refine evG ggA (ss_call (InB_of rfl) rfl rfl c1) ?_
                  refine goJ ?_
                  refine evG ggA (ss_call (InB_of rfl) rfl rfl c2) ?_
                  refine goJ ?_
                  exact rfl
                | true =>
                  rw [f2] at c2
                  rw [f2, Bool.true_and] at hf
                  cases f3 : shB x.c.c with
                  | false =>
                    rw [f3] at c3
                    clear hf f1 f2 f3 c4
                    obtain ⟨⟨op1, ns1, ⟨⟨ga1, da1⟩, ⟨gb1, db1⟩⟩, nm1, gs1⟩, ⟨op2, ns2, ⟨⟨ga2, da2⟩, ⟨gb2, db2⟩⟩, nm2, gs2⟩, ds, ⟨kw, kl, kd, kp, ku⟩, bo, ⟨f, cs⟩⟩ := x
                    refine goJ ?_
                    refine evG ggA (ss_index_sl (InB_of rfl) (elem_tab rfl) rfl rfl (by omega) hx rfl) ?_
                    refine goJ ?_
                    refine evG ggA (ss_call (InB_of rfl) rfl rfl c1) ?_
                    refine goJ ?_
                    refine evG ggA (ss_call (InB_of rfl) rfl rfl c2) ?_
                    refine goJ ?_
                    refine evG ggA (ss_call (InB_of rfl) rfl rfl c3) ?_
                    refine goJ ?_
                    exact rfl
                  | true =>
                    rw [f3] at c3
                    rw [f3, Bool.true_and] at hf
                    rw [hf] at c4
                    clear hf f1 f2 f3
                    obtain ⟨⟨op1, ns1, ⟨⟨ga1, da1⟩, ⟨gb1, db1⟩⟩, nm1, gs1⟩, ⟨op2, ns2, ⟨⟨ga2, da2⟩, ⟨gb2, db2⟩⟩, nm2, gs2⟩, ds, ⟨kw, kl, kd, kp, ku⟩, bo, ⟨f, cs⟩⟩ := x
                    refine goJ ?_
                    refine evG ggA (ss_index_sl (InB_of rfl) (elem_tab rfl) rfl rfl (by omega) hx rfl) ?_
                    refine goJ ?_
                    refine evG ggA (ss_call (InB_of rfl) rfl rfl c1) ?_
                    refine goJ ?_
                    refine evG ggA (ss_call (InB_of rfl) rfl rfl c2) ?_
                    refine goJ ?_
                    refine evG ggA (ss_call (InB_of rfl) rfl rfl c3) ?_
                    refine goJ ?_
                    refine evG ggA (ss_call (InB_of rfl) rfl rfl c4) ?_
                    refine goJ ?_
                    exact rfl
            | true =>
              have hok2 : ((ce.take (i + 1)).all fun x => (lgB x.a && (lgB x.b && (shB x.c.c && ldB x.ds)))) = true := all_take hg hoki hf
              clear hg hm
              generalize ce[i] = x at *
              have hf : (lgB x.a && (lgB x.b && (shB x.c.c && ldB x.ds))) = true := hf
              rw [Bool.and_eq_true, Bool.and_eq_true, Bool.and_eq_true] at hf
              obtain ⟨f1, f2, f3, f4⟩ := hf
              rw [f1] at c1
              rw [f2] at c2
              rw [f3] at c3
              rw [f4] at c4
              clear f1 f2 f3 f4
              obtain ⟨⟨op1, ns1, ⟨⟨ga1, da1⟩, ⟨gb1, db1⟩⟩, nm1, gs1⟩, ⟨op2, ns2, ⟨⟨ga2, da2⟩, ⟨gb2, db2⟩⟩, nm2, gs2⟩, ds, ⟨kw, kl, kd, kp, ku⟩, bo, ⟨f, cs⟩⟩ := x
              refine goJ ?_
              refine evG ggA (ss_index_sl (InB_of rfl) (elem_tab rfl) rfl rfl (by omega) hx rfl) ?_
              refine goJ ?_
              refine evG ggA (ss_call (InB_of rfl) rfl rfl c1) ?_
              refine goJ ?_
              refine evG ggA (ss_call (InB_of rfl) rfl rfl c2) ?_
              refine goJ ?_
              refine evG ggA (ss_call (InB_of rfl) rfl rfl c3) ?_
              refine goJ ?_
              refine evG ggA (ss_call (InB_of rfl) rfl rfl c4) ?_
              refine goJ ?_
              exact loopQ_intro (k := ce.length - (i + 1)) (s' := mkS [(1, .ptr 1 0), (8, .v (iV ((i : Int) + 1)))] [(1, .var [.v (.sl (sr.map PS.av)), .v (.sl (et.map PE.av)), .v (.sl (df.map PB.av)), .v (.sl (ce.map PZ.av)), .v (.sl (sp.map PF.av)), .v (.sl (ma.map PM.av))])] 165 true) (by omega) (by exact entA) ⟨i + 1, rfl, hlti, hok2, rfl⟩
        · have d1 : decide ((i : Int) < ((ma.map PM.av).length : Int)) = true := decide_eq_true (by rw [List.length_map]; omega)
          have hg : ma[i]? = some ma[i] := List.getElem?_eq_getElem hlti
          have hm := List.getElem_mem hlti
          have hx : (ma.map PM.av)[((i : Nat) : Int).toNat]? = some (PM.av ma[i]) := by rw [Int.toNat_natCast, List.getElem?_map, hg]; rfl
          have c := short_p (w5 _ hm).2.2
          cases hf : (fun x => shB x.a) ma[i] with
          | false =>
            have hall : (ma.all fun x => shB x.a) = false := all_get hg hf
            clear hg hm
            generalize ma[i] = x at *
            have hr : smB ⟨sr, et, df, ce, sp, ma⟩ = false := by rw [hsm, hall]; simp only [Bool.false_and, Bool.and_false]
            rw [hr]
            clear hr hall
            have hf : shB x.a = false := hf
            rw [hf] at c
            clear hf
            obtain ⟨mr, mc, mm⟩ := x
            refine goJ ?_
            refine evG ggA (ss_index_sl (InB_of rfl) (elem_tab rfl) rfl rfl (by omega) hx rfl) ?_
            refine goJ ?_
            refine evG ggA (ss_call (InB_of rfl) rfl rfl c) ?_
            refine goJ ?_
            exact rfl
          | true =>
            have hok2 : ((ma.take (i + 1)).all fun x => shB x.a) = true := all_take hg hoki hf
            clear hg hm
            generalize ma[i] = x at *
            have hf : shB x.a = true := hf
            rw [hf] at c
            clear hf
            obtain ⟨mr, mc, mm⟩ := x
            refine goJ ?_
            refine evG ggA (ss_index_sl (InB_of rfl) (elem_tab rfl) rfl rfl (by omega) hx rfl) ?_
            refine goJ ?_
            refine evG ggA (ss_call (InB_of rfl) rfl rfl c) ?_
            refine goJ ?_
            exact loopQ_intro (k := ma.length - (i + 1)) (s' := mkS [(1, .ptr 1 0), (7, .v (iV ((i : Int) + 1)))] [(1, .var [.v (.sl (sr.map PS.av)), .v (.sl (et.map PE.av)), .v (.sl (df.map PB.av)), .v (.sl (ce.map PZ.av)), .v (.sl (sp.map PF.av)), .v (.sl (ma.map PM.av))])] 165 true) (by omega) (by exact entA) ⟨i + 1, rfl, hlti, hok2, rfl⟩
      · have d1 : decide ((i : Int) < ((sp.map PF.av).length : Int)) = true := decide_eq_true (by rw [List.length_map]; omega)
        have hg : sp[i]? = some sp[i] := List.getElem?_eq_getElem hlti
        have hw := (w4 _ (List.getElem_mem hlti)).2.2.2.2
        have hx : (sp.map PF.av)[((i : Nat) : Int).toNat]? = some (PF.av sp[i]) := by rw [Int.toNat_natCast, List.getElem?_map, hg]; rfl
        have hfalse : (!decide (6 < sp[i].b.length) && sp[i].b.all fun s => shB s.c) = false → (sp.all fun x => (!decide (6 < x.b.length) && x.b.all fun s => shB s.c)) = false := fun h => all_get hg h
        have htrue : (!decide (6 < sp[i].b.length) && sp[i].b.all fun s => shB s.c) = true → ((sp.take (i + 1)).all fun x => (!decide (6 < x.b.length) && x.b.all fun s => shB s.c)) = true := fun h => all_take hg hoki h
        clear hg
        generalize sp[i] = x at *
        obtain ⟨fl, fw, fd, fp, b⟩ := x
        obtain ⟨hw, hwn⟩ := hw
        have hw : ∀ s, s ∈ b → s.wk := hw
        have hwn : b.length ≤ 9223372036854775807 := hwn
        by_cases h6 : 6 < b.length
        · have t2 : decide (((b.map PS.av).length : Int) > 6) = true := decide_eq_true (by rw [List.length_map]; omega)
          have hall := hfalse (by show (!decide (6 < b.length) && _) = false; rw [decide_eq_true h6]; rfl)
          have hr : smB ⟨sr, et, df, ce, sp, ma⟩ = false := by rw [hsm, hall]; simp only [Bool.false_and, Bool.and_false]
          rw [hr]
          clear hr hall hfalse htrue
          refine goJ ?_
          refine evG ggA (ss_index_sl (InB_of rfl) (elem_tab rfl) rfl rfl (by omega) hx rfl) ?_
          refine goJ ?_
          exact rfl
        · have t2 : decide (((b.map PS.av).length : Int) > 6) = false := decide_eq_false (by rw [List.length_map]; omega)
          have hfa : (b.all fun s => shB s.c) = false → (sp.all fun x => (!decide (6 < x.b.length) && x.b.all fun s => shB s.c)) = false := fun h => hfalse (by show (!decide (6 < b.length) && _) = false; rw [h, Bool.and_false])
          have htr : (b.all fun s => shB s.c) = true → ((sp.take (i + 1)).all fun x => (!decide (6 < x.b.length) && x.b.all fun s => shB s.c)) = true := fun h => htrue (by show (!decide (6 < b.length) && _) = true; rw [h, decide_eq_false h6]; rfl)
          clear hfalse htrue
          refine goJ ?_
          refine evG ggA (ss_index_sl (InB_of rfl) (elem_tab rfl) rfl rfl (by omega) hx rfl) ?_
          refine goJ ?_
          refine T.loop (fun N s1 => ∃ k : Nat, N = b.length - k ∧ k ≤ b.length ∧ ((b.take k).all fun s => shB s.c) = true ∧ s1 = mkS [(1, .ptr 1 0), (5, .v (iV (i : Int))), (6, .v (iV k))] [(1, .var [.v (.sl (sr.map PS.av)), .v (.sl (et.map PE.av)), .v (.sl (df.map PB.av)), .v (.sl (ce.map PZ.av)), .v (.sl (sp.map PF.av)), .v (.sl (ma.map PM.av))])] 165 true) b.length
            (s' := mkS [(1, .ptr 1 0), (5, .v (iV (i : Int))), (6, .v (iV ((0 : Nat) : Int)))] [(1, .var [.v (.sl (sr.map PS.av)), .v (.sl (et.map PE.av)), .v (.sl (df.map PB.av)), .v (.sl (ce.map PZ.av)), .v (.sl (sp.map PF.av)), .v (.sl (ma.map PM.av))])] 165 true) (by exact entA) ⟨0, rfl, Nat.zero_le _, rfl, rfl⟩ ?_
          rintro _ _ ⟨k, rfl, hik, hokk, rfl⟩
          by_cases hltk : k < b.length
          · have d2 : decide ((k : Int) < ((b.map PS.av).length : Int)) = true := decide_eq_true (by rw [List.length_map]; omega)
            have hg : b[k]? = some b[k] := List.getElem?_eq_getElem hltk
            have hxk : (b.map PS.av)[((k : Nat) : Int).toNat]? = some (PS.av b[k]) := by rw [Int.toNat_natCast, List.getElem?_map, hg]; rfl
            have c := short_p (hw _ (List.getElem_mem hltk)).2
            cases hf : shB b[k].c with
            | false =>
              have hall := hfa (all_get hg hf)
              have hr : smB ⟨sr, et, df, ce, sp, ma⟩ = false := by rw [hsm, hall]; simp only [Bool.false_and, Bool.and_false]
              rw [hr]
              rw [hf] at c
              clear hr hall hfa htr hg hf
              generalize b[k] = y at *
              obtain ⟨f, cs⟩ := y
              refine goJ ?_
              refine evG ggA (ss_index_sl (InB_of rfl) (elem_tab rfl) rfl rfl (by omega) hx rfl) ?_
              refine goJ ?_
              refine evG ggA (ss_index_sl (InB_of rfl) (elem_tab rfl) rfl rfl (by omega) hx rfl) ?_
              refine goJ ?_
              refine evG ggA (ss_index_sl (InB_of rfl) (elem_tab rfl) rfl rfl (by omega) hxk rfl) ?_
              refine goJ ?_
              refine evG ggA (ss_call (InB_of rfl) rfl rfl c) ?_
              refine goJ ?_
              exact rfl
            | true =>
              have hok2 : ((b.take (k + 1)).all fun s => shB s.c) = true := all_take hg hokk hf
              rw [hf] at c
              clear hg hf
              generalize b[k] = y at *
              obtain ⟨f, cs⟩ := y
              refine goJ ?_
              refine evG ggA (ss_index_sl (InB_of rfl) (elem_tab rfl) rfl rfl (by omega) hx rfl) ?_
              refine goJ ?_
              refine evG ggA (ss_index_sl (InB_of rfl) (elem_tab rfl) rfl rfl (by omega) hx rfl) ?_
              refine goJ ?_
              refine evG ggA (ss_index_sl (InB_of rfl) (elem_tab rfl) rfl rfl (by omega) hxk rfl) ?_
              refine goJ ?_
              refine evG ggA (ss_call (InB_of rfl) rfl rfl c) ?_
              refine goJ ?_
              exact loopQ_intro (k := b.length - (k + 1)) (s' := mkS [(1, .ptr 1 0), (5, .v (iV (i : Int))), (6, .v (iV ((k : Int) + 1)))] [(1, .var [.v (.sl (sr.map PS.av)), .v (.sl (et.map PE.av)), .v (.sl (df.map PB.av)), .v (.sl (ce.map PZ.av)), .v (.sl (sp.map PF.av)), .v (.sl (ma.map PM.av))])] 165 true) (by omega) (by exact entA) ⟨k + 1, rfl, hltk, hok2, rfl⟩
          · obtain rfl : k = b.length := by omega
            have d2 : decide ((b.length : Int) < ((b.map PS.av).length : Int)) = false := decide_eq_false (by rw [List.length_map]; omega)
            rw [List.take_length] at hokk
            have hok2 := htr hokk
            clear hfa htr
            refine goJ ?_
            refine evG ggA (ss_index_sl (InB_of rfl) (elem_tab rfl) rfl rfl (by omega) hx rfl) ?_
            refine goJ ?_
            exact loopQ_intro (k := sp.length - (i + 1)) (s' := mkS [(1, .ptr 1 0), (5, .v (iV ((i : Int) + 1)))] [(1, .var [.v (.sl (sr.map PS.av)), .v (.sl (et.map PE.av)), .v (.sl (df.map PB.av)), .v (.sl (ce.map PZ.av)), .v (.sl (sp.map PF.av)), .v (.sl (ma.map PM.av))])] 165 true) (by omega) (by exact entA) ⟨i + 1, rfl, hlti, hok2, rfl⟩
    · have d1 : decide ((i : Int) < ((et.map PE.av).length : Int)) = true := decide_eq_true (by rw [List.length_map]; omega)
      have hg : et[i]? = some et[i] := List.getElem?_eq_getElem hlti
      have hm := List.getElem_mem hlti
      have hx : (et.map PE.av)[((i : Nat) : Int).toNat]? = some (PE.av et[i]) := by rw [Int.toNat_natCast, List.getElem?_map, hg]; rfl
      have hq := (w1 _ hm).2.2
      cases hf : (fun x => (!decide (60 < x.e.length))) et[i] with
      | false =>
        have hall : (et.all fun x => (!decide (60 < x.e.length))) = false := all_get hg hf
        clear hg hm
        generalize et[i] = x at *
        have hr : smB ⟨sr, et, df, ce, sp, ma⟩ = false := by rw [hsm, hall]; simp only [Bool.false_and, Bool.and_false]
        rw [hr]
        clear hr hall
        have hf : (!decide (60 < x.e.length)) = false := hf
        obtain ⟨f, cs⟩ := x
        have hf : 60 < cs.length := by simpa using hf
        have t2 : decide (((cs.map iV).length : Int) > 60) = true := decide_eq_true (by rw [List.length_map]; omega)
        refine goJ ?_
        refine evG ggA (ss_index_sl (InB_of rfl) (elem_tab rfl) rfl rfl (by omega) hx rfl) ?_
        refine goJ ?_
        exact rfl
      | true =>
        have hok2 : ((et.take (i + 1)).all fun x => (!decide (60 < x.e.length))) = true := all_take hg hoki hf
        clear hg hm
        generalize et[i] = x at *
        have hf : (!decide (60 < x.e.length)) = true := hf
        obtain ⟨f, cs⟩ := x
        have hf : ¬ 60 < cs.length := by simpa using hf
        have t2 : decide (((cs.map iV).length : Int) > 60) = false := decide_eq_false (by rw [List.length_map]; omega)
        refine goJ ?_
        refine evG ggA (ss_index_sl (InB_of rfl) (elem_tab rfl) rfl rfl (by omega) hx rfl) ?_
        refine goJ ?_
        exact loopQ_intro (k := et.length - (i + 1)) (s' := mkS [(1, .ptr 1 0), (4, .v (iV ((i : Int) + 1)))] [(1, .var [.v (.sl (sr.map PS.av)), .v (.sl (et.map PE.av)), .v (.sl (df.map PB.av)), .v (.sl (ce.map PZ.av)), .v (.sl (sp.map PF.av)), .v (.sl (ma.map PM.av))])] 165 true) (by omega) (by exact entA) ⟨i + 1, rfl, hlti, hok2, rfl⟩
  · have d1 : decide ((i : Int) < ((sr.map PS.av).length : Int)) = true := decide_eq_true (by rw [List.length_map]; omega)
    have hg : sr[i]? = some sr[i] := List.getElem?_eq_getElem hlti
    have hm := List.getElem_mem hlti
    have hx : (sr.map PS.av)[((i : Nat) : Int).toNat]? = some (PS.av sr[i]) := by rw [Int.toNat_natCast, List.getElem?_map, hg]; rfl
    have c := short_p (w0 _ hm).2
    cases hf : (fun x => shB x.c) sr[i] with
    | false =>
      have hall : (sr.all fun x => shB x.c) = false := all_get hg hf
      clear hg hm
      generalize sr[i] = x at *
      have hr : smB ⟨sr, et, df, ce, sp, ma⟩ = false := by rw [hsm, hall]; simp only [Bool.false_and, Bool.and_false]
      rw [hr]
      clear hr hall
      have hf : shB x.c = false := hf
      rw [hf] at c
      clear hf
      obtain ⟨f, cs⟩ := x
      refine goJ ?_
      refine evG ggA (ss_index_sl (InB_of rfl) (elem_tab rfl) rfl rfl (by omega) hx rfl) ?_
      refine goJ ?_
      refine evG ggA (ss_call (InB_of rfl) rfl rfl c) ?_
      refine goJ ?_
      exact rfl
    | true =>
      have hok2 : ((sr.take (i + 1)).all fun x => shB x.c) = true := all_take hg hoki hf
      clear hg hm
      generalize sr[i] = x at *
      have hf : shB x.c = true := hf
      rw [hf] at c
      clear hf
      obtain ⟨f, cs⟩ := x
      refine goJ ?_
      refine evG ggA (ss_index_sl (InB_of rfl) (elem_tab rfl) rfl rfl (by omega) hx rfl) ?_
      refine goJ ?_
      refine evG ggA (ss_call (InB_of rfl) rfl rfl c) ?_
      refine goJ ?_
      exact loopQ_intro (k := sr.length - (i + 1)) (s' := mkS [(1, .ptr 1 0), (3, .v (iV ((i : Int) + 1)))] [(1, .var [.v (.sl (sr.map PS.av)), .v (.sl (et.map PE.av)), .v (.sl (df.map PB.av)), .v (.sl (ce.map PZ.av)), .v (.sl (sp.map PF.av)), .v (.sl (ma.map PM.av))])] 165 true) (by omega) (by exact entA) ⟨i + 1, rfl, hlti, hok2, rfl⟩
end Ab
