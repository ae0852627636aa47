/- Canonical packages; the program's canonical numbers, lists and expressions. -/
import Derived.Test.YtbpdgaolmikjbaaGreatIcA
import Derived.Lib.SliceRun
set_option linter.all false
namespace Ab
open Go Go.RowKit Go.Proofs Hp
set_option maxRecDepth 100000
def BI.z (a : BI) : Int := zof a.g (vl a.ds)
def BI.of (z : Int) : BI := ⟨decide (z < 0), dgs z.natAbs⟩
def BR.q (a : BR) : Rat := Rat.divInt a.n.z a.d.z
def BR.can (a : BR) : BR := ⟨BI.of a.q.num, BI.of a.q.den⟩
def PS.can (a : PS) : PS := ⟨a.f, a.c.map BR.can⟩
mutual
def PX.can : PX → PX
 | .mk op ns c nm gs => .mk op ns c.can nm (PX.cans gs)
def PX.cans : List PX → List PX
 | [] => []
 | a :: l => PX.can a :: PX.cans l
end
theorem PX.cans_map : ∀ l : List PX, PX.cans l = l.map PX.can
 | [] => rfl
 | a :: l => by rw [PX.cans, PX.cans_map l]; rfl
def PB.can (a : PB) : PB := ⟨a.nm, a.e.can⟩
def PZ.can (a : PZ) : PZ := ⟨a.a.can, a.b.can, a.ds.map PB.can, a.k, a.bo, a.c.can⟩
def PF.can (a : PF) : PF := ⟨a.l, a.w, a.d, a.pr, a.b.map PS.can⟩
def PM.can (a : PM) : PM := ⟨a.r, a.c, a.a.map BR.can⟩
def PP.can (a : PP) : PP := ⟨a.ser.map PS.can, a.eta, a.defs.map PB.can, a.cert.map PZ.can, a.spc.map PF.can, a.mat.map PM.can⟩
theorem isC_bi {a : BI} (h : a.ok) : IsC a.cs 1000000000 a.z := ⟨a.g, a.ds, rfl, h.1, h.2, rfl⟩
theorem isV_br {a : BR} (h : a.ok) : IsV a.av 1000000000 a.q := ⟨a.n.cs, a.d.cs, a.n.z, a.d.z, rfl, isC_bi h.1, isC_bi h.2, rfl⟩
theorem isI_of {z : Int} {k : Nat} (h : z.natAbs < pw k) : IsI (encI z) k z := ⟨ci z, rfl, isC_ci h⟩
theorem can_av (a : BR) : a.can.av = encQ a.q := rfl
section
variable {dm : Bool} {P : Program} {ops : Array Oper} {s : AS} {dst : Option Tmp} {ty : TypeId} {pos : String} {after : Array Edge} {g : Option (Nat × Bool)}
theorem Zbe {t e : TypeId} {n bytes : Nat} {z : List Value} {y x : Operand} {id m : Nat} {es : List AV} {a : AV} (hin : InB s dst) (ht : Zek P t e n bytes z) (hy : s.ev y = some (.own id m)) (hm : s.m id = some (.lst n e es)) (hlen : es.length = m) (hx : s.ev x = some (.v (.sl [a])))
  (hn : a.cells.length = n) (hn0 : 0 < n) (hnu : a.cells.all AV.nu = true) (h63 : m + 1 ≤ 1000000000) (hby : bytes ≤ 1024) (hz : z.all nuV = true) :
  Zbg dm P ops ⟨dst, .call ⟨.builtin .append, #[y, x], #[t, t]⟩, ty, pos, after, g⟩ s (.own id (m + 1)) (.set id (.lst n e (es ++ [a]))) :=
 Zb5 (xs := [a]) hin ht hy hm hlen hx (fun b hb => by simp at hb; subst hb; exact hn) hn0 (by simp [maxLen]; omega) (by simp; have := Nat.mul_le_mul_left (m + 1) hby; omega) (by simp [hz]) (fun _ b hb c hc => by simp at hb; subst hb; exact List.all_eq_true.1 hnu c hc)
theorem ms_eqnil' {t e yt : TypeId} {y : Operand} {l : List AV} {K : AS → Prop} (hin : inbB s dst = true) (ht : P.underlying t = some (.slice e)) (hy : s.ev y = some (.v (.sl l)))
  (k : ∀ b : Bool, (l ≠ [] → b = false) → K (s.act dst (.v (.p (.bool b))) .none)) : MStep dm P ops ⟨dst, .binOp .eql t y (.const nilV) yt, ty, pos, after, none⟩ s K := by
 intro w0 M0 hM a w hrel next Q hn
 obtain ⟨ρ, hr⟩ := hrel
 rw [if_pos (show Region.wanted _ (yielded ops a.tmps) = true from rfl)]
 obtain ⟨ad, cap, h1, -, h3⟩ := Zfv (hr.ev hy)
 have hrun : (execOp a.eval ⟨dst, .binOp .eql t y (.const nilV) yt, ty, pos, after, none⟩).run P w = .ok (.value (.bool ad.isNone)) w := by
  have h5 : a.eval (.const nilV) = .slice none 0 0 := rfl
  simp only [execOp, h1, h5]
  rw [Sem.run_bind, Sem.run_bind]
  simp only [eqGuard]
  simp [Lib.run_eql_slice_nil w t e ad l.length cap 0 0 ht]
 unfold Oper.wp
 rw [hrun]
 refine hn _ _ _ (k ad.isNone fun hl => ?_) ⟨ρ, hr.put (Zaa hin) (.p _ rfl)⟩
 rcases h3 with h3 | ⟨b, off, sz, rfl, -⟩
 ·exact absurd h3 hl
 ·rfl
end
theorem und_u32s : Tryz.prog.underlying 50 = some (.slice 95) := by kernel_rfl
theorem und_ints : Tryz.prog.underlying 56 = some (.slice 3) := by kernel_rfl
theorem inormal_p {a : AV} {z : Int} {k : Nat} (ha : IsI a k z) (hk : k ≤ 1000000000) : PC Tryz.prog 136 [a] (encI z) := by
 refine ⟨callOK Tryz.func136 rfl rfl, fun w M hM vs hvs => ?_⟩
 obtain ⟨v, rfl, hv⟩ := reps1 hvs
 refine (normal_c ((isI_rep ha hv).mono (by unfold L; omega))).mono ?_
 rintro e w' ⟨v, rfl, hb, hr⟩
 exact ⟨v, rfl, hb, rep_encI hr (okm_below hM hb)⟩
theorem cloneU_p {xs : List AV} (hx : ∀ a, a ∈ xs → a.cells.length = 1) (hl : xs.length ≤ 2000000000) : PC Tryz.prog 137 [.sl xs] (.sl xs) := by
 refine Zas true Tryz.func137 rfl rfl rfl (Nat.le_of_ble_eq_true rfl) Za4.tmp ?_
 refine goI ?_
 refine evM (ms_eqnil' rfl und_u32s rfl fun b hb => ?_)
 refine goI ?_
 refine T.cond rfl (fun hbt => ?_) (fun hbf => ?_)
 ·have hxe : xs = [] := by
   cases xs with
   | nil => rfl
   | cons x xs => have := hb (fun e => by cases e); rw [this] at hbt; cases hbt
  subst hxe
  refine T.seq ?_
  refine regA ?_
  refine runA ?_
  refine Zbs ?_
  refine Zbr ?_
  refine T.weak (s' := mkS [(2, .v (.sl []))] [] 8 true) (by exact entA) ?_
  refine goI ?_
  exact rfl
 ·refine goI ?_
  refine evG ggA (ss_bslice0 (Zaa rfl) (Zaf rfl)) ?_
  refine goI ?_
  refine evG ggA (ss_append_em (Zaa rfl) (Zaf rfl) rfl rfl hx (by decide) (by unfold maxLen; omega) (by omega)) ?_
  refine goI ?_
  exact rfl
theorem cloneI_p {xs : List AV} (hx : ∀ a, a ∈ xs → a.cells.length = 1) (hl : xs.length ≤ 2000000000) : PC Tryz.prog 58 [.sl xs] (.sl xs) := by
 refine Zas true Tryz.func58 rfl rfl rfl (Nat.le_of_ble_eq_true rfl) Za4.tmp ?_
 refine goI ?_
 refine evM (ms_eqnil' rfl und_ints rfl fun b hb => ?_)
 refine goI ?_
 refine T.cond rfl (fun hbt => ?_) (fun hbf => ?_)
 ·have hxe : xs = [] := by
   cases xs with
   | nil => rfl
   | cons x xs => have := hb (fun e => by cases e); rw [this] at hbt; cases hbt
  subst hxe
  refine T.seq ?_
  refine regA ?_
  refine runA ?_
  refine Zbs ?_
  refine Zbr ?_
  refine T.weak (s' := mkS [(2, .v (.sl []))] [] 8 true) (by exact entA) ?_
  refine goI ?_
  exact rfl
 ·refine goI ?_
  refine evG ggA (ss_bslice0 (Zaa rfl) (Zaf rfl)) ?_
  refine goI ?_
  refine evG ggA (ss_append_em (Zaa rfl) (Zaf rfl) rfl rfl hx (by decide) (by unfold maxLen; omega) (by omega)) ?_
  refine goI ?_
  exact rfl
theorem iV_one (l : List Int) : ∀ a, a ∈ l.map iV → a.cells.length = 1 := fun a h => by obtain ⟨n, -, rfl⟩ := List.mem_map.1 h; rfl
theorem u32_one (l : List Int) : ∀ a, a ∈ l.map u32 → a.cells.length = 1 := fun a h => by obtain ⟨n, -, rfl⟩ := List.mem_map.1 h; rfl
theorem canonInt_p {z : Int} {k : Nat} (h : z.natAbs < pw k) (hk : k ≤ 1000000000) (hl : (dgs z.natAbs).length ≤ 1000000000) : PC Tryz.prog 127 [encI z] (encI z) := by
 have c := inormal_p (isI_of h) hk
 have c2 := cloneU_p (u32_one (dgs z.natAbs)) (by rw [List.length_map]; omega)
 refine Zas true Tryz.func127 rfl rfl rfl (Nat.le_of_ble_eq_true rfl) (Za4.agg Zce) ?_
 refine goI ?_
 refine evG ggA (Zae (Zaa rfl) rfl rfl c) ?_
 refine goI ?_
 refine evG ggA (Zae (Zaa rfl) rfl rfl c2) ?_
 refine goI ?_
 exact rfl
theorem Zf3 {z : Int} {k : Nat} (h : z.natAbs < pw k) : (dgs z.natAbs).length ≤ k := by
 obtain ⟨g, ds, e, -, h2, -⟩ := isC_ci h
 have e := congrArg (fun l : List AV => l[1]?) e
 have e : some (AV.sl ((dgs z.natAbs).map u32)) = some (AV.sl (ds.map u32)) := e
 injection e with e
 injection e with e
 have := congrArg List.length e
 simp at this
 omega
theorem canonRat_p {a : BR} (ha : a.ok) : PC Tryz.prog 104 [a.av] a.can.av := by
 have hv := isV_br ha
 have ht := isV_ht hv (by decide)
 have c := rnormal_p hv (by decide)
 have hd : (a.q.den : Int).natAbs < pw 1000000000 := by rw [Int.natAbs_natCast]; exact ht.2
 have c1 := canonInt_p ht.1 (by decide) (Zf3 ht.1)
 have c2 := canonInt_p hd (by decide) (Zf3 hd)
 rw [can_av]
 obtain ⟨⟨g1, d1⟩, ⟨g2, d2⟩⟩ := a
 generalize (BR.q _) = q at *
 refine Zas true Tryz.func104 rfl rfl rfl (Nat.le_of_ble_eq_true rfl) (Za4.agg Zgt) ?_
 refine goI ?_
 refine evG ggA (Zae (Zaa rfl) rfl rfl c) ?_
 refine goI ?_
 refine evG ggA (Zae (Zaa rfl) rfl rfl c1) ?_
 refine goI ?_
 refine evG ggA (Zae (Zaa rfl) rfl rfl c2) ?_
 refine goI ?_
 exact rfl
theorem Zdl {α β : Type} {l : List α} {f : α → β} {i : Nat} (h : i ≤ l.length) : ((l.take i).map f).length = i := by simp; omega
theorem Zc0 {α β : Type} {l : List α} {f : α → β} {i : Nat} {x : α} (h : l[i]? = some x) : (l.take (i + 1)).map f = (l.take i).map f ++ [f x] := by rw [List.take_add_one, h]; simp
end Ab
