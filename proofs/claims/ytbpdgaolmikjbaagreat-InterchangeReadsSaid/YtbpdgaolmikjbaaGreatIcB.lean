/- All bytes of encodings are bytes; canonical packages are packages. -/
import Derived.Test.YtbpdgaolmikjbaaGreatCaA
set_option linter.all false
namespace Ab
open Go Go.RowKit Go.Proofs Hp
def By (l : List Nat) : Prop := ∀ c, c ∈ l → c < 256
theorem By.app {a b : List Nat} (h : By a) (k : By b) : By (a ++ b) := fun c hc => by
 rcases List.mem_append.1 hc with hc | hc
 ·exact h c hc
 ·exact k c hc
theorem By.flat {α : Type} {f : α → List Nat} {l : List α} (h : ∀ x, x ∈ l → By (f x)) : By (l.flatMap f) := fun c hc => by
 obtain ⟨x, hx, hc⟩ := List.mem_flatMap.1 hc
 exact h x hx c hc
theorem eN_by : ∀ n, By (eN n) := by
  intro n
  induction n using Nat.strongRecOn with
  | _ n ih =>
    by_cases h : n < 128
    · rw [eN_lt h]
      intro c hc
      rw [List.mem_singleton] at hc
      omega
    · rw [eN_ge h]
      intro c hc
      rcases List.mem_cons.1 hc with rfl | hc
      · omega
      · exact ih (n / 128) (by omega) c hc
theorem Zgi (n : Int) : By (eI n) := eN_by _
theorem eL_by {α : Type} {f : α → List Nat} {l : List α} (h : ∀ x, x ∈ l → By (f x)) : By (eL f l) := (eN_by _).app (By.flat h)
theorem eT_by (s : ByteArray) : By (eT s) := (eN_by _).app fun c hc => by
 obtain ⟨b, -, rfl⟩ := List.mem_map.1 hc
 exact b.toNat_lt
theorem e4_by {d : Int} (h : 0 ≤ d ∧ d < 4294967296) : By (e4 d) := fun c hc => by
 simp only [e4, List.mem_cons, List.not_mem_nil, or_false] at hc
 omega
theorem eB_by {a : BI} (h : a.ok) : By (eB a) := (eN_by _).app (By.flat fun x hx => e4_by (h.1 x hx))
theorem eR_by {a : BR} (h : a.ok) : By (eR a) := (eB_by h.1).app (eB_by h.2)
theorem eS_by {a : PS} (h : a.ok) : By (eS a) := (Zgi _).app (eL_by fun x hx => eR_by (h.2.1 x hx))
theorem eE_by (a : PE) : By (eE a) := (Zgi _).app (eL_by fun x _ => Zgi x)
mutual
theorem eX_by : ∀ a : PX, a.ok → By (eX a)
  | .mk op ns c nm gs, h => by
    obtain ⟨-, -, h4, -, h6, -⟩ := h
    rw [eX]
    exact (Zgi _).app ((eL_by fun x _ => Zgi x).app ((eR_by h4).app ((eT_by _).app ((eN_by _).app (eXs_by gs h6)))))
theorem eXs_by : ∀ l : List PX, PX.oks l → By (eXs l)
  | [], _ => fun c hc => by rw [eXs] at hc; cases hc
  | a :: l, h => by
    rw [eXs]
    exact (eX_by a h.1).app (eXs_by l h.2)
end
theorem eD_by {a : PB} (h : a.ok) : By (eD a) := (eT_by _).app (eX_by _ h.2)
theorem eK_by (a : PK) : By (eK a) := (Zgi _).app ((Zgi _).app ((Zgi _).app ((Zgi _).app (eN_by _))))
theorem eC_by {a : PZ} (h : a.ok) : By (eC a) := by
 obtain ⟨h1, h2, ⟨h3, -⟩, -, -, h7⟩ := h
 exact (eX_by _ h1).app ((eX_by _ h2).app ((eL_by fun x hx => eD_by (h3 x hx)).app ((eK_by _).app ((Zgi _).app (eS_by h7)))))
theorem eF_by {a : PF} (h : a.ok) : By (eF a) := (Zgi _).app ((Zgi _).app ((Zgi _).app ((Zgi _).app (eL_by fun x hx => eS_by (h.2.2.2.2.1 x hx)))))
theorem eM_by {a : PM} (h : a.ok) : By (eM a) := (Zgi _).app ((Zgi _).app (eL_by fun x hx => eR_by (h.2.2.1 x hx)))
theorem eP_by {p : PP} (h : p.ok) : By (eP p) := by
 obtain ⟨⟨h0, -⟩, -, ⟨h2, -⟩, ⟨h3, -⟩, ⟨h4, -⟩, h5, -⟩ := h
 exact (eL_by fun x hx => eS_by (h0 x hx)).app ((eL_by fun x _ => eE_by x).app ((eL_by fun x hx => eD_by (h2 x hx)).app ((eL_by fun x hx => eC_by (h3 x hx)).app ((eL_by fun x hx => eF_by (h4 x hx)).app (eL_by fun x hx => eM_by (h5 x hx))))))
theorem of_ok {z : Int} (h : z.natAbs < pw 1000000000) : (BI.of z).ok := by
  have := isC_ci h
  obtain ⟨g, ds, e, h1, h2, -⟩ := this
  have e := congrArg (fun l : List AV => l[1]?) e
  have e : some (AV.sl ((dgs z.natAbs).map u32)) = some (AV.sl (ds.map u32)) := e
  injection e with e
  injection e with e
  have inj : ∀ a b : List Int, a.map u32 = b.map u32 → a = b := by
    intro a
    induction a with
    | nil => intro b h; cases b with
      | nil => rfl
      | cons => cases h
    | cons x a ih =>
      intro b h
      cases b with
      | nil => cases h
      | cons y b =>
        injection h with h1 h2
        injection h1 with h1
        injection h1 with _ h1
        rw [h1, ih b h2]
  have e := inj _ _ e
  exact ⟨fun d hd => by
    have : (BI.of z).ds = ds := e
    rw [this] at hd
    obtain ⟨p, q⟩ := h1 d hd
    exact ⟨p, q⟩, by
    have : (BI.of z).ds = ds := e
    rw [this]; exact h2⟩
theorem can_ok {a : BR} (h : a.ok) : a.can.ok := by
 have ht := isV_ht (isV_br h) (by decide)
 exact ⟨of_ok ht.1, of_ok (by rw [Int.natAbs_natCast]; exact ht.2)⟩
theorem Zc6 {α : Type} {P : α → Prop} {f : α → α} {l : List α} (h : ∀ x, x ∈ l → P (f x)) : ∀ y, y ∈ l.map f → P y := fun y hy => by
 obtain ⟨x, hx, rfl⟩ := List.mem_map.1 hy
 exact h x hx
theorem PS.can_ok {a : PS} (h : a.ok) : a.can.ok := ⟨h.1, Zc6 fun x hx => Ab.can_ok (h.2.1 x hx), by show (a.c.map BR.can).length ≤ _; rw [List.length_map]; exact h.2.2⟩
mutual
theorem PX.can_ok : ∀ a : PX, a.ok → a.can.ok
  | .mk op ns c nm gs, h => by
    obtain ⟨h1, h2, h4, h5, h6, h7⟩ := h
    rw [PX.can]
    exact ⟨h1, h2, Ab.can_ok h4, h5, PX.cans_ok gs h6, by rw [PX.cans_map, List.length_map]; exact h7⟩
theorem PX.cans_ok : ∀ l : List PX, PX.oks l → PX.oks (PX.cans l)
  | [], _ => by rw [PX.cans]; trivial
  | a :: l, h => by
    rw [PX.cans]
    exact ⟨PX.can_ok a h.1, PX.cans_ok l h.2⟩
end
theorem PB.can_ok {a : PB} (h : a.ok) : a.can.ok := ⟨h.1, PX.can_ok _ h.2⟩
theorem PZ.can_ok {a : PZ} (h : a.ok) : a.can.ok := by
 obtain ⟨h1, h2, ⟨h3, h4⟩, h5, h6, h7⟩ := h
 exact ⟨PX.can_ok _ h1, PX.can_ok _ h2, ⟨Zc6 fun x hx => PB.can_ok (h3 x hx), by show (a.ds.map PB.can).length ≤ _; rw [List.length_map]; exact h4⟩, h5, h6, PS.can_ok h7⟩
theorem PF.can_ok {a : PF} (h : a.ok) : a.can.ok := by
 obtain ⟨h1, h2, h3, h4, h5, h6⟩ := h
 exact ⟨h1, h2, h3, h4, Zc6 fun x hx => PS.can_ok (h5 x hx), by show (a.b.map PS.can).length ≤ _; rw [List.length_map]; exact h6⟩
theorem PM.can_ok {a : PM} (h : a.ok) : a.can.ok := by
 obtain ⟨h1, h2, h3, h4⟩ := h
 exact ⟨h1, h2, Zc6 fun x hx => Ab.can_ok (h3 x hx), by show (a.a.map BR.can).length ≤ _; rw [List.length_map]; exact h4⟩
theorem PP.can_ok {p : PP} (h : p.ok) : p.can.ok := by
 obtain ⟨⟨h0, n0⟩, h1, ⟨h2, n2⟩, ⟨h3, n3⟩, ⟨h4, n4⟩, h5, n5⟩ := h
 exact ⟨⟨Zc6 fun x hx => PS.can_ok (h0 x hx), by show (p.ser.map PS.can).length ≤ _; rw [List.length_map]; exact n0⟩, h1, ⟨Zc6 fun x hx => PB.can_ok (h2 x hx), by show (p.defs.map PB.can).length ≤ _; rw [List.length_map]; exact n2⟩, ⟨Zc6 fun x hx => PZ.can_ok (h3 x hx), by show (p.cert.map PZ.can).length ≤ _; rw [List.length_map]; exact n3⟩, ⟨Zc6 fun x hx => PF.can_ok (h4 x hx), by show (p.spc.map PF.can).length ≤ _; rw [List.length_map]; exact n4⟩, Zc6 fun x hx => PM.can_ok (h5 x hx), by show (p.mat.map PM.can).length ≤ _; rw [List.length_map]; exact n5⟩
end Ab
