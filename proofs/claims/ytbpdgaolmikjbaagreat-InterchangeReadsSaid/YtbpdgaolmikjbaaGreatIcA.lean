/- Packages as plain data, as abstract values, and as bytes. -/
import Derived.Test.YtbpdgaolmikjbaaGreatIo
import Derived.Test.YtbpdgaolmikjbaaGreatEnc
set_option linter.all false
namespace Ab
open Go Go.RowKit Go.Proofs
variable {dm mc : Bool}
section
variable {P : Program} {ops : Array Oper} {s : AS} {dst : Option Tmp} {ty : TypeId} {pos : String} {after : Array Edge} {g : Option (Nat × Bool)} {r : List Oper} {K : AS → Prop}
theorem d_nil {y : Operand} (h : EvX dm mc P ops (⟨dst, .nilCheck y, ty, pos, after, g⟩ :: r) s K) : EvX dm mc P ops (⟨dst, .nilCheck y, ty, pos, after, g⟩ :: r) s K := h
theorem d_mkb {f : FuncId} {y : Operand} (h : EvX dm mc P ops (⟨dst, .makeFunc (.func f) #[y] #[], ty, pos, after, g⟩ :: r) s K) : EvX dm mc P ops (⟨dst, .makeFunc (.func f) #[y] #[], ty, pos, after, g⟩ :: r) s K := h
end
theorem goI {A B : Prop} (h : B) (imp : Keep B → A := by intro hKeep; (repeat (first | (first | (refine d_nil ?_; refine evG ggA (Zct (Zaa rfl) rfl) ?_) | (refine d_mkb ?_; refine evG ggA (ss_makebm (Zaa rfl) rfl) ?_) | (first  | (refine d_move ?_; first | refine evG ggA (Zbj (Zaa rfl) rfl) ?_)  | (refine Zgg ?_; first | refine evG ggA (Zb4 (Zaa rfl) rfl) ?_)  | (refine d_load ?_; first | refine evG ggA (Zah (Zaa rfl) (Za8 rfl) rfl rfl rfl) ?_ | refine evG ggA (Zba (Zaa rfl) (Za1 rfl) rfl rfl rfl rfl) ?_ | refine evG ggA (Zb6 (Zaa rfl) (Za8 rfl) rfl rfl) ?_ | refine evG ggA (Zcp (Zaa rfl) (Za1 rfl) rfl rfl rfl) ?_)  | (refine d_field ?_; first | refine evG ggA (Zai (Zaa rfl) (Zan rfl) rfl) ?_ | refine evG ggA (Zb1 (Zaa rfl) (Zan rfl) rfl) ?_)  | (refine d_store ?_; first | refine evG ggA (Zbi rfl (Zcg rfl) rfl rfl rfl rfl rfl (Nat.le_of_ble_eq_true rfl) rfl) ?_)  | (refine Ze3 ?_; first | refine evG ggA (Zec (Zaa rfl) rfl rfl) ?_)  | (refine d_bin ?_; first | refine evG ggA (Zfu (Zaa rfl) rfl rfl rfl) ?_ | refine evG ggA (Zbk (Zaa rfl) rfl rfl (w64 (by omega) (by omega))) ?_ | refine evG ggA (ss_eqb (Zaa rfl) und_bool rfl rfl rfl) ?_)  | (refine d_un ?_; first | refine evG ggA (ss_not (Zaa rfl) rfl) ?_ | refine evG ggA (ss_neg (Zaa rfl) rfl (w64 (by omega) (by omega))) ?_)  | (refine d_blt ?_; first | refine evG ggA (ss_len (Zaa rfl) rfl (Zby rfl) rfl) ?_ | refine evG ggA (ss_min (Zaa rfl) rfl rfl) ?_ | refine evG ggA (ss_max (Zaa rfl) rfl rfl) ?_ | refine evG ggA (ss_min3 (Zaa rfl) rfl rfl rfl) ?_ | refine evG ggA (Zeb (Zaa rfl) rfl (Zby rfl) rfl) ?_ | refine evG ggA (Zea (Zaa rfl) rfl (Zby rfl) rfl rfl (by first | rfl | simp)) ?_)  | (refine d_build ?_; first | refine evG ggA (Zdv (Zaa rfl) (Zb0 rfl) rfl rfl rfl) ?_)  | (refine d_box ?_; first | refine evG ggA (Zgd (Zaa rfl) rfl rfl rfl rfl) ?_)  | (refine d_alloc ?_; first | refine evG ggA (Zcv (Zaa rfl) (Zd7 rfl) rfl rfl rfl) ?_)  | (refine d_pick ?_; first | refine evG ggA (Zex (Zaa rfl) rfl (by first | rfl | assumption) rfl) ?_ | refine evG ggA (Zey (Zaa rfl) rfl (by first | rfl | assumption) rfl) ?_)  | refine evSf rfl rfl (by first | rfl | assumption) rfl ?_ | refine evSt rfl rfl (by first | rfl | assumption) rfl ?_ | refine evSu rfl rfl rfl ?_)) | refine Zbs ?_ | (first | refine T.seq ?_ | refine T.block ?_ | refine T.ret ?_ | refine T.skip ?_ | refine T.exit ?_ | refine T.condT rfl (by first | rfl | assumption) ?_ | refine T.condF rfl (by first | rfl | assumption) ?_) | (first | refine T.region ?_ | refine T.drawB mixed (by kernel_rfl) ?_) | (first | with_reducible refine Zbr ?_ | with_reducible refine seqQ_e ?_ | with_reducible refine seqQ_r ?_ | with_reducible refine blockQ_n ?_ | with_reducible refine blockQ_r ?_ | with_reducible refine blockQ_e rfl ?_ | with_reducible refine blockQ_o rfl ?_ | with_reducible refine loopQ_e ?_ | with_reducible refine loopQ_r ?_ | with_reducible refine midQ_e ?_ | with_reducible refine midQ_r ?_ | with_reducible refine roundQ_n ?_ | with_reducible refine roundQ_e ?_ | with_reducible refine roundQ_r ?_))); exact hKeep.out) : A := imp ⟨h⟩
structure BI where
 g : Bool
 ds : List Int
structure BR where
 n : BI
 d : BI
structure PS where
 f : Int
 c : List BR
structure PE where
 l : Int
 e : List Int
inductive PX where
 | mk (op : Int) (ns : List Int) (c : BR) (nm : ByteArray) (gs : List PX)
structure PB where
 nm : ByteArray
 e : PX
structure PK where
 w : Int
 l : Int
 d : Int
 p : Int
 cu : Bool
structure PZ where
 a : PX
 b : PX
 ds : List PB
 k : PK
 bo : Int
 c : PS
structure PF where
 l : Int
 w : Int
 d : Int
 pr : Int
 b : List PS
structure PM where
 r : Int
 c : Int
 a : List BR
structure PP where
 ser : List PS
 eta : List PE
 defs : List PB
 cert : List PZ
 spc : List PF
 mat : List PM
def tV (s : ByteArray) : AV := .p (.string s)
def boV (b : Bool) : AV := .p (.bool b)
def nV (n : Nat) : AV := bV n
def BI.cs (a : BI) : List AV := [boV a.g, .sl (a.ds.map u32)]
def BR.cs (a : BR) : List AV := a.n.cs ++ a.d.cs
def BR.av (a : BR) : AV := .agg a.cs
def PS.cs (a : PS) : List AV := [iV a.f, .sl (a.c.map BR.av)]
def PS.av (a : PS) : AV := .agg a.cs
def PE.cs (a : PE) : List AV := [iV a.l, .sl (a.e.map iV)]
def PE.av (a : PE) : AV := .agg a.cs
mutual
def PX.cs : PX → List AV
 | .mk op ns c nm gs => iV op :: .sl (ns.map iV) :: (c.cs ++ [tV nm, .sl (PX.avs gs)])
def PX.avs : List PX → List AV
 | [] => []
 | a :: l => .agg (PX.cs a) :: PX.avs l
end
def PX.av (a : PX) : AV := .agg a.cs
theorem PX.avs_map : ∀ l : List PX, PX.avs l = l.map PX.av
 | [] => rfl
 | a :: l => by rw [PX.avs, PX.avs_map l]; rfl
def PB.cs (a : PB) : List AV := tV a.nm :: a.e.cs
def PB.av (a : PB) : AV := .agg a.cs
def PK.cs (a : PK) : List AV := [iV a.w, iV a.l, iV a.d, iV a.p, boV a.cu]
def PK.av (a : PK) : AV := .agg a.cs
def PZ.cs (a : PZ) : List AV := a.a.cs ++ (a.b.cs ++ (.sl (a.ds.map PB.av) :: (a.k.cs ++ (iV a.bo :: a.c.cs))))
def PZ.av (a : PZ) : AV := .agg a.cs
def PF.cs (a : PF) : List AV := [iV a.l, iV a.w, iV a.d, iV a.pr, .sl (a.b.map PS.av)]
def PF.av (a : PF) : AV := .agg a.cs
def PM.cs (a : PM) : List AV := [iV a.r, iV a.c, .sl (a.a.map BR.av)]
def PM.av (a : PM) : AV := .agg a.cs
def PP.cs (a : PP) : List AV := [.sl (a.ser.map PS.av), .sl (a.eta.map PE.av), .sl (a.defs.map PB.av), .sl (a.cert.map PZ.av), .sl (a.spc.map PF.av), .sl (a.mat.map PM.av)]
def PP.av (a : PP) : AV := .agg a.cs
def eN (n : Nat) : List Nat := if n < 128 then [n] else (n % 128 + 128) :: eN (n / 128)
termination_by n
theorem eN_lt {n : Nat} (h : n < 128) : eN n = [n] := by rw [eN, if_pos h]
theorem eN_ge {n : Nat} (h : ¬ n < 128) : eN n = (n % 128 + 128) :: eN (n / 128) := by rw [eN, if_neg h]
def zg (n : Int) : Nat := if n < 0 then 2 * (-(n + 1)).toNat + 1 else 2 * n.toNat
def eI (n : Int) : List Nat := eN (zg n)
def eL {α : Type} (f : α → List Nat) (l : List α) : List Nat := eN l.length ++ l.flatMap f
def eT (s : ByteArray) : List Nat := eN s.size ++ s.data.toList.map (·.toNat)
def e4 (d : Int) : List Nat := [d.toNat % 256, d.toNat / 256 % 256, d.toNat / 65536 % 256, d.toNat / 16777216]
def eB (a : BI) : List Nat := eN (2 * a.ds.length + if a.g then 1 else 0) ++ a.ds.flatMap e4
def eR (a : BR) : List Nat := eB a.n ++ eB a.d
def eS (a : PS) : List Nat := eI a.f ++ eL eR a.c
def eE (a : PE) : List Nat := eI a.l ++ eL eI a.e
mutual
def eX : PX → List Nat
 | .mk op ns c nm gs => eI op ++ (eL eI ns ++ (eR c ++ (eT nm ++ (eN gs.length ++ eXs gs))))
def eXs : List PX → List Nat
 | [] => []
 | a :: l => eX a ++ eXs l
end
theorem eXs_map : ∀ l : List PX, eXs l = l.flatMap eX
 | [] => rfl
 | a :: l => by rw [eXs, eXs_map l]; rfl
def eD (a : PB) : List Nat := eT a.nm ++ eX a.e
def eK (a : PK) : List Nat := eI a.w ++ (eI a.l ++ (eI a.d ++ (eI a.p ++ eN (if a.cu then 1 else 0))))
def eC (a : PZ) : List Nat := eX a.a ++ (eX a.b ++ (eL eD a.ds ++ (eK a.k ++ (eI a.bo ++ eS a.c))))
def eF (a : PF) : List Nat := eI a.l ++ (eI a.w ++ (eI a.d ++ (eI a.pr ++ eL eS a.b)))
def eM (a : PM) : List Nat := eI a.r ++ (eI a.c ++ eL eR a.a)
def eP (a : PP) : List Nat := eL eS a.ser ++ (eL eE a.eta ++ (eL eD a.defs ++ (eL eC a.cert ++ (eL eF a.spc ++ eL eM a.mat))))
def I64 (n : Int) : Prop := -9223372036854775808 ≤ n ∧ n ≤ 9223372036854775807
def BI.ok (a : BI) : Prop := (∀ d, d ∈ a.ds → 0 ≤ d ∧ d < 4294967296) ∧ a.ds.length ≤ 1000000000
def BR.ok (a : BR) : Prop := a.n.ok ∧ a.d.ok
def PS.ok (a : PS) : Prop := I64 a.f ∧ (∀ r, r ∈ a.c → r.ok) ∧ a.c.length ≤ 1000000000
def PE.ok (a : PE) : Prop := I64 a.l ∧ (∀ n, n ∈ a.e → I64 n) ∧ a.e.length ≤ 1000000000
mutual
def PX.ok : PX → Prop
 | .mk op ns c nm gs => I64 op ∧ ((∀ n, n ∈ ns → I64 n) ∧ ns.length ≤ 1000000000) ∧ c.ok ∧ nm.size ≤ 1000000000 ∧ PX.oks gs ∧ gs.length ≤ 1000000000
def PX.oks : List PX → Prop
 | [] => True
 | a :: l => PX.ok a ∧ PX.oks l
end
theorem PX.oks_iff : ∀ l : List PX, PX.oks l ↔ ∀ a, a ∈ l → PX.ok a
 | [] => ⟨fun _ a h => (by cases h), fun _ => trivial⟩
 | b :: l => by rw [PX.oks, PX.oks_iff l]; simp
def PB.ok (a : PB) : Prop := a.nm.size ≤ 1000000000 ∧ a.e.ok
def PK.ok (a : PK) : Prop := I64 a.w ∧ I64 a.l ∧ I64 a.d ∧ I64 a.p
def PZ.ok (a : PZ) : Prop := a.a.ok ∧ a.b.ok ∧ ((∀ b, b ∈ a.ds → b.ok) ∧ a.ds.length ≤ 1000000000) ∧ a.k.ok ∧ I64 a.bo ∧ a.c.ok
def PF.ok (a : PF) : Prop := I64 a.l ∧ I64 a.w ∧ I64 a.d ∧ I64 a.pr ∧ (∀ s, s ∈ a.b → s.ok) ∧ a.b.length ≤ 1000000000
def PM.ok (a : PM) : Prop := I64 a.r ∧ I64 a.c ∧ (∀ r, r ∈ a.a → r.ok) ∧ a.a.length ≤ 1000000000
def PP.ok (a : PP) : Prop := ((∀ s, s ∈ a.ser → s.ok) ∧ a.ser.length ≤ 1000000000) ∧ ((∀ s, s ∈ a.eta → s.ok) ∧ a.eta.length ≤ 1000000000) ∧ ((∀ s, s ∈ a.defs → s.ok) ∧ a.defs.length ≤ 1000000000) ∧ ((∀ s, s ∈ a.cert → s.ok) ∧ a.cert.length ≤ 1000000000) ∧ ((∀ s, s ∈ a.spc → s.ok) ∧ a.spc.length ≤ 1000000000) ∧ (∀ s, s ∈ a.mat → s.ok) ∧ a.mat.length ≤ 1000000000
theorem zg_lt {n : Int} (h : I64 n) : zg n < 18446744073709551616 := by
 unfold zg; obtain ⟨h1, h2⟩ := h; split <;> omega
end Ab
