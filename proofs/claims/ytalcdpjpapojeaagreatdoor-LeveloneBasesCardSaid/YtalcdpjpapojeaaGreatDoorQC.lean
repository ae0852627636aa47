/- Lists of terms. -/
import Derived.Test.YtalcdpjpapojeaaGreatDoorQB
import Derived.Test.YtalcdpjpapojeaaGreatDoorKx
import Derived.Test.YtalcdpjpapojeaaGreatDoorAJ
set_option linter.all false
namespace Ab
open Go Go.RowKit Go.Proofs Hp
set_option maxRecDepth 100000
def qe (t : QT) : QE := ⟨t.a, t.b, t.c, decide (t.q.num < 0), (dgs t.q.num.natAbs).map u32, decide ((t.q.den : Int) < 0), (dgs (t.q.den : Int).natAbs).map u32, t.q⟩
theorem qe_ok {t : QT} {K : Nat} (h : Ht t.q K) : (qe t).ok K := Zad h
theorem qe_map (l : List QT) : (l.map qe).map QE.t = l := by
 rw [List.map_map]
 exact List.map_id l
theorem av_len (U : List QE) : (U.map QE.av).length = U.length := List.length_map ..
theorem av_cells (U : List QE) : ∀ a, a ∈ U.map QE.av → a.cells.length = 7 := fun a ha => by obtain ⟨e, -, rfl⟩ := List.mem_map.1 ha; rfl
theorem av_nu (U : List QE) : ∀ a, a ∈ U.map QE.av → ∀ c, c ∈ a.cells → c.nu = true := fun a ha => by
 obtain ⟨e, -, rfl⟩ := List.mem_map.1 ha
 exact List.all_eq_true.1 (show (QE.av e).cells.all AV.nu = true from rfl)
def QE.w (e : QE) : Int := 2 * e.a + 4 * e.b + 6 * e.c
def QE.vt (e : QE) : Prop := 0 ≤ e.a ∧ 0 ≤ e.b ∧ 0 ≤ e.c ∧ e.a ≤ 60 ∧ e.b ≤ 60 ∧ e.c ≤ 60 ∧ e.w ≤ 60
instance (e : QE) : Decidable e.vt := inferInstanceAs (Decidable (_ ∧ _))
theorem QE.vt.sm {e : QE} (h : e.vt) : e.sm := by unfold QE.vt at h; unfold QE.sm; omega
def QV (U : List QE) : Prop := U.length ≤ 400 ∧ ∀ e, e ∈ U → e.vt
instance (U : List QE) : Decidable (QV U) := inferInstanceAs (Decidable (_ ∧ _))
abbrev tvQ (a b c : Int) (g : Bool) (d : List AV) (g' : Bool) (d' : List AV) : Blk := .var [.v (iV a), .v (iV b), .v (iV c), .v (.p (.bool g)), .v (.sl d), .v (.p (.bool g')), .v (.sl d')]
theorem ss_snocB {dm : Bool} {P : Program} {ops : Array Oper} {s : AS} {dst : Option Tmp} {ty : TypeId} {pos : String} {after : Array Edge} {g : Option (Nat × Bool)} {t e : TypeId} {n bytes : Nat} {z : List Value} {y x : Operand} {id m : Nat} {es : List AV} {a : AV} (hin : InB s dst) (ht : MakeT P t e n bytes z) (hy : s.ev y = some (.own id m)) (hm : s.m id = some (.lst n e es)) (hlen : es.length = m) (hx : s.ev x = some (.v (.sl [a])))
  (hn : a.cells.length = n) (hn0 : 0 < n) (hnu : a.cells.all AV.nu = true) (h63 : m + 1 ≤ 1000000) (hby : bytes ≤ 128) (hz : z.all nuV = true) :
  Za9 dm P ops ⟨dst, .call ⟨.builtin .append, #[y, x], #[t, t]⟩, ty, pos, after, g⟩ s (.own id (m + 1)) (.set id (.lst n e (es ++ [a]))) :=
 Zcj (xs := [a]) hin ht hy hm hlen hx (fun b hb => by simp at hb; subst hb; exact hn) hn0 (by simp [maxLen]; omega) (by simp; have := Nat.mul_le_mul_left (m + 1) hby; omega) (by simp [hz]) (fun _ b hb c hc => by simp at hb; subst hb; exact List.all_eq_true.1 hnu c hc)
def qfi (t : QT) : List QT := if t.q = 0 then [] else [t]
abbrev PL (l : List QT) : List AV := (l.map qe).map QE.av
theorem PL_len (l : List QT) : (PL l).length = l.length := by unfold PL; rw [List.length_map, List.length_map]
theorem PL_snoc (l : List QT) (t : QT) : PL l ++ [(qe t).av] = PL (l ++ [t]) := by unfold PL; rw [List.map_append, List.map_append]; rfl
end Ab
