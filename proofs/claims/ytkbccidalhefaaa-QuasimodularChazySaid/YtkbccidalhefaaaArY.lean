/- Append of any element (of another text). -/
import Derived.Test.YtkbccidalhefaaaEnc
set_option linter.all false
namespace Ab
open Go Go.RowKit Go.Proofs Hp
set_option maxRecDepth 100000

theorem ss_snocA {dm : Bool} {P : Program} {ops : Array Oper} {s : AS} {dst : Option Tmp} {ty : TypeId} {pos : String} {after : Array Edge} {g : Option (Nat × Bool)} {t e : TypeId} {n bytes : Nat} {z : List Value} {y x : Operand} {id m : Nat} {es : List AV} {a : AV} (hin : InB s dst) (ht : MakeT P t e n bytes z) (hy : s.ev y = some (.own id m)) (hm : s.m id = some (.lst n e es)) (hlen : es.length = m) (hx : s.ev x = some (.v (.sl [a])))
    (hn : a.cells.length = n) (hn0 : 0 < n) (hnu : a.cells.all AV.nu = true) (h63 : m + 1 ≤ 1000000) (hby : bytes ≤ 64) (hz : z.all nuV = true) :
    SStep dm P ops ⟨dst, .call ⟨.builtin .append, #[y, x], #[t, t]⟩, ty, pos, after, g⟩ s (.own id (m + 1)) (.set id (.lst n e (es ++ [a]))) :=
  ss_append (xs := [a]) hin ht hy hm hlen hx (fun b hb => by simp at hb; subst hb; exact hn) hn0 (by simp [maxLen]; omega) (by simp; have := Nat.mul_le_mul_left (m + 1) hby; omega) (by simp [hz]) (fun _ b hb c hc => by simp at hb; subst hb; exact List.all_eq_true.1 hnu c hc)
end Ab
