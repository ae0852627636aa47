/- Contracts of functions that need nothing of the callers' blocks; freezing inside a region; shifts to the left. -/
import Derived.Test.YtajhaoapcapgeaaGreatDoorTab
set_option linter.all false
namespace Ab
open Go Go.RowKit Go.Proofs
variable {dm : Bool}
abbrev PW (P : Program) (f : FuncId) (args : List AV) (r : AV) : Prop := PCD false P f args r
theorem evL_weak {P : Program} {ops : Array Oper} {w0 : World} {M0 : Cx} (hM : OKC dm M0 w0) {K : AS → Prop} {Q : Exit → Act → World → Prop} (hK : ∀ s a w, K s → Rel w0 M0 s a w → Q .normal a w) (l2 : List Oper) :
    ∀ (l : List Oper) (s : AS) (a : Act) (w : World), EvL dm P ops l s (fun s1 => ∃ s2, Ent s1 s2 ∧ EvL dm P ops l2 s2 K) → Rel w0 M0 s a w → wpList P ops Q (l ++ l2) a w
  | [], s, a, w, h, hr => by
    obtain ⟨s2, he, h⟩ := h
    exact evL_wpList hM hK l2 s2 a w h (he w0 M0 a w hM.weak hr)
  | o :: r, s, a, w, h, hr => by
    rcases h with ⟨x, e, h1, h2⟩ | ⟨-, h⟩
    · refine wpList_step fun K' hK' => ?_
      exact stepG_wp h1 (Agree.refl _ _ _) (fun id b he => ((stepG_effs h1).1 id b he).2) hM hr K' Q (fun a' w' hr' => hK' a' w' (evL_weak hM hK l2 r _ a' w' h2 hr'))
    · refine wpList_step fun K' hK' => ?_
      exact h w0 M0 hM a w hr K' Q (fun s' a' w' hs hr' => hK' a' w' (evL_weak hM hK l2 r s' a' w' hs hr'))
/-- a region in the order of the text, with a state that says less in its midst -/
theorem T.regionW {P : Program} {id : Nat} {l : List Oper} {s : AS} {Q : Exit → AS → Prop} (n : Nat) (h : EvL dm P l.toArray (l.take n) s (fun s1 => ∃ s2, Ent s1 s2 ∧ EvL dm P l.toArray (l.drop n) s2 (Q .normal))) : T dm P (.region id l.toArray false) s Q := fun w0 M0 hM a w hr => by
  have h1 := evL_weak hM (Q := fun x a' w' => ∃ s', Q x s' ∧ Rel w0 M0 s' a' w') (fun s' a' w' h1 h2 => ⟨s', h1, h2⟩) (l.drop n) (l.take n) s a w h hr
  rw [List.take_append_drop] at h1
  exact wp_region_lit h1
section
variable {P : Program} {ops : Array Oper} {s : AS} {dst : Option Tmp} {ty : TypeId} {pos : String} {after : Array Edge} {g : Option (Nat × Bool)}
theorem ss_shl {k yk : IntKind} {xt yt : TypeId} {y z : Operand} {p q c : Int} (hin : InB s dst) (hy : s.ev y = some (.v (.p (.int k p)))) (hz : s.ev z = some (.v (.p (.int yk q)))) (hq : 0 ≤ q)
    (hc : k.wrap (p * 2 ^ (min q.toNat k.bits)) = c) : SStep dm P ops ⟨dst, .binOp .shl xt y z yt, ty, pos, after, g⟩ s (.v (.p (.int k c))) .none :=
  ss_bin hin hy hz rfl fun w => by
    have : ¬ q < 0 := by omega
    simp [eqGuard, binOp, Op.shift, this, hc]
end
theorem u64w {x : Int} (h0 : 0 ≤ x) (h1 : x < 18446744073709551616) : IntKind.u64.wrap x = x := by rw [IntKind.wrap_u64]; omega
theorem u32w {x : Int} (h0 : 0 ≤ x) (h1 : x < 4294967296) : IntKind.u32.wrap x = x := by rw [IntKind.wrap_u32']; omega
theorem u32m (x : Int) : IntKind.u32.wrap x = x % 4294967296 := IntKind.wrap_u32' x
end Ab
