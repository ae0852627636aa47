/- Inverses of classes of forms; a list's element by a remainder. -/
import Derived.Test.YtajlkcnlfiikeaaQwY
set_option linter.all false
namespace Ab
open Go Go.RowKit Go.Proofs Qf
set_option maxRecDepth 100000

def u16 (x : Int) : AV := .p (.int .u16 x)
def B16 (x : Int) : Prop := 0 ≤ x ∧ x ≤ 65535
theorem pick {l : List F} (h : 0 < l.length) {x : Int} (h0 : 0 ≤ x) : ∃ f, f ∈ l ∧ 0 ≤ x.tmod l.length ∧ x.tmod l.length < l.length ∧ (l.map fA)[(x.tmod l.length).toNat]? = some (fA f) := by
  have h1 := Int.emod_nonneg x (show (l.length : Int) ≠ 0 by omega)
  have h2 := Int.emod_lt_of_pos x (show 0 < (l.length : Int) by omega)
  rw [tmod_pos h0]
  have h3 : (x % l.length).toNat < l.length := by omega
  exact ⟨l[(x % l.length).toNat], List.getElem_mem _, h1, h2, by simp [h3]⟩
/-- the inverse -/
theorem cmp_inv {f : F} (h : compC f f.bar = 0) (hd : posC f.disc = 0) : cmpF f.rd f.bar.rd = idF f.disc := by
  have can := compC_zero h
  obtain ⟨r, hr, -⟩ := compose_p can
  have e := hr.bar can.cf
  rw [← idF_idn hd] at e
  rw [cmpF_eq (cmp_rd hr), e]
theorem bar_bd {f : F} {N : Int} (h : FBd N f) : FBd N f.bar := ⟨h.a, by have := h.b; show Bd N (-f.b); unfold Bd at *; omega, h.c⟩
theorem can_bar {f : F} (h : Can f f) : Can f f.bar := ⟨h.pf, bar_pos h.pf, h.bf, bar_bd h.bf, h.cf, by rw [bar_ct]; exact h.cf, bar_disc f, h.d4⟩
theorem Cl.cmp_bar {d : Int} {f : F} (h : Cl d f) (hd : posC d = 0) : PC Try.prog 14 [fA f, fA f.bar] (.tup [fA (idF d), iV 0]) := by
  have h0 := (posC_zero hd).1
  have k := compC_of (can_bar (h.can h h0))
  have c := (Compose_c k).2
  rw [cmp_inv k (by rw [h.d]; exact hd), h.d] at c
  exact c
end Ab
