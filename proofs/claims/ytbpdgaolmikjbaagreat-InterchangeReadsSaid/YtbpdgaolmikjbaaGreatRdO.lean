/- Parts of lists with both bounds; lists of bytes compared. -/
import Derived.Test.YtbpdgaolmikjbaaGreatEnP
import Derived.Test.YtbpdgaolmikjbaaGreatRdA
set_option linter.all false
namespace Ab
open Go Go.RowKit Go.Proofs Hp
set_option maxRecDepth 100000
set_option maxHeartbeats 4000000
section
variable {dm : Bool} {P : Program} {ops : Array Oper} {s : AS} {dst : Option Tmp} {ty : TypeId} {pos : String} {after : Array Edge} {g : Option (Nat × Bool)}
theorem Zgm {t e : TypeId} {n : Nat} {y z u : Operand} {k k' : IntKind} {lo hi : Int} {l : List AV} (hin : InB s dst) (ht : ElemT P t e n) (hy : s.ev y = some (.v (.sl l))) (hsz : ∀ x, x ∈ l → x.cells.length = n) (hz : s.ev z = some (.v (.p (.int k lo)))) (hu : s.ev u = some (.v (.p (.int k' hi)))) (h0 : 0 ≤ lo) (h1 : lo ≤ hi) (h2 : hi ≤ l.length) :
  Zbg dm P ops ⟨dst, .slice t y (some z) (some u) none, ty, pos, after, g⟩ s (.v (.sl ((l.take hi.toNat).drop lo.toNat))) .none :=
 Zbn hin fun s' hag w0 M0 ρ a w _ hr => by
  obtain ⟨h2', ei, h3, h4⟩ := ht
  have h5 := hr.ev ((hag.ev (by simp [Op.operands])).trans hy)
  obtain ⟨ad, cap, h6, h7, -⟩ := Zfv h5
  have h8 := Rep.p_inv (hr.ev ((hag.ev (by simp [Op.operands])).trans hz))
  have h8' := Rep.p_inv (hr.ev ((hag.ev (by simp [Op.operands])).trans hu))
  rw [h6] at h5
  have h9 := Rep.sub h5 hsz (by omega : lo.toNat ≤ hi.toNat) (by omega : hi.toNat ≤ l.length)
  refine ⟨_, ?_, h9⟩
  have hb : 0 ≤ hi ∧ hi ≤ (cap : Int) := ⟨by omega, by omega⟩
  have hb2 : 0 ≤ lo ∧ lo ≤ hi := ⟨h0, h1⟩
  have e1 : ((hi.toNat : Nat) : Int) = hi := by omega
  simp [execOp, h6, h8, h8', Instr.sliceAt, Instr.slice, run_underlying h2', Instr.sliceBounds, Instr.sliceBound, asIntOf, hb, hb2, e1, Go.sizeOf, typeInfo, h3, h4]
end
theorem neq_nat (x y : Nat) : (((x : Nat) : Int) != ((y : Nat) : Int)) = !decide (x = y) := by
 by_cases h : x = y
 ·subst h; simp
 ·rw [decide_eq_false h]
  have : (((x : Nat) : Int) == ((y : Nat) : Int)) = false := beq_false_of_ne (by omega)
  simp only [bne, this]
theorem equal_p {a b : List Nat} (ha : a.length ≤ 1000000000) : PC Tryz.prog 78 [.sl (a.map nV), .sl (b.map nV)] (boV (decide (a = b))) := by
 have ela : (a.map nV).length = a.length := List.length_map ..
 have elb : (b.map nV).length = b.length := List.length_map ..
 by_cases hl : a.length = b.length
 ·have t1 : (((a.map nV).length : Int) != ((b.map nV).length : Int)) = false := by rw [ela, elb, neq_nat, hl]; simp
  refine Zas true Tryz.func78 rfl rfl rfl (Nat.le_of_ble_eq_true rfl) Za4.tmp ?_
  refine goJ ?_
  refine T.loop (fun N s1 => ∃ i : Nat, N = a.length - i ∧ i ≤ a.length ∧ a.take i = b.take i ∧ s1 = mkS [(0, .v (.sl (a.map nV))), (1, .v (.sl (b.map nV))), (12, .v (iV a.length)), (13, .v (iV i))] [] 26 true) a.length
   (s' := mkS [(0, .v (.sl (a.map nV))), (1, .v (.sl (b.map nV))), (12, .v (iV ((a.map nV).length : Nat))), (13, .v (iV ((0 : Nat) : Int)))] [] 26 true) (by exact entA) ⟨0, rfl, Nat.zero_le _, rfl, by rw [ela]⟩ ?_
  rintro _ _ ⟨i, rfl, hi, htk, rfl⟩
  by_cases hlt : i < a.length
  ·have d1 : decide ((i : Int) < (a.length : Int)) = true := decide_eq_true (by omega)
   have g1 : a[i]? = some a[i] := List.getElem?_eq_getElem hlt
   have g2 : b[i]? = some (b[i]'(by omega)) := List.getElem?_eq_getElem (by omega)
   generalize a[i] = x at g1
   generalize b[i]'(by omega) = y at g2
   have gx : (a.map nV)[((i : Nat) : Int).toNat]? = some (nV x) := by rw [Int.toNat_natCast, List.getElem?_map, g1]; rfl
   have gy : (b.map nV)[((i : Nat) : Int).toNat]? = some (nV y) := by rw [Int.toNat_natCast, List.getElem?_map, g2]; rfl
   have hne := neq_nat x y
   by_cases hxy : x = y
   ·subst hxy
    have t2 : (((x : Nat) : Int) != ((x : Nat) : Int)) = false := by rw [hne]; simp
    have htk' : a.take (i + 1) = b.take (i + 1) := by rw [List.take_add_one, List.take_add_one, htk, g1, g2]
    clear g1 g2 htk hne
    refine goJ ?_
    refine T.drawF mixed ?_
    refine goJ ?_
    refine evG ggA (Zab (Zaa rfl) (Zac rfl) rfl rfl (by omega) gx rfl) ?_
    refine goJ ?_
    refine evG ggA (Zab (Zaa rfl) (Zac rfl) rfl rfl (by omega) gy rfl) ?_
    refine goJ ?_
    refine ⟨by kernel_rfl, ?_⟩
    refine goJ ?_
    exact Zad (k := a.length - (i + 1)) (s' := mkS [(0, .v (.sl (a.map nV))), (1, .v (.sl (b.map nV))), (12, .v (iV a.length)), (13, .v (iV ((i : Int) + 1)))] [] 26 true) (by omega) (by exact entA) ⟨i + 1, rfl, hlt, htk', rfl⟩
   ·have t2 : (((x : Nat) : Int) != ((y : Nat) : Int)) = true := by rw [hne]; simp [hxy]
    have hres : decide (a = b) = false := decide_eq_false fun e => hxy (by rw [e, g2] at g1; injection g1 with g1; exact g1.symm)
    rw [hres]
    clear g1 g2 htk hne
    refine goJ ?_
    refine T.drawF mixed ?_
    refine goJ ?_
    refine evG ggA (Zab (Zaa rfl) (Zac rfl) rfl rfl (by omega) gx rfl) ?_
    refine goJ ?_
    refine evG ggA (Zab (Zaa rfl) (Zac rfl) rfl rfl (by omega) gy rfl) ?_
    refine goJ ?_
    refine ⟨by kernel_rfl, ?_⟩
    refine goJ ?_
    exact rfl
  ·obtain rfl : i = a.length := by omega
   have d1 : decide ((a.length : Int) < (a.length : Int)) = false := decide_eq_false (by omega)
   have hres : decide (a = b) = true := decide_eq_true (by rw [List.take_length] at htk; rw [htk, hl, List.take_length])
   rw [hres]
   refine goJ ?_
   exact rfl
 ·have t1 : (((a.map nV).length : Int) != ((b.map nV).length : Int)) = true := by rw [ela, elb, neq_nat]; simp [hl]
  rw [show decide (a = b) = false from decide_eq_false fun e => hl (by rw [e])]
  refine Zas true Tryz.func78 rfl rfl rfl (Nat.le_of_ble_eq_true rfl) Za4.tmp ?_
  refine goJ ?_
  exact rfl
end Ab
