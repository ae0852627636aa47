/- The document's normalized form. -/
import Derived.Test.YtalcdpjpapojeaaGreatDoorQA1
import Derived.Test.YtalcdpjpapojeaaGreatDoorQmE
set_option linter.all false
namespace Ab
open Go Go.RowKit Go.Proofs Hp
set_option maxRecDepth 100000
set_option maxRecDepth 100000
section
variable {dm : Bool} {P : Program} {ops : Array Oper} {s : AS} {dst : Option Tmp} {ty : TypeId} {pos : String} {after : Array Edge} {g : Option (Nat × Bool)}
def ArrT (P : Program) (t : TypeId) (len n : Nat) : Prop := ∃ e i, P.underlying t = some (.array len e) ∧ P.info? e = some i ∧ i.size = n
theorem Zcu {t : TypeId} {len n : Nat} {y z : Operand} {k : IntKind} {i : Int} {id o : Nat} (hin : InB s dst) (ht : ArrT P t len n) (hy : s.ev y = some (.ptr id o)) (hz : s.ev z = some (.v (.p (.int k i)))) (h0 : 0 ≤ i) (hi : i < len) : Za9 dm P ops ⟨dst, .indexAddr t y z, ty, pos, after, g⟩ s (.ptr id (o + i.toNat * n)) .none :=
 Za6 hin fun s' hag w0 M0 ρ a w _ hr => by
  obtain ⟨e, ei, h1, h2, h3⟩ := ht
  obtain ⟨h6, b, kk, h7, h8⟩ := hr.ev ((hag.ev (by simp [Op.operands])).trans hy)
  have h9 := Rep.p_inv (hr.ev ((hag.ev (by simp [Op.operands])).trans hz))
  refine ⟨.pointer (some ⟨b, o + i.toNat * n, none⟩), ?_, h6, b, kk, h7, rfl⟩
  have hi' : 0 ≤ i ∧ i < (len : Int) := ⟨h0, hi⟩
  simp [execOp, h8, h9, Instr.indexAt, asIntOf, run_underlying h1, hi', Go.sizeOf, typeInfo, h2, h3, addr_add, Instr.sureAddr]
end
theorem arrT_of {P : Program} {t : TypeId} {len n : Nat} (h : (match P.underlying t with | some (.array l e) => (match P.info? e with | some i => l == len && i.size == n | none => false) | _ => false) = true) : ArrT P t len n := by
  cases hu : P.underlying t with
  | none => rw [hu] at h; cases h
  | some d =>
    rw [hu] at h
    cases d <;> first | cases h | skip
    rename_i l e
    simp only at h
    cases hi : P.info? e with
    | none => rw [hi] at h; cases h
    | some i =>
      rw [hi] at h
      simp only [Bool.and_eq_true, beq_iff_eq] at h
      obtain ⟨rfl, rfl⟩ := h
      exact ⟨e, i, hu, hi, rfl⟩
set_option maxHeartbeats 8000000 in
theorem norm38_p {U : List QE} {K : Nat} (hU : U.length ≤ 1000) (ho : ∀ e, e ∈ U → e.ok K) (hK : 1 ≤ K ∧ K ≤ 1000) : PC Tryz.prog 44 [.sl (U.map QE.av)] (.sl (PL (qnf (U.map QE.t)))) := by
 have hl := av_len U
 obtain ⟨X, hX⟩ : ∃ X, X = U.map QE.av := ⟨_, rfl⟩
 rw [← hX] at hl ⊢
 refine pb1 Tryz.func44 Zac.tmp ?_
 refine goA ?_
 refine T.loop (fun N s1 => ∃ A B : List QE, U = A ++ B ∧ N = B.length ∧ s1 = mkS [(0, .v (.sl X)), (3, .v (.sl (PL (qnf (A.map QE.t))))), (4, .v (iV A.length))] [] 18 true) U.length
  (s' := mkS [(0, .v (.sl X)), (3, .v (.sl [])), (4, .v (iV ((0 : Nat) : Int)))] [] 18 true) entA ⟨[], U, rfl, rfl, rfl⟩ ?_
 rintro _ _ ⟨A, B, hAB, rfl, rfl⟩
 have hlA : U.length = A.length + B.length := by rw [hAB]; simp
 rcases B with _ | ⟨e, B⟩
 ·have b1 : decide ((A.length : Int) < (X.length : Int)) = false := decide_eq_false (by simp at hlA; omega)
  have hUA : U = A := by rw [hAB]; simp
  rw [hUA]
  refine goA ?_
  exact rfl
 have b1 : decide ((A.length : Int) < (X.length : Int)) = true := decide_eq_true (by simp at hlA; omega)
 have hget : X[((A.length : Nat) : Int).toNat]? = some e.av := by rw [hX, hAB]; exact av_get oM
 have hAB2 : U = (A ++ [e]) ++ B := by rw [hAB]; simp
 have hlB : B.length < (e :: B).length := by simp
 have hnx : ((A.length : Nat) : Int) + 1 = ((A ++ [e]).length : Nat) := by simp
 simp only [List.length_cons] at hlA
 have hoA : ∀ t, t ∈ A.map QE.t → Ht t.q K := fun t ht => by
  obtain ⟨x, hx, rfl⟩ := List.mem_map.1 ht
  exact Zfc (ho x (by rw [hAB]; simp [hx])) hK.1
 have hAK : A.length * (K + 1) ≤ 1000 * (K + 1) := Nat.mul_le_mul_right _ oM
 have hA2 := qnf_len (A.map QE.t)
 rw [List.length_map] at hA2
 have cp := put_p (p := qnf (A.map QE.t)) (e := e) (K := 1 + 1000 * (K + 1)) (fun t ht => (qnf_ht hK.1 hoA t ht).mono (by rw [List.length_map]; omega)) (isV_mono (ho e (by rw [hAB]; simp)) oM) oM oM
 rw [show qput (qnf (A.map QE.t)) e.t = qnf ((A ++ [e]).map QE.t) by unfold qnf; rw [List.map_append, List.foldl_append]; rfl] at cp
 clear hAB hoA ho
 obtain ⟨ea, eb, ec, g, d, g', d', eq⟩ := e
 have hget : X[((A.length : Nat) : Int).toNat]? = some (.agg [iV ea, iV eb, iV ec, .p (.bool g), .sl d, .p (.bool g'), .sl d']) := hget
 have cp : PC Tryz.prog 80 [.sl (PL (qnf (A.map QE.t))), .agg [iV ea, iV eb, iV ec, .p (.bool g), .sl d, .p (.bool g'), .sl d']] (.sl (PL (qnf ((A ++ [(⟨ea, eb, ec, g, d, g', d', eq⟩ : QE)]).map QE.t)))) := cp
 refine goA ?_
 refine ixG hget ?_
 refine clG cp ?_
 rw [hnx]
 exact Zab (k := B.length) (s' := mkS [(0, .v (.sl X)), (3, .v (.sl (PL (qnf ((A ++ [(⟨ea, eb, ec, g, d, g', d', eq⟩ : QE)]).map QE.t))))), (4, .v (iV ((A ++ [(⟨ea, eb, ec, g, d, g', d', eq⟩ : QE)]).length : Nat)))] [] 18 true) hlB entA ⟨A ++ [⟨ea, eb, ec, g, d, g', d', eq⟩], B, hAB2, rfl, rfl⟩
theorem arr_s3 : ArrT Tryz.prog 90 3 2 := arrT_of (by kernel_rfl)
end Ab
