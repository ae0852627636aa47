/- The statement InterchangeOne, as a contract. -/
import Derived.Test.YtbpdgaolmikjbaaGreatAwk
set_option linter.all false
namespace Ab
open Go Go.RowKit Go.Proofs Hp
set_option maxRecDepth 100000
set_option maxHeartbeats 4000000

theorem nV_bV (l : List Nat) : l.map nV = (l.map fun n : Nat => (n : Int)).map bV := by rw [List.map_map]; rfl
theorem one_p {l : List Nat} (hl : By l) : PC Tryz.prog 6 [.sl (l.map nV)] (boV true) := by
  have ca := awake_p
  have eml : (l.map nV).length = l.length := List.length_map ..
  by_cases hn : l.length ≤ 20000
  · have t0 : decide (((l.map nV).length : Int) > 20000) = false := decide_eq_false (by omega)
    obtain ⟨p, e, cD, hp, hc, -⟩ := decode_ex hl (by omega)
    rcases hc with ⟨rfl, hf, he, hpc, hsz⟩ | ⟨he, rfl⟩
    · have hb := eP_binds p
      rw [hpc] at hsz
      have cE := encode_p hp (by omega) hf (by rw [hpc]; omega)
      rw [he] at cE
      have cC := canonical_p hp
      rw [hpc] at cC
      have cS := same_r hp
      obtain ⟨sr, et, df, ce, sp, ma⟩ := p
      clear he hpc hp hf hb hsz
      rw [nV_bV] at *
      generalize (l.map fun n : Nat => (n : Int)) = L at *
      refine pc_body1 true Tryz.func6 rfl rfl rfl (Nat.le_of_ble_eq_true rfl) CellT.tmp ?_
      refine goJ ?_
      refine evG ggA (ss_call (InB_of rfl) rfl rfl cD) ?_
      refine goJ ?_
      refine evG ggA (ss_call (InB_of rfl) rfl rfl cE) ?_
      refine goJ ?_
      refine T.drawF mixed ?_
      refine goJ ?_
      refine evG ggA (ss_bytes_str (l := L) (InB_of rfl) und_byt' und_u8 und_str' rfl) ?_
      refine goJ ?_
      refine evG ggA (ss_bytes_str (l := L) (InB_of rfl) und_byt' und_u8 und_str' rfl) ?_
      refine evG ggA (ss_cmp_str (InB_of rfl) rfl rfl (congrArg some (str_self _))) ?_
      refine goJ ?_
      refine evG ggA (ss_call (InB_of rfl) rfl rfl cC) ?_
      refine evG ggA (ss_call (InB_of rfl) rfl rfl cS) ?_
      refine goJ ?_
      refine evG ggA (ss_call (InB_of rfl) rfl rfl ca) ?_
      refine goJ ?_
      refine ⟨by kernel_rfl, ?_⟩
      refine goJ ?_
      exact rfl
    · have cS := same_r ZP_ok
      have t1 : (e != 0) = true := by rcases he with rfl | rfl <;> rfl
      clear he
      refine pc_body1 true Tryz.func6 rfl rfl rfl (Nat.le_of_ble_eq_true rfl) CellT.tmp ?_
      refine goJ ?_
      refine evG ggA (ss_call (InB_of rfl) rfl rfl cD) ?_
      refine goJ ?_
      refine evG ggA (ss_call (InB_of rfl) rfl rfl cS) ?_
      refine goJ ?_
      refine evG ggA (ss_call (InB_of rfl) rfl rfl ca) ?_
      refine goJ ?_
      exact rfl
  · have t0 : decide (((l.map nV).length : Int) > 20000) = true := decide_eq_true (by omega)
    refine pc_body1 true Tryz.func6 rfl rfl rfl (Nat.le_of_ble_eq_true rfl) CellT.tmp ?_
    refine goJ ?_
    refine evG ggA (ss_call (InB_of rfl) rfl rfl ca) ?_
    refine goJ ?_
    exact rfl
end Ab
