/- What the statement on series looks at; Serre's derivative of a series, in the program and in the document: walked. -/
import Derived.Test.YtgkhcpppdadicaaGreatDoorQD
import Derived.Test.YtgkhcpppdadicaaGreatDoorLx
import Derived.Test.YtgkhcpppdadicaaGreatDoorQsM
set_option linter.all false
namespace Ab
open Go Go.RowKit Go.Proofs Hp
set_option maxRecDepth 100000
set_option maxHeartbeats 2000000 in
theorem qss_core {s t u v w y k : Int} {es A D E W Z R : List AV} {f : Rat} (hk : 0 ≤ k ∧ k ≤ 60) (hn : PC Tryz.prog 47 [serA s es] (.tup [serA t A, iV 0])) (hth : PC Tryz.prog 14 [serA t A] (.tup [serA u D, iV 0])) (he : PC Tryz.prog 31 [iV 2, iV 1000] (.tup [serA 0 E, iV 0])) (hm : PC Tryz.prog 12 [serA 0 E, serA t A] (.tup [serA v W, iV 0]))
  (hf : PC Tryz.prog 46 [iV k, iV 12] (encQ f)) (hs : PC Tryz.prog 48 [encQ f, serA v W] (.tup [serA w Z, iV 0])) (hb : PC Tryz.prog 49 [serA u D, serA w Z] (.tup [serA y R, iV 0])) : PC Tryz.prog 17 [serA s es, iV k] (.tup [serA y R, iV 0]) := by
 have b1 : decide (k < 0) = false := decide_eq_false (by omega)
 have b2 : decide (k > 60) = false := decide_eq_false (by omega)
 refine pc_body2 true Tryz.func17 rfl rfl rfl (Nat.le_of_ble_eq_true rfl) (CellT.agg agg_ser) CellT.tmp ?_
 refine goA ?_
 refine evG ggA (ss_call (InB_of rfl) rfl rfl hn) ?_
 refine goA ?_
 refine evG ggA (ss_call (InB_of rfl) rfl rfl hth) ?_
 refine goA ?_
 refine evG ggA (ss_call (InB_of rfl) rfl rfl he) ?_
 refine goA ?_
 refine evG ggA (ss_call (InB_of rfl) rfl rfl hm) ?_
 refine goA ?_
 refine evG ggA (ss_call (InB_of rfl) rfl rfl hf) ?_
 refine goA ?_
 refine evG ggA (ss_call (InB_of rfl) rfl rfl hs) ?_
 refine goA ?_
 refine evG ggA (ss_call (InB_of rfl) rfl rfl hb) ?_
 refine goA ?_
 exact rfl
end Ab
