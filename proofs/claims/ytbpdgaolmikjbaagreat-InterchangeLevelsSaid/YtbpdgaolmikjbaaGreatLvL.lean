/- The statement InterchangeLevels, as a contract. -/
import Derived.Test.YtbpdgaolmikjbaaGreatPl
set_option linter.all false
namespace Ab
open Go Go.RowKit Go.Proofs Hp
set_option maxRecDepth 100000
set_option maxHeartbeats 4000000

def zR : BR := ⟨⟨false, []⟩, ⟨false, []⟩⟩
def leafJ : PX := .mk 7 [] zR ByteArray.empty []
def wideX (n : Nat) : PX := .mk 10 [] zR ByteArray.empty (List.replicate n leafJ)
def deepX : Nat → PX
  | 0 => .mk 6 [] zR ByteArray.empty []
  | n + 1 => .mk 17 [] zR ByteArray.empty [deepX n]
theorem zR_ok : zR.ok := ⟨⟨fun d h => (by cases h), by decide⟩, ⟨fun d h => (by cases h), by decide⟩⟩
theorem node_ok {op : Int} (ho : I64 op) {gs : List PX} (h : ∀ x, x ∈ gs → x.ok) (hn : gs.length ≤ 1000000000) : (PX.mk op [] zR ByteArray.empty gs).ok :=
  ⟨ho, ⟨fun n h => (by cases h), by decide⟩, zR_ok, by decide, (PX.oks_iff gs).2 h, hn⟩
theorem leafJ_ok : leafJ.ok := node_ok (by unfold I64; omega) (fun x h => (by cases h)) (by decide)
theorem wideX_ok {n : Nat} (h : n ≤ 1200) : (wideX n).ok := node_ok (by unfold I64; omega) (fun x hx => by rw [List.eq_of_mem_replicate hx]; exact leafJ_ok) (by rw [List.length_replicate]; omega)
theorem deepX_ok : ∀ n, (deepX n).ok
  | 0 => node_ok (by unfold I64; omega) (fun x h => (by cases h)) (by decide)
  | n + 1 => node_ok (by unfold I64; omega) (fun x hx => by rw [List.mem_singleton] at hx; subst hx; exact deepX_ok n) (Nat.le_of_ble_eq_true rfl)
theorem fits_leaf : ∀ (n m : Nat), fits (List.replicate n leafJ) 99 m = if n ≤ m then some (m - n) else none
  | 0, m => by rw [List.replicate_zero, fits, if_pos (Nat.zero_le _)]; rfl
  | n + 1, m => by
    have e : fit leafJ 99 m = if m = 0 then none else some (m - 1) := by
      unfold leafJ
      rw [fit]
      by_cases h : m = 0
      · rw [if_pos (.inr h), if_pos h]
      · rw [if_neg (by omega), if_neg h]; rfl
    rw [List.replicate_succ, fits, e]
    by_cases h : m = 0
    · rw [if_pos h, if_neg (by omega)]
    · rw [if_neg h]
      show fits (List.replicate n leafJ) 99 (m - 1) = _
      rw [fits_leaf n (m - 1)]
      by_cases h2 : n + 1 ≤ m
      · rw [if_pos (by omega), if_pos h2]; congr 1; omega
      · rw [if_neg (by omega), if_neg h2]
theorem fit_wide (n : Nat) : fitB (wideX n) = decide (n + 1 ≤ 1000) := by
  unfold fitB wideX
  rw [fit, if_neg (by omega), fits_leaf]
  by_cases h : n ≤ 999
  · rw [if_pos h, decide_eq_true (by omega)]; rfl
  · rw [if_neg h, decide_eq_false (by omega)]; rfl
theorem fit_deep' : ∀ (n L m : Nat), L ≤ m → fit (deepX n) L m = if n < L then some (m - n - 1) else none
  | 0, L, m, h => by
    rw [deepX, fit]
    by_cases h0 : L = 0
    · rw [if_pos (.inl h0), if_neg (by omega)]
    · rw [if_neg (by omega), if_pos (by omega)]; rfl
  | n + 1, L, m, h => by
    rw [deepX, fit]
    by_cases h0 : L = 0
    · rw [if_pos (.inl h0), if_neg (by omega)]
    · rw [if_neg (by omega), fits, fit_deep' n (L - 1) (m - 1) (by omega)]
      by_cases h1 : n < L - 1
      · rw [if_pos h1, if_pos (by omega)]
        show some _ = some _
        congr 1; omega
      · rw [if_neg h1, if_neg (by omega)]
theorem fit_deep (n : Nat) : fitB (deepX n) = decide (n + 1 ≤ 100) := by
  unfold fitB
  rw [fit_deep' n 100 1000 (by decide)]
  by_cases h : n < 100
  · rw [if_pos h, decide_eq_true (by omega)]; rfl
  · rw [if_neg h, decide_eq_false (by omega)]; rfl
theorem node_len {op : Int} (ho : I64 op) (gs : List PX) (hn : gs.length ≤ 1000000000) : (eX (.mk op [] zR.can ByteArray.empty gs)).length ≤ 45 + (gs.flatMap eX).length := by
  rw [eX_mk]
  simp only [List.length_append]
  have h1 := eI_10 ho
  have h2 := eR_can zR_ok
  have h3 : (eT ByteArray.empty).length ≤ 5 := eT_len _ (by decide)
  have h4 : (eL eI ([] : List Int)).length ≤ 5 := by
    show (eN 0 ++ []).length ≤ 5
    rw [List.append_nil]; exact eN_5 (by decide)
  have h5 : (eL eX gs).length ≤ 5 + (gs.flatMap eX).length := by
    unfold eL
    rw [List.length_append]
    have := eN_5 (n := gs.length) (by omega)
    omega
  have h6 : zR.n.ds.length + zR.d.ds.length = 0 := rfl
  omega
theorem leaf_len : (eX leafJ.can).length ≤ 45 := by
  have := node_len (op := 7) (by unfold I64; omega) [] (by decide)
  exact this
theorem rep_flat (n : Nat) (x : PX) {k : Nat} (h : (eX x).length ≤ k) : ((List.replicate n x).flatMap eX).length ≤ n * k := by
  induction n with
  | zero => simp
  | succ n ih => rw [List.replicate_succ, List.flatMap_cons, List.length_append, Nat.succ_mul]; omega
theorem wide_len {n : Nat} (h : n ≤ 1200) : (eX (wideX n).can).length ≤ 60000 := by
  have e : (wideX n).can = .mk 10 [] zR.can ByteArray.empty (List.replicate n leafJ.can) := by
    unfold wideX
    rw [PX.can, PX.cans_map, List.map_replicate]
  rw [e]
  have h1 := node_len (op := 10) (by unfold I64; omega) (List.replicate n leafJ.can) (by rw [List.length_replicate]; omega)
  have h2 := rep_flat n leafJ.can leaf_len
  omega
theorem deep_len : ∀ n, (eX (deepX n).can).length ≤ 45 * (n + 1)
  | 0 => node_len (op := 6) (by unfold I64; omega) [] (by decide)
  | n + 1 => by
    have e : (deepX (n + 1)).can = .mk 17 [] zR.can ByteArray.empty [(deepX n).can] := by
      rw [deepX, PX.can, PX.cans_map]; rfl
    rw [e]
    have h1 := node_len (op := 17) (by unfold I64; omega) [(deepX n).can] (Nat.le_of_ble_eq_true rfl)
    have h2 := deep_len n
    have h3 : ([(deepX n).can].flatMap eX).length = (eX (deepX n).can).length := by simp
    omega
def pkF (e : PX) : PP := ⟨[], [], [⟨⟨#[102]⟩, e⟩], [], [], []⟩
theorem pkF_ok {e : PX} (h : e.ok) : (pkF e).ok := by
  refine ⟨⟨fun _ h => (by cases h), (Nat.le_of_ble_eq_true rfl)⟩, ⟨fun _ h => (by cases h), (Nat.le_of_ble_eq_true rfl)⟩, ⟨fun s hs => ?_, (Nat.le_of_ble_eq_true rfl)⟩, ⟨fun _ h => (by cases h), (Nat.le_of_ble_eq_true rfl)⟩, ⟨fun _ h => (by cases h), (Nat.le_of_ble_eq_true rfl)⟩, fun _ h => (by cases h), (Nat.le_of_ble_eq_true rfl)⟩
  have hs : s ∈ [(⟨⟨#[102]⟩, e⟩ : PB)] := hs
  rw [List.mem_singleton] at hs
  subst hs
  exact ⟨(Nat.le_of_ble_eq_true rfl), h⟩
theorem pkF_can (e : PX) : (pkF e).can = pkF e.can := rfl
theorem pkF_few (e : PX) : fewB (pkF e) = fitB e := by
  show (true && ((fitB e) && true)) = fitB e
  simp
theorem pkF_len {e : PX} {k : Nat} (h : (eX e).length ≤ k) : (eP (pkF e)).length ≤ 100 + k := by
  have n0 : (eN 0).length ≤ 5 := eN_5 (by decide)
  have n1 : (eN 1).length ≤ 5 := eN_5 (by decide)
  have ht : (eT (⟨#[102]⟩ : ByteArray)).length ≤ 6 := eT_len _ (by decide)
  show ((eN 0 ++ []) ++ ((eN 0 ++ []) ++ ((eN 1 ++ ((eT (⟨#[102]⟩ : ByteArray) ++ eX e) ++ [])) ++ ((eN 0 ++ []) ++ ((eN 0 ++ []) ++ (eN 0 ++ [])))))).length ≤ _
  simp only [List.length_append, List.length_nil]
  omega
def xTV : PX → List TV
  | .mk op ns c nm gs => [.v (iV op), .v (.sl (ns.map iV)), .v (boV c.n.g), .v (.sl (c.n.ds.map u32)), .v (boV c.d.g), .v (.sl (c.d.ds.map u32)), .v (tV nm), .v (.sl (gs.map PX.av))]
theorem levels_p (n : Int) (w : Bool) (hlo : -9223372036854775808 ≤ n) (hhi : n ≤ 9223372036854775807) : PC Tryz.prog 9 [iV n, boV w] (boV true) := by
  have ca := awake_p
  by_cases hneg : n < 0
  · have t0 : decide (n < 0) = true := decide_eq_true hneg
    refine pc_body1 true Tryz.func9 rfl rfl rfl (Nat.le_of_ble_eq_true rfl) CellT.tmp ?_
    refine goJ ?_
    refine evG ggA (ss_call (InB_of rfl) rfl rfl ca) ?_
    refine goJ ?_
    exact rfl
  have t0 : decide (n < 0) = false := decide_eq_false hneg
  by_cases hbig : n > 1200
  · have t1 : decide (n > 1200) = true := decide_eq_true hbig
    refine pc_body1 true Tryz.func9 rfl rfl rfl (Nat.le_of_ble_eq_true rfl) CellT.tmp ?_
    refine goJ ?_
    refine evG ggA (ss_call (InB_of rfl) rfl rfl ca) ?_
    refine goJ ?_
    exact rfl
  have t1 : decide (n > 1200) = false := decide_eq_false hbig
  obtain ⟨k, rfl⟩ : ∃ k : Nat, n = (k : Int) := ⟨n.toNat, by omega⟩
  have hk : k ≤ 1200 := by omega
  obtain ⟨e, he, hok, hlen, hfit⟩ : ∃ e : PX, e = (if w then wideX k else deepX k) ∧ e.ok ∧ (eX e.can).length ≤ 70000 ∧ fitB e = (if w then decide (k + 1 ≤ 1000) else decide (k + 1 ≤ 100)) := by
    cases w
    · exact ⟨_, rfl, deepX_ok k, by have := deep_len k; show (eX (deepX k).can).length ≤ _; omega, fit_deep k⟩
    · exact ⟨_, rfl, wideX_ok hk, by have := wide_len hk; show (eX (wideX k).can).length ≤ _; omega, fit_wide k⟩
  have hpl := pkF_len (e := e.can) hlen
  have hbn : (pkF e).binds.length ≤ 1000000000 := by show (1 : Nat) ≤ _; omega
  have hpo := pkF_ok hok
  have hco : (pkF e).can.ok := PP.can_ok hpo
  have hcc := PP.can_can (pkF e)
  have hcf : fewB (pkF e).can = fitB e := by rw [fewB_can, pkF_few]
  have hef := pkF_few e
  have cC := refCanonical_p hpo
  have cS := same_r hco
  refine pc_body1 true Tryz.func9 rfl rfl rfl (Nat.le_of_ble_eq_true rfl) CellT.tmp ?_
  refine r1A ?_
  refine T.seq ?_
  refine r1A ?_
  refine T.condF rfl (by first | rfl | assumption) ?_
  refine T.skip ?_
  refine seqQ_n ?_
  refine r1A ?_
  refine T.seqI (fun s1 => s1 = mkS [(0, .v (iV k)), (1, .v (boV w)), (5, .ptr 5 0)] [(5, .var (xTV e))] 96 true) ?_ ?_
  · clear cC cS hcf hef hcc hco hpo hfit hlen hpl hbn hok ca
    refine r1A ?_
    refine T.cond rfl (fun hw => ?_) (fun hw => ?_)
    · have hw : w = true := hw
      subst hw
      have he : e = wideX k := he
      refine T.seq ?_
      refine T.region ?_
      refine evG ggA (ss_build_raw (InB_of rfl) (build_tab rfl) rfl rfl rfl) ?_
      refine goJ ?_
      refine T.loop (fun N s1 => ∃ i : Nat, N = k - i ∧ i ≤ k ∧ s1 = mkS [(0, .v (iV k)), (1, .v (boV true)), (5, .ptr 5 0), (6, .v (iV i))] [(5, .var [.v (iV 10), .v (.sl []), .v (boV false), .v (.sl []), .v (boV false), .v (.sl []), .v (tV ByteArray.empty), .own 100 i]), (100, .lst 8 59 (List.replicate i leafJ.av))] 96 true) k
        (s' := mkS [(0, .v (iV k)), (1, .v (boV true)), (5, .ptr 5 0), (6, .v (iV ((0 : Nat) : Int)))] [(5, .var [.v (iV 10), .v (.sl []), .v (boV false), .v (.sl []), .v (boV false), .v (.sl []), .v (tV ByteArray.empty), .own 100 0]), (100, .lst 8 59 [])] 96 true) (by exact entA) ⟨0, rfl, Nat.zero_le _, rfl⟩ ?_
      rintro _ _ ⟨i, rfl, hi, rfl⟩
      have hli : (List.replicate i leafJ.av).length = i := List.length_replicate ..
      by_cases hlt : i < k
      · have d1 : decide ((i : Int) < (k : Int)) = true := decide_eq_true (by omega)
        have hs : List.replicate (i + 1) leafJ.av = List.replicate i leafJ.av ++ [leafJ.av] := List.replicate_succ' ..
        generalize List.replicate i leafJ.av = Q at *
        refine goJ ?_
        refine evG ggA (ss_bslice (InB_of rfl) (make_tab rfl) rfl rfl rfl rfl (one_ok rfl rfl) (Nat.le_of_ble_eq_true rfl)) ?_
        refine evG ggA (ss_snocX (InB_of rfl) (make_tab rfl) rfl rfl hli rfl rfl (by decide) rfl (by omega) (Nat.le_of_ble_eq_true rfl) rfl) ?_
        refine goJ ?_
        exact loopQ_intro (k := k - (i + 1)) (s' := mkS [(0, .v (iV k)), (1, .v (boV true)), (5, .ptr 5 0), (6, .v (iV ((i : Int) + 1)))] [(5, .var [.v (iV 10), .v (.sl []), .v (boV false), .v (.sl []), .v (boV false), .v (.sl []), .v (tV ByteArray.empty), .own 100 (i + 1)]), (100, .lst 8 59 (Q ++ [_]))] 96 true) (by omega) (by exact entA) ⟨i + 1, rfl, hlt, by rw [hs]; rfl⟩
      · obtain rfl : i = k := by omega
        have d1 : decide ((i : Int) < (i : Int)) = false := decide_eq_false (by omega)
        refine goJ ?_
        exact midQ_intro (s' := mkS [(0, .v (iV i)), (1, .v (boV true)), (5, .ptr 5 0)] [(5, .var [.v (iV 10), .v (.sl []), .v (boV false), .v (.sl []), .v (boV false), .v (.sl []), .v (tV ByteArray.empty), .v (.sl (List.replicate i leafJ.av))])] 96 true) (by exact entA) (by
          have e : (List.replicate i leafJ).map PX.av = List.replicate i leafJ.av := List.map_replicate
          rw [he, ← e]; rfl)
    · have hw : w = false := hw
      subst hw
      have he : e = deepX k := he
      refine goJ ?_
      refine T.loop (fun N s1 => ∃ i : Nat, N = k - i ∧ i ≤ k ∧ s1 = mkS [(0, .v (iV k)), (1, .v (boV false)), (5, .ptr 5 0), (7, .v (iV i))] [(5, .var (xTV (deepX i)))] 96 true) k
        (s' := mkS [(0, .v (iV k)), (1, .v (boV false)), (5, .ptr 5 0), (7, .v (iV ((0 : Nat) : Int)))] [(5, .var [.v (iV 6), .v (.sl []), .v (boV false), .v (.sl []), .v (boV false), .v (.sl []), .v (tV ByteArray.empty), .v (.sl [])])] 96 true) (by exact entA) ⟨0, rfl, Nat.zero_le _, rfl⟩ ?_
      rintro _ _ ⟨i, rfl, hi, rfl⟩
      by_cases hlt : i < k
      · have d1 : decide ((i : Int) < (k : Int)) = true := decide_eq_true (by omega)
        have hX : deepX (i + 1) = .mk 17 [] zR ByteArray.empty [deepX i] := rfl
        generalize deepX i = x at *
        obtain ⟨op, ns, ⟨⟨ga, da⟩, ⟨gb, db⟩⟩, nm, gs⟩ := x
        show T _ _ _ (mkS [(0, .v (iV k)), (1, .v (boV false)), (5, .ptr 5 0), (7, .v (iV i))] [(5, .var [.v (iV op), .v (.sl (ns.map iV)), .v (boV ga), .v (.sl (da.map u32)), .v (boV gb), .v (.sl (db.map u32)), .v (tV nm), .v (.sl (gs.map PX.av))])] 96 true) _
        refine goJ ?_
        refine evG ggA (ss_bslice (InB_of rfl) (make_tab rfl) rfl rfl rfl rfl (one_ok rfl rfl) (Nat.le_of_ble_eq_true rfl)) ?_
        refine goJ ?_
        exact loopQ_intro (k := k - (i + 1)) (s' := mkS [(0, .v (iV k)), (1, .v (boV false)), (5, .ptr 5 0), (7, .v (iV ((i : Int) + 1)))] [(5, .var [.v (iV 17), .v (.sl []), .v (boV false), .v (.sl []), .v (boV false), .v (.sl []), .v (tV ByteArray.empty), .v (.sl [.agg [iV op, .sl (ns.map iV), boV ga, .sl (da.map u32), boV gb, .sl (db.map u32), tV nm, .sl (gs.map PX.av)]])])] 96 true) (by omega) (by exact entA) ⟨i + 1, rfl, hlt, by
          rw [hX]
          show mkS _ _ _ _ = mkS _ [(5, .var [_, _, _, _, _, _, _, .v (.sl [PX.av (.mk op ns ⟨⟨ga, da⟩, ⟨gb, db⟩⟩ nm gs)])])] _ _
          rw [px_av]; rfl⟩
      · obtain rfl : i = k := by omega
        have d1 : decide ((i : Int) < (i : Int)) = false := decide_eq_false (by omega)
        rw [← he]
        clear he
        obtain ⟨op, ns, ⟨⟨ga, da⟩, ⟨gb, db⟩⟩, nm, gs⟩ := e
        show T _ _ _ (mkS [(0, .v (iV i)), (1, .v (boV false)), (5, .ptr 5 0), (7, .v (iV i))] [(5, .var [.v (iV op), .v (.sl (ns.map iV)), .v (boV ga), .v (.sl (da.map u32)), .v (boV gb), .v (.sl (db.map u32)), .v (tV nm), .v (.sl (gs.map PX.av))])] 96 true) _
        refine goJ ?_
        exact midQ_intro (s' := mkS [(0, .v (iV i)), (1, .v (boV false)), (5, .ptr 5 0)] [(5, .var [.v (iV op), .v (.sl (ns.map iV)), .v (boV ga), .v (.sl (da.map u32)), .v (boV gb), .v (.sl (db.map u32)), .v (tV nm), .v (.sl (gs.map PX.av))])] 96 true) (by exact entA) rfl
  rintro _ rfl
  clear he
  have eP0 : (pkF e).av = .agg [.sl [], .sl [], .sl [PB.av ⟨⟨#[102]⟩, e⟩], .sl [], .sl [], .sl []] := rfl
  have eC0 : (pkF e).can.av = .agg [.sl [], .sl [], .sl [PB.av ⟨⟨#[102]⟩, e.can⟩], .sl [], .sl [], .sl []] := rfl
  have hno : fitB e = false → PC Tryz.prog 12 [(pkF e).av] (.tup [.sl [], iV 7]) := fun h => encode_no hpo hbn (by rw [hef]; exact h)
  have hyes : fitB e = true → PC Tryz.prog 12 [(pkF e).av] (.tup [.sl ((encB (pkF e).can).map nV), iV 0]) ∧ PC Tryz.prog 17 [.sl ((encB (pkF e).can).map nV)] (.tup [(pkF e).can.av, iV 0]) := fun h => ⟨encode_p hpo hbn (by rw [hef]; exact h) (by rw [pkF_can]; omega), decode_back hco hcc (by rw [hcf]; exact h) (by rw [pkF_can]; omega)⟩
  rw [eP0] at hno hyes cC
  rw [eC0] at hyes cC cS
  clear eP0 eC0 hpo hbn hef hcf hcc hco hok hlen hpl
  generalize (encB (pkF e).can).map nV = X at *
  generalize PB.av ⟨⟨#[102]⟩, e.can⟩ = ec at *
  generalize fitB e = fe at *
  obtain ⟨op, ns, ⟨⟨ga, da⟩, ⟨gb, db⟩⟩, nm, gs⟩ := e
  have eB : PB.av ⟨⟨#[102]⟩, .mk op ns ⟨⟨ga, da⟩, ⟨gb, db⟩⟩ nm gs⟩ = .agg [tV ⟨#[102]⟩, iV op, .sl (ns.map iV), boV ga, .sl (da.map u32), boV gb, .sl (db.map u32), tV nm, .sl (gs.map PX.av)] := by
    show AV.agg (_ :: PX.cs _) = _
    rw [PX.cs, PX.avs_map]; rfl
  rw [eB] at hno hyes cC
  clear eB
  show T _ _ _ (mkS [(0, .v (iV k)), (1, .v (boV w)), (5, .ptr 5 0)] [(5, .var [.v (iV op), .v (.sl (ns.map iV)), .v (boV ga), .v (.sl (da.map u32)), .v (boV gb), .v (.sl (db.map u32)), .v (tV nm), .v (.sl (gs.map PX.av))])] 96 true) _
  cases w
  · by_cases hs : k + 1 ≤ 100
    · have d1 : decide ((k : Int) + 1 > 100) = false := decide_eq_false (by omega)
      obtain ⟨cE, cD⟩ := hyes (by rw [hfit]; exact decide_eq_true hs)
      refine goJ ?_
      refine evG ggA (ss_bslice (InB_of rfl) (make_tab rfl) rfl rfl rfl rfl (one_ok rfl rfl) (Nat.le_of_ble_eq_true rfl)) ?_
      refine goJ ?_
      refine evG ggA (ss_call (InB_of rfl) rfl rfl cE) ?_
      refine goJ ?_
      refine evG ggA (ss_call (InB_of rfl) rfl rfl cD) ?_
      refine goJ ?_
      refine T.drawF mixed ?_
      refine goJ ?_
      refine evG ggA (ss_call (InB_of rfl) rfl rfl cC) ?_
      refine evG ggA (ss_call (InB_of rfl) rfl rfl cS) ?_
      refine goJ ?_
      refine evG ggA (ss_call (InB_of rfl) rfl rfl ca) ?_
      refine goJ ?_
      refine ⟨by kernel_rfl, ?_⟩
      refine goJ ?_
      exact rfl
    · have d1 : decide ((k : Int) + 1 > 100) = true := decide_eq_true (by omega)
      have cE := hno (by rw [hfit]; exact decide_eq_false hs)
      refine goJ ?_
      refine evG ggA (ss_bslice (InB_of rfl) (make_tab rfl) rfl rfl rfl rfl (one_ok rfl rfl) (Nat.le_of_ble_eq_true rfl)) ?_
      refine goJ ?_
      refine evG ggA (ss_call (InB_of rfl) rfl rfl cE) ?_
      refine goJ ?_
      refine evG ggA (ss_call (InB_of rfl) rfl rfl ca) ?_
      refine goJ ?_
      exact rfl
  · by_cases hs : k + 1 ≤ 1000
    · have d1 : decide ((k : Int) + 1 > 1000) = false := decide_eq_false (by omega)
      obtain ⟨cE, cD⟩ := hyes (by rw [hfit]; exact decide_eq_true hs)
      refine goJ ?_
      refine evG ggA (ss_bslice (InB_of rfl) (make_tab rfl) rfl rfl rfl rfl (one_ok rfl rfl) (Nat.le_of_ble_eq_true rfl)) ?_
      refine goJ ?_
      refine evG ggA (ss_call (InB_of rfl) rfl rfl cE) ?_
      refine goJ ?_
      refine evG ggA (ss_call (InB_of rfl) rfl rfl cD) ?_
      refine goJ ?_
      refine T.drawF mixed ?_
      refine goJ ?_
      refine evG ggA (ss_call (InB_of rfl) rfl rfl cC) ?_
      refine evG ggA (ss_call (InB_of rfl) rfl rfl cS) ?_
      refine goJ ?_
      refine evG ggA (ss_call (InB_of rfl) rfl rfl ca) ?_
      refine goJ ?_
      refine ⟨by kernel_rfl, ?_⟩
      refine goJ ?_
      exact rfl
    · have d1 : decide ((k : Int) + 1 > 1000) = true := decide_eq_true (by omega)
      have cE := hno (by rw [hfit]; exact decide_eq_false hs)
      refine goJ ?_
      refine evG ggA (ss_bslice (InB_of rfl) (make_tab rfl) rfl rfl rfl rfl (one_ok rfl rfl) (Nat.le_of_ble_eq_true rfl)) ?_
      refine goJ ?_
      refine evG ggA (ss_call (InB_of rfl) rfl rfl cE) ?_
      refine goJ ?_
      refine evG ggA (ss_call (InB_of rfl) rfl rfl ca) ?_
      refine goJ ?_
      exact rfl
end Ab
