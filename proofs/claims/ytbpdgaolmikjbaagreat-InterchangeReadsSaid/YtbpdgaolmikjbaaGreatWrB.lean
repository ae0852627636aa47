/- The writer's lists and structs (printed by tools/gen_wr.py). -/
import Derived.Test.YtbpdgaolmikjbaaGreatWrA
set_option linter.all false
namespace Ab
open Go Go.RowKit Go.Proofs
set_option maxRecDepth 100000
set_option maxHeartbeats 2000000
theorem w_lRat (l : List Nat) {xs : List BR} (hx : ∀ x, x ∈ xs → ∀ l : List Nat, l.length + (eR x).length ≤ 16777216 → PCM true Tryz.prog 95 [.ptr 100 0, .v (BR.av x)] (RW l) true (.v (.tup [])) (RW (l ++ eR x))) (hm : xs.length ≤ 1000000000) (h : l.length + (eL eR xs).length ≤ 16777216) : PCM true Tryz.prog 94 [.ptr 100 0, .v (.sl (xs.map BR.av)), .bm 95 100 0] (RW l) true (.v (.tup [])) (RW (l ++ eL eR xs)) := by
 have hlen : (eL eR xs).length = (eN xs.length).length + (xs.flatMap eR).length := by unfold eL; rw [List.length_append]
 have c := Zc4 l (n := xs.length) (by omega) (by omega)
 have eml : (xs.map BR.av).length = xs.length := List.length_map ..
 have e1 : IntKind.u64.wrap (((xs.map BR.av).length : Int)) = (xs.length : Int) := by rw [eml]; exact u64w (by omega) (by omega)
 refine Zbl Tryz.func94 rfl rfl rfl (Nat.le_of_ble_eq_true rfl) ?_
 generalize hE : eN xs.length = E at *
 have hB : eL eR xs = E ++ xs.flatMap eR := by unfold eL; rw [← hE]
 rw [hB]
 clear hB hE
 refine goI ?_
 refine evG ggA (Zag (Zaa rfl) Zdt Za0 rfl e1) ?_
 refine mcW [(100, 100), (101, 101)] c ?_
 refine goI ?_
 refine T.loop (fun N s1 => ∃ i : Nat, N = xs.length - i ∧ i ≤ xs.length ∧ s1 = mkP [(2, .bm 95 100 0), (13, .v (.sl (xs.map BR.av))), (14, .v (iV xs.length)), (15, .v (iV i))] (RW (l ++ E ++ (xs.take i).flatMap eR)) 23 true [100, 101]) xs.length
  (s' := mkP [(2, .bm 95 100 0), (13, .v (.sl (xs.map BR.av))), (14, .v (iV ((xs.map BR.av).length : Nat))), (15, .v (iV ((0 : Nat) : Int)))] (RW (l ++ E ++ [])) 23 true [100, 101]) (by rw [List.append_nil]; exact Zak) ⟨0, rfl, Nat.zero_le _, by rw [eml]; rfl⟩ ?_
 rintro _ _ ⟨i, rfl, hi, rfl⟩
 by_cases hlt : i < xs.length
 ·have d1 : decide ((i : Int) < (xs.length : Int)) = true := decide_eq_true (by omega)
  have hg : xs[i]? = some xs[i] := List.getElem?_eq_getElem hlt
  have hxi : (xs.map BR.av)[((i : Nat) : Int).toNat]? = some (BR.av xs[i]) := by rw [Int.toNat_natCast, List.getElem?_map, hg]; rfl
  have hfl := Zcn eR xs (i + 1)
  rw [Zat hg, List.length_append] at hfl
  have c2 := hx xs[i] (List.getElem_mem hlt) (l ++ E ++ (xs.take i).flatMap eR) (by rw [List.length_append, List.length_append]; omega)
  rw [List.append_assoc (l ++ E), ← Zat hg] at c2
  clear hg hfl
  generalize xs[i] = x at *
  obtain ⟨⟨g1, d1⟩, ⟨g2, d2⟩⟩ := x
  refine goI ?_
  refine evG ggA (Zab (Zaa rfl) (Zac rfl) rfl rfl (by omega) hxi rfl) ?_
  refine goI ?_
  refine evM (Zcd [(100, 100), (101, 101)] c2 rfl rfl rfl rfl rfl rfl rfl ⟨rfl, rfl, trivial⟩ ⟨.inl rfl, .inl rfl, trivial⟩ ?_)
  refine goI ?_
  exact Zad (k := xs.length - (i + 1)) (s' := mkP [(2, .bm 95 100 0), (13, .v (.sl (xs.map BR.av))), (14, .v (iV xs.length)), (15, .v (iV ((i : Int) + 1)))] (RW (l ++ E ++ (xs.take (i + 1)).flatMap eR)) 23 true [100, 101]) (by omega) (by exact Zak) ⟨i + 1, rfl, hlt, rfl⟩
 ·obtain rfl : i = xs.length := by omega
  have d1 : decide ((xs.length : Int) < (xs.length : Int)) = false := decide_eq_false (by omega)
  rw [List.take_length, List.append_assoc]
  refine goI ?_
  exact ⟨.inl rfl, by exact Zak⟩
theorem w_lInt (l : List Nat) {xs : List Int} (hx : ∀ x, x ∈ xs → ∀ l : List Nat, l.length + (eI x).length ≤ 16777216 → PCM true Tryz.prog 93 [.ptr 100 0, .v (iV x)] (RW l) true (.v (.tup [])) (RW (l ++ eI x))) (hm : xs.length ≤ 1000000000) (h : l.length + (eL eI xs).length ≤ 16777216) : PCM true Tryz.prog 96 [.ptr 100 0, .v (.sl (xs.map iV)), .bm 93 100 0] (RW l) true (.v (.tup [])) (RW (l ++ eL eI xs)) := by
 have hlen : (eL eI xs).length = (eN xs.length).length + (xs.flatMap eI).length := by unfold eL; rw [List.length_append]
 have c := Zc4 l (n := xs.length) (by omega) (by omega)
 have eml : (xs.map iV).length = xs.length := List.length_map ..
 have e1 : IntKind.u64.wrap (((xs.map iV).length : Int)) = (xs.length : Int) := by rw [eml]; exact u64w (by omega) (by omega)
 refine Zbl Tryz.func96 rfl rfl rfl (Nat.le_of_ble_eq_true rfl) ?_
 generalize hE : eN xs.length = E at *
 have hB : eL eI xs = E ++ xs.flatMap eI := by unfold eL; rw [← hE]
 rw [hB]
 clear hB hE
 refine goI ?_
 refine evG ggA (Zag (Zaa rfl) Zdt Za0 rfl e1) ?_
 refine mcW [(100, 100), (101, 101)] c ?_
 refine goI ?_
 refine T.loop (fun N s1 => ∃ i : Nat, N = xs.length - i ∧ i ≤ xs.length ∧ s1 = mkP [(2, .bm 93 100 0), (13, .v (.sl (xs.map iV))), (14, .v (iV xs.length)), (15, .v (iV i))] (RW (l ++ E ++ (xs.take i).flatMap eI)) 23 true [100, 101]) xs.length
  (s' := mkP [(2, .bm 93 100 0), (13, .v (.sl (xs.map iV))), (14, .v (iV ((xs.map iV).length : Nat))), (15, .v (iV ((0 : Nat) : Int)))] (RW (l ++ E ++ [])) 23 true [100, 101]) (by rw [List.append_nil]; exact Zak) ⟨0, rfl, Nat.zero_le _, by rw [eml]; rfl⟩ ?_
 rintro _ _ ⟨i, rfl, hi, rfl⟩
 by_cases hlt : i < xs.length
 ·have d1 : decide ((i : Int) < (xs.length : Int)) = true := decide_eq_true (by omega)
  have hg : xs[i]? = some xs[i] := List.getElem?_eq_getElem hlt
  have hxi : (xs.map iV)[((i : Nat) : Int).toNat]? = some (iV xs[i]) := by rw [Int.toNat_natCast, List.getElem?_map, hg]; rfl
  have hfl := Zcn eI xs (i + 1)
  rw [Zat hg, List.length_append] at hfl
  have c2 := hx xs[i] (List.getElem_mem hlt) (l ++ E ++ (xs.take i).flatMap eI) (by rw [List.length_append, List.length_append]; omega)
  rw [List.append_assoc (l ++ E), ← Zat hg] at c2
  clear hg hfl
  generalize xs[i] = x at *
  skip
  refine goI ?_
  refine evG ggA (Zab (Zaa rfl) (Zac rfl) rfl rfl (by omega) hxi rfl) ?_
  refine goI ?_
  refine evM (Zcd [(100, 100), (101, 101)] c2 rfl rfl rfl rfl rfl rfl rfl ⟨rfl, rfl, trivial⟩ ⟨.inl rfl, .inl rfl, trivial⟩ ?_)
  refine goI ?_
  exact Zad (k := xs.length - (i + 1)) (s' := mkP [(2, .bm 93 100 0), (13, .v (.sl (xs.map iV))), (14, .v (iV xs.length)), (15, .v (iV ((i : Int) + 1)))] (RW (l ++ E ++ (xs.take (i + 1)).flatMap eI)) 23 true [100, 101]) (by omega) (by exact Zak) ⟨i + 1, rfl, hlt, rfl⟩
 ·obtain rfl : i = xs.length := by omega
  have d1 : decide ((xs.length : Int) < (xs.length : Int)) = false := decide_eq_false (by omega)
  rw [List.take_length, List.append_assoc]
  refine goI ?_
  exact ⟨.inl rfl, by exact Zak⟩
theorem w_lExpr (l : List Nat) {xs : List PX} (hx : ∀ x, x ∈ xs → ∀ l : List Nat, l.length + (eX x).length ≤ 16777216 → PCM true Tryz.prog 98 [.ptr 100 0, .v (PX.av x)] (RW l) true (.v (.tup [])) (RW (l ++ eX x))) (hm : xs.length ≤ 1000000000) (h : l.length + (eL eX xs).length ≤ 16777216) : PCM true Tryz.prog 123 [.ptr 100 0, .v (.sl (xs.map PX.av)), .bm 98 100 0] (RW l) true (.v (.tup [])) (RW (l ++ eL eX xs)) := by
 have hlen : (eL eX xs).length = (eN xs.length).length + (xs.flatMap eX).length := by unfold eL; rw [List.length_append]
 have c := Zc4 l (n := xs.length) (by omega) (by omega)
 have eml : (xs.map PX.av).length = xs.length := List.length_map ..
 have e1 : IntKind.u64.wrap (((xs.map PX.av).length : Int)) = (xs.length : Int) := by rw [eml]; exact u64w (by omega) (by omega)
 refine Zbl Tryz.func123 rfl rfl rfl (Nat.le_of_ble_eq_true rfl) ?_
 generalize hE : eN xs.length = E at *
 have hB : eL eX xs = E ++ xs.flatMap eX := by unfold eL; rw [← hE]
 rw [hB]
 clear hB hE
 refine goI ?_
 refine evG ggA (Zag (Zaa rfl) Zdt Za0 rfl e1) ?_
 refine mcW [(100, 100), (101, 101)] c ?_
 refine goI ?_
 refine T.loop (fun N s1 => ∃ i : Nat, N = xs.length - i ∧ i ≤ xs.length ∧ s1 = mkP [(2, .bm 98 100 0), (13, .v (.sl (xs.map PX.av))), (14, .v (iV xs.length)), (15, .v (iV i))] (RW (l ++ E ++ (xs.take i).flatMap eX)) 23 true [100, 101]) xs.length
  (s' := mkP [(2, .bm 98 100 0), (13, .v (.sl (xs.map PX.av))), (14, .v (iV ((xs.map PX.av).length : Nat))), (15, .v (iV ((0 : Nat) : Int)))] (RW (l ++ E ++ [])) 23 true [100, 101]) (by rw [List.append_nil]; exact Zak) ⟨0, rfl, Nat.zero_le _, by rw [eml]; rfl⟩ ?_
 rintro _ _ ⟨i, rfl, hi, rfl⟩
 by_cases hlt : i < xs.length
 ·have d1 : decide ((i : Int) < (xs.length : Int)) = true := decide_eq_true (by omega)
  have hg : xs[i]? = some xs[i] := List.getElem?_eq_getElem hlt
  have hxi : (xs.map PX.av)[((i : Nat) : Int).toNat]? = some (PX.av xs[i]) := by rw [Int.toNat_natCast, List.getElem?_map, hg]; rfl
  have hfl := Zcn eX xs (i + 1)
  rw [Zat hg, List.length_append] at hfl
  have c2 := hx xs[i] (List.getElem_mem hlt) (l ++ E ++ (xs.take i).flatMap eX) (by rw [List.length_append, List.length_append]; omega)
  rw [List.append_assoc (l ++ E), ← Zat hg] at c2
  clear hg hfl
  generalize xs[i] = x at *
  obtain ⟨op, ns, ⟨⟨g1, d1⟩, ⟨g2, d2⟩⟩, nm, gs⟩ := x
  refine goI ?_
  refine evG ggA (Zab (Zaa rfl) (Zac rfl) rfl rfl (by omega) hxi rfl) ?_
  refine goI ?_
  refine evM (Zcd [(100, 100), (101, 101)] c2 rfl rfl rfl rfl rfl rfl rfl ⟨rfl, rfl, trivial⟩ ⟨.inl rfl, .inl rfl, trivial⟩ ?_)
  refine goI ?_
  exact Zad (k := xs.length - (i + 1)) (s' := mkP [(2, .bm 98 100 0), (13, .v (.sl (xs.map PX.av))), (14, .v (iV xs.length)), (15, .v (iV ((i : Int) + 1)))] (RW (l ++ E ++ (xs.take (i + 1)).flatMap eX)) 23 true [100, 101]) (by omega) (by exact Zak) ⟨i + 1, rfl, hlt, rfl⟩
 ·obtain rfl : i = xs.length := by omega
  have d1 : decide ((xs.length : Int) < (xs.length : Int)) = false := decide_eq_false (by omega)
  rw [List.take_length, List.append_assoc]
  refine goI ?_
  exact ⟨.inl rfl, by exact Zak⟩
theorem w_series (l : List Nat) {a : PS} (ha : a.ok) (h : l.length + (eS a).length ≤ 16777216) : PCM true Tryz.prog 28 [.ptr 100 0, .v a.av] (RW l) true (.v (.tup [])) (RW (l ++ eS a)) := by
 obtain ⟨f, cs⟩ := a
 obtain ⟨h1, h2, h3⟩ := ha
 have h1 : I64 f := h1
 have h2 : ∀ r, r ∈ cs → r.ok := h2
 have h3 : cs.length ≤ 1000000000 := h3
 have hE : l ++ eS ⟨f, cs⟩ = ((l ++ eI f) ++ eL eR cs) := by simp only [eS, List.append_assoc]
 have hl : l.length + ((eI f).length + (eL eR cs).length) ≤ 16777216 := by simp only [eS, List.length_append] at h; omega
 have c1 := Zgh l h1 (by first | omega | (simp only [List.length_append]; omega))
 have c2 := w_lRat (l ++ eI f) (fun x hx l h => w_rat l (h2 x hx) h) h3 (by first | omega | (simp only [List.length_append]; omega))
 rw [hE]
 clear hE h hl
 refine Zbl Tryz.func28 rfl rfl rfl (Nat.le_of_ble_eq_true rfl) ?_
 refine goI ?_
 refine mcW [(100, 100), (101, 101)] c1 ?_
 refine goI ?_
 refine mcW [(100, 100), (101, 101)] c2 ?_
 refine goI ?_
 exact ⟨.inl rfl, by exact Zak⟩
theorem w_eta (l : List Nat) {a : PE} (ha : a.ok) (h : l.length + (eE a).length ≤ 16777216) : PCM true Tryz.prog 30 [.ptr 100 0, .v a.av] (RW l) true (.v (.tup [])) (RW (l ++ eE a)) := by
 obtain ⟨f, cs⟩ := a
 obtain ⟨h1, h2, h3⟩ := ha
 have h1 : I64 f := h1
 have h2 : ∀ r, r ∈ cs → I64 r := h2
 have h3 : cs.length ≤ 1000000000 := h3
 have hE : l ++ eE ⟨f, cs⟩ = ((l ++ eI f) ++ eL eI cs) := by simp only [eE, List.append_assoc]
 have hl : l.length + ((eI f).length + (eL eI cs).length) ≤ 16777216 := by simp only [eE, List.length_append] at h; omega
 have c1 := Zgh l h1 (by first | omega | (simp only [List.length_append]; omega))
 have c2 := w_lInt (l ++ eI f) (fun x hx l h => Zgh l (h2 x hx) h) h3 (by first | omega | (simp only [List.length_append]; omega))
 rw [hE]
 clear hE h hl
 refine Zbl Tryz.func30 rfl rfl rfl (Nat.le_of_ble_eq_true rfl) ?_
 refine goI ?_
 refine mcW [(100, 100), (101, 101)] c1 ?_
 refine goI ?_
 refine mcW [(100, 100), (101, 101)] c2 ?_
 refine goI ?_
 exact ⟨.inl rfl, by exact Zak⟩
theorem w_matrix (l : List Nat) {a : PM} (ha : a.ok) (h : l.length + (eM a).length ≤ 16777216) : PCM true Tryz.prog 38 [.ptr 100 0, .v a.av] (RW l) true (.v (.tup [])) (RW (l ++ eM a)) := by
 obtain ⟨f, f2, cs⟩ := a
 obtain ⟨h1, h4, h2, h3⟩ := ha
 have h1 : I64 f := h1
 have h4 : I64 f2 := h4
 have h2 : ∀ r, r ∈ cs → r.ok := h2
 have h3 : cs.length ≤ 1000000000 := h3
 have hE : l ++ eM ⟨f, f2, cs⟩ = (((l ++ eI f) ++ eI f2) ++ eL eR cs) := by simp only [eM, List.append_assoc]
 have hl : l.length + ((eI f).length + (eI f2).length + (eL eR cs).length) ≤ 16777216 := by simp only [eM, List.length_append] at h; omega
 have c1 := Zgh l h1 (by first | omega | (simp only [List.length_append]; omega))
 have c2 := Zgh (l ++ eI f) h4 (by first | omega | (simp only [List.length_append]; omega))
 have c3 := w_lRat ((l ++ eI f) ++ eI f2) (fun x hx l h => w_rat l (h2 x hx) h) h3 (by first | omega | (simp only [List.length_append]; omega))
 rw [hE]
 clear hE h hl
 refine Zbl Tryz.func38 rfl rfl rfl (Nat.le_of_ble_eq_true rfl) ?_
 refine goI ?_
 refine mcW [(100, 100), (101, 101)] c1 ?_
 refine goI ?_
 refine mcW [(100, 100), (101, 101)] c2 ?_
 refine goI ?_
 refine mcW [(100, 100), (101, 101)] c3 ?_
 refine goI ?_
 exact ⟨.inl rfl, by exact Zak⟩
theorem w_expr' : ∀ (n : Nat) (a : PX), sizeOf a ≤ n → a.ok → ∀ l : List Nat, l.length + (eX a).length ≤ 16777216 → PCM true Tryz.prog 98 [.ptr 100 0, .v a.av] (RW l) true (.v (.tup [])) (RW (l ++ eX a)) := by
  intro n
  induction n with
  | zero => intro a hs; cases a; simp at hs
  | succ n ih =>
    rintro ⟨op, ns, c, nm, gs⟩ hs ha l h
    obtain ⟨h1, ⟨h2, h3⟩, h4, h5, h6, h7⟩ := ha
    have hgs : ∀ x, x ∈ gs → ∀ l : List Nat, l.length + (eX x).length ≤ 16777216 → PCM true Tryz.prog 98 [.ptr 100 0, .v x.av] (RW l) true (.v (.tup [])) (RW (l ++ eX x)) := fun x hx => ih x (by have := List.sizeOf_lt_of_mem hx; simp at hs; omega) ((PX.oks_iff gs).1 h6 x hx)
    have eA : eN gs.length ++ eXs gs = eL eX gs := by rw [eXs_map]; rfl
    have hE : l ++ eX (.mk op ns c nm gs) = l ++ eI op ++ eL eI ns ++ eR c ++ eT nm ++ eL eX gs := by simp only [eX, eA, List.append_assoc]
    have hl : l.length + ((eI op).length + (eL eI ns).length + (eR c).length + (eT nm).length + (eL eX gs).length) ≤ 16777216 := by
      have := congrArg List.length hE
      simp only [List.length_append] at this
      omega
    have c1 := Zgh l h1 (by omega)
    have c2 := w_lInt (l ++ eI op) (fun x hx l h => Zgh l (h2 x hx) h) h3 (by simp only [List.length_append]; omega)
    have c3 := w_rat (l ++ eI op ++ eL eI ns) h4 (by simp only [List.length_append]; omega)
    have c4 := w_text (l ++ eI op ++ eL eI ns ++ eR c) (s := nm) (by omega) (by simp only [List.length_append]; omega)
    have c5 := w_lExpr (l ++ eI op ++ eL eI ns ++ eR c ++ eT nm) hgs h7 (by simp only [List.length_append]; omega)
    rw [hE]
    have e6 : PX.av (.mk op ns c nm gs) = .agg (iV op :: .sl (ns.map iV) :: (c.cs ++ [tV nm, .sl (gs.map PX.av)])) := by
      show AV.agg (PX.cs _) = _
      rw [PX.cs, PX.avs_map]
    rw [e6]
    clear hE h hl eA hgs e6
    obtain ⟨⟨g1, d1⟩, ⟨g2, d2⟩⟩ := c
    refine Zbl Tryz.func98 rfl rfl rfl (Nat.le_of_ble_eq_true rfl) ?_
    refine goI ?_
    refine mcW [(100, 100), (101, 101)] c1 ?_
    refine goI ?_
    refine mcW [(100, 100), (101, 101)] c2 ?_
    refine goI ?_
    refine mcW [(100, 100), (101, 101)] c3 ?_
    refine goI ?_
    refine mcW [(100, 100), (101, 101)] c4 ?_
    refine goI ?_
    refine mcW [(100, 100), (101, 101)] c5 ?_
    refine goI ?_
    exact ⟨.inl rfl, by exact Zak⟩
theorem w_expr (l : List Nat) {a : PX} (ha : a.ok) (h : l.length + (eX a).length ≤ 16777216) : PCM true Tryz.prog 98 [.ptr 100 0, .v a.av] (RW l) true (.v (.tup [])) (RW (l ++ eX a)) := w_expr' _ a (Nat.le_refl _) ha l h
theorem w_binding (l : List Nat) {a : PB} (ha : a.ok) (h : l.length + (eD a).length ≤ 16777216) : PCM true Tryz.prog 32 [.ptr 100 0, .v a.av] (RW l) true (.v (.tup [])) (RW (l ++ eD a)) := by
 obtain ⟨nm, e⟩ := a
 obtain ⟨h1, h2⟩ := ha
 have h1 : nm.size ≤ 1000000000 := h1
 have h2 : e.ok := h2
 have hE : l ++ eD ⟨nm, e⟩ = ((l ++ eT nm) ++ eX e) := by simp only [eD, List.append_assoc]
 have hl : l.length + ((eT nm).length + (eX e).length) ≤ 16777216 := by simp only [eD, List.length_append] at h; omega
 have c1 := w_text l (s := nm) (by omega) (by first | omega | (simp only [List.length_append]; omega))
 have c2 := w_expr (l ++ eT nm) h2 (by first | omega | (simp only [List.length_append]; omega))
 rw [hE]
 clear hE h hl
 obtain ⟨op, ns, ⟨⟨g1, d1⟩, ⟨g2, d2⟩⟩, nx, gs⟩ := e
 refine Zbl Tryz.func32 rfl rfl rfl (Nat.le_of_ble_eq_true rfl) ?_
 refine goI ?_
 refine mcW [(100, 100), (101, 101)] c1 ?_
 refine goI ?_
 refine mcW [(100, 100), (101, 101)] c2 ?_
 refine goI ?_
 exact ⟨.inl rfl, by exact Zak⟩
theorem w_kind (l : List Nat) {a : PK} (ha : a.ok) (h : l.length + (eK a).length ≤ 16777216) : PCM true Tryz.prog 99 [.ptr 100 0, .v a.av] (RW l) true (.v (.tup [])) (RW (l ++ eK a)) := by
 obtain ⟨f1, f2, f3, f4, cu⟩ := a
 obtain ⟨h1, h2, h3, h4⟩ := ha
 have h1 : I64 f1 := h1
 have h2 : I64 f2 := h2
 have h3 : I64 f3 := h3
 have h4 : I64 f4 := h4
 have hE : l ++ eK ⟨f1, f2, f3, f4, cu⟩ = l ++ eI f1 ++ eI f2 ++ eI f3 ++ eI f4 ++ eN (if cu then 1 else 0) := by simp only [eK, List.append_assoc]
 have hl : l.length + ((eI f1).length + (eI f2).length + (eI f3).length + (eI f4).length + (eN (if cu then 1 else 0)).length) ≤ 16777216 := by simp only [eK, List.length_append] at h; omega
 have c1 := Zgh l h1 (by omega)
 have c2 := Zgh (l ++ eI f1) h2 (by simp only [List.length_append]; omega)
 have c3 := Zgh (l ++ eI f1 ++ eI f2) h3 (by simp only [List.length_append]; omega)
 have c4 := Zgh (l ++ eI f1 ++ eI f2 ++ eI f3) h4 (by simp only [List.length_append]; omega)
 have c5 := Zc4 (l ++ eI f1 ++ eI f2 ++ eI f3 ++ eI f4) (n := if cu then 1 else 0) (by split <;> omega) (by simp only [List.length_append]; omega)
 rw [hE]
 clear hE h hl
 refine Zbl Tryz.func99 rfl rfl rfl (Nat.le_of_ble_eq_true rfl) ?_
 refine goI ?_
 refine mcW [(100, 100), (101, 101)] c1 ?_
 refine goI ?_
 refine mcW [(100, 100), (101, 101)] c2 ?_
 refine goI ?_
 refine mcW [(100, 100), (101, 101)] c3 ?_
 refine goI ?_
 refine mcW [(100, 100), (101, 101)] c4 ?_
 refine goI ?_
 cases cu
 all_goals
  refine goI ?_
  refine mcW [(100, 100), (101, 101)] c5 ?_
  refine goI ?_
  exact ⟨.inl rfl, by exact Zak⟩
theorem w_lBind (l : List Nat) {xs : List PB} (hx : ∀ x, x ∈ xs → ∀ l : List Nat, l.length + (eD x).length ≤ 16777216 → PCM true Tryz.prog 32 [.ptr 100 0, .v (PB.av x)] (RW l) true (.v (.tup [])) (RW (l ++ eD x))) (hm : xs.length ≤ 1000000000) (h : l.length + (eL eD xs).length ≤ 16777216) : PCM true Tryz.prog 31 [.ptr 100 0, .v (.sl (xs.map PB.av)), .bm 32 100 0] (RW l) true (.v (.tup [])) (RW (l ++ eL eD xs)) := by
 have hlen : (eL eD xs).length = (eN xs.length).length + (xs.flatMap eD).length := by unfold eL; rw [List.length_append]
 have c := Zc4 l (n := xs.length) (by omega) (by omega)
 have eml : (xs.map PB.av).length = xs.length := List.length_map ..
 have e1 : IntKind.u64.wrap (((xs.map PB.av).length : Int)) = (xs.length : Int) := by rw [eml]; exact u64w (by omega) (by omega)
 refine Zbl Tryz.func31 rfl rfl rfl (Nat.le_of_ble_eq_true rfl) ?_
 generalize hE : eN xs.length = E at *
 have hB : eL eD xs = E ++ xs.flatMap eD := by unfold eL; rw [← hE]
 rw [hB]
 clear hB hE
 refine goI ?_
 refine evG ggA (Zag (Zaa rfl) Zdt Za0 rfl e1) ?_
 refine mcW [(100, 100), (101, 101)] c ?_
 refine goI ?_
 refine T.loop (fun N s1 => ∃ i : Nat, N = xs.length - i ∧ i ≤ xs.length ∧ s1 = mkP [(2, .bm 32 100 0), (13, .v (.sl (xs.map PB.av))), (14, .v (iV xs.length)), (15, .v (iV i))] (RW (l ++ E ++ (xs.take i).flatMap eD)) 23 true [100, 101]) xs.length
  (s' := mkP [(2, .bm 32 100 0), (13, .v (.sl (xs.map PB.av))), (14, .v (iV ((xs.map PB.av).length : Nat))), (15, .v (iV ((0 : Nat) : Int)))] (RW (l ++ E ++ [])) 23 true [100, 101]) (by rw [List.append_nil]; exact Zak) ⟨0, rfl, Nat.zero_le _, by rw [eml]; rfl⟩ ?_
 rintro _ _ ⟨i, rfl, hi, rfl⟩
 by_cases hlt : i < xs.length
 ·have d1 : decide ((i : Int) < (xs.length : Int)) = true := decide_eq_true (by omega)
  have hg : xs[i]? = some xs[i] := List.getElem?_eq_getElem hlt
  have hxi : (xs.map PB.av)[((i : Nat) : Int).toNat]? = some (PB.av xs[i]) := by rw [Int.toNat_natCast, List.getElem?_map, hg]; rfl
  have hfl := Zcn eD xs (i + 1)
  rw [Zat hg, List.length_append] at hfl
  have c2 := hx xs[i] (List.getElem_mem hlt) (l ++ E ++ (xs.take i).flatMap eD) (by rw [List.length_append, List.length_append]; omega)
  rw [List.append_assoc (l ++ E), ← Zat hg] at c2
  clear hg hfl
  generalize xs[i] = x at *
  obtain ⟨nm, op, ns, ⟨⟨g1, d1⟩, ⟨g2, d2⟩⟩, nx, gs⟩ := x
  refine goI ?_
  refine evG ggA (Zab (Zaa rfl) (Zac rfl) rfl rfl (by omega) hxi rfl) ?_
  refine goI ?_
  refine evM (Zcd [(100, 100), (101, 101)] c2 rfl rfl rfl rfl rfl rfl rfl ⟨rfl, rfl, trivial⟩ ⟨.inl rfl, .inl rfl, trivial⟩ ?_)
  refine goI ?_
  exact Zad (k := xs.length - (i + 1)) (s' := mkP [(2, .bm 32 100 0), (13, .v (.sl (xs.map PB.av))), (14, .v (iV xs.length)), (15, .v (iV ((i : Int) + 1)))] (RW (l ++ E ++ (xs.take (i + 1)).flatMap eD)) 23 true [100, 101]) (by omega) (by exact Zak) ⟨i + 1, rfl, hlt, rfl⟩
 ·obtain rfl : i = xs.length := by omega
  have d1 : decide ((xs.length : Int) < (xs.length : Int)) = false := decide_eq_false (by omega)
  rw [List.take_length, List.append_assoc]
  refine goI ?_
  exact ⟨.inl rfl, by exact Zak⟩
theorem w_lSer (l : List Nat) {xs : List PS} (hx : ∀ x, x ∈ xs → ∀ l : List Nat, l.length + (eS x).length ≤ 16777216 → PCM true Tryz.prog 28 [.ptr 100 0, .v (PS.av x)] (RW l) true (.v (.tup [])) (RW (l ++ eS x))) (hm : xs.length ≤ 1000000000) (h : l.length + (eL eS xs).length ≤ 16777216) : PCM true Tryz.prog 27 [.ptr 100 0, .v (.sl (xs.map PS.av)), .bm 28 100 0] (RW l) true (.v (.tup [])) (RW (l ++ eL eS xs)) := by
 have hlen : (eL eS xs).length = (eN xs.length).length + (xs.flatMap eS).length := by unfold eL; rw [List.length_append]
 have c := Zc4 l (n := xs.length) (by omega) (by omega)
 have eml : (xs.map PS.av).length = xs.length := List.length_map ..
 have e1 : IntKind.u64.wrap (((xs.map PS.av).length : Int)) = (xs.length : Int) := by rw [eml]; exact u64w (by omega) (by omega)
 refine Zbl Tryz.func27 rfl rfl rfl (Nat.le_of_ble_eq_true rfl) ?_
 generalize hE : eN xs.length = E at *
 have hB : eL eS xs = E ++ xs.flatMap eS := by unfold eL; rw [← hE]
 rw [hB]
 clear hB hE
 refine goI ?_
 refine evG ggA (Zag (Zaa rfl) Zdt Za0 rfl e1) ?_
 refine mcW [(100, 100), (101, 101)] c ?_
 refine goI ?_
 refine T.loop (fun N s1 => ∃ i : Nat, N = xs.length - i ∧ i ≤ xs.length ∧ s1 = mkP [(2, .bm 28 100 0), (13, .v (.sl (xs.map PS.av))), (14, .v (iV xs.length)), (15, .v (iV i))] (RW (l ++ E ++ (xs.take i).flatMap eS)) 23 true [100, 101]) xs.length
  (s' := mkP [(2, .bm 28 100 0), (13, .v (.sl (xs.map PS.av))), (14, .v (iV ((xs.map PS.av).length : Nat))), (15, .v (iV ((0 : Nat) : Int)))] (RW (l ++ E ++ [])) 23 true [100, 101]) (by rw [List.append_nil]; exact Zak) ⟨0, rfl, Nat.zero_le _, by rw [eml]; rfl⟩ ?_
 rintro _ _ ⟨i, rfl, hi, rfl⟩
 by_cases hlt : i < xs.length
 ·have d1 : decide ((i : Int) < (xs.length : Int)) = true := decide_eq_true (by omega)
  have hg : xs[i]? = some xs[i] := List.getElem?_eq_getElem hlt
  have hxi : (xs.map PS.av)[((i : Nat) : Int).toNat]? = some (PS.av xs[i]) := by rw [Int.toNat_natCast, List.getElem?_map, hg]; rfl
  have hfl := Zcn eS xs (i + 1)
  rw [Zat hg, List.length_append] at hfl
  have c2 := hx xs[i] (List.getElem_mem hlt) (l ++ E ++ (xs.take i).flatMap eS) (by rw [List.length_append, List.length_append]; omega)
  rw [List.append_assoc (l ++ E), ← Zat hg] at c2
  clear hg hfl
  generalize xs[i] = x at *
  obtain ⟨f, cs⟩ := x
  refine goI ?_
  refine evG ggA (Zab (Zaa rfl) (Zac rfl) rfl rfl (by omega) hxi rfl) ?_
  refine goI ?_
  refine evM (Zcd [(100, 100), (101, 101)] c2 rfl rfl rfl rfl rfl rfl rfl ⟨rfl, rfl, trivial⟩ ⟨.inl rfl, .inl rfl, trivial⟩ ?_)
  refine goI ?_
  exact Zad (k := xs.length - (i + 1)) (s' := mkP [(2, .bm 28 100 0), (13, .v (.sl (xs.map PS.av))), (14, .v (iV xs.length)), (15, .v (iV ((i : Int) + 1)))] (RW (l ++ E ++ (xs.take (i + 1)).flatMap eS)) 23 true [100, 101]) (by omega) (by exact Zak) ⟨i + 1, rfl, hlt, rfl⟩
 ·obtain rfl : i = xs.length := by omega
  have d1 : decide ((xs.length : Int) < (xs.length : Int)) = false := decide_eq_false (by omega)
  rw [List.take_length, List.append_assoc]
  refine goI ?_
  exact ⟨.inl rfl, by exact Zak⟩
theorem w_cert (l : List Nat) {a : PZ} (ha : a.ok) (h : l.length + (eC a).length ≤ 16777216) : PCM true Tryz.prog 34 [.ptr 100 0, .v a.av] (RW l) true (.v (.tup [])) (RW (l ++ eC a)) := by
 obtain ⟨a, b, ds, k, bo, f, cs⟩ := a
 obtain ⟨h1, h2, ⟨h3, h4⟩, h5, h6, h7⟩ := ha
 have h1 : a.ok := h1
 have h2 : b.ok := h2
 have h3 : ∀ x, x ∈ ds → x.ok := h3
 have h4 : ds.length ≤ 1000000000 := h4
 have h5 : k.ok := h5
 have h6 : I64 bo := h6
 have h7 : PS.ok ⟨f, cs⟩ := h7
 have hE : l ++ eC ⟨a, b, ds, k, bo, f, cs⟩ = ((((((l ++ eX a) ++ eX b) ++ eL eD ds) ++ eK k) ++ eI bo) ++ eS ⟨f, cs⟩) := by simp only [eC, List.append_assoc]
 have hl : l.length + ((eX a).length + (eX b).length + (eL eD ds).length + (eK k).length + (eI bo).length + (eS ⟨f, cs⟩).length) ≤ 16777216 := by simp only [eC, List.length_append] at h; omega
 have c1 := w_expr l h1 (by first | omega | (simp only [List.length_append]; omega))
 have c2 := w_expr (l ++ eX a) h2 (by first | omega | (simp only [List.length_append]; omega))
 have c3 := w_lBind ((l ++ eX a) ++ eX b) (fun x hx l h => w_binding l (h3 x hx) h) h4 (by first | omega | (simp only [List.length_append]; omega))
 have c4 := w_kind (((l ++ eX a) ++ eX b) ++ eL eD ds) h5 (by first | omega | (simp only [List.length_append]; omega))
 have c5 := Zgh ((((l ++ eX a) ++ eX b) ++ eL eD ds) ++ eK k) h6 (by first | omega | (simp only [List.length_append]; omega))
 have c6 := w_series (((((l ++ eX a) ++ eX b) ++ eL eD ds) ++ eK k) ++ eI bo) h7 (by first | omega | (simp only [List.length_append]; omega))
 rw [hE]
 clear hE h hl
 obtain ⟨op, ns, ⟨⟨g1, d1⟩, ⟨g2, d2⟩⟩, nx, gs⟩ := a
 obtain ⟨op', ns', ⟨⟨g3, d3⟩, ⟨g4, d4⟩⟩, nx', gs'⟩ := b
 obtain ⟨f1, f2, f3, f4, cu⟩ := k
 refine Zbl Tryz.func34 rfl rfl rfl (Nat.le_of_ble_eq_true rfl) ?_
 refine goI ?_
 refine mcW [(100, 100), (101, 101)] c1 ?_
 refine goI ?_
 refine mcW [(100, 100), (101, 101)] c2 ?_
 refine goI ?_
 refine mcW [(100, 100), (101, 101)] c3 ?_
 refine goI ?_
 refine mcW [(100, 100), (101, 101)] c4 ?_
 refine goI ?_
 refine mcW [(100, 100), (101, 101)] c5 ?_
 refine goI ?_
 refine mcW [(100, 100), (101, 101)] c6 ?_
 refine goI ?_
 exact ⟨.inl rfl, by exact Zak⟩
theorem w_space (l : List Nat) {a : PF} (ha : a.ok) (h : l.length + (eF a).length ≤ 16777216) : PCM true Tryz.prog 36 [.ptr 100 0, .v a.av] (RW l) true (.v (.tup [])) (RW (l ++ eF a)) := by
 obtain ⟨f1, f2, f3, f4, b⟩ := a
 obtain ⟨h1, h2, h3, h4, h5, h6⟩ := ha
 have h1 : I64 f1 := h1
 have h2 : I64 f2 := h2
 have h3 : I64 f3 := h3
 have h4 : I64 f4 := h4
 have h5 : ∀ x, x ∈ b → x.ok := h5
 have h6 : b.length ≤ 1000000000 := h6
 have hE : l ++ eF ⟨f1, f2, f3, f4, b⟩ = (((((l ++ eI f1) ++ eI f2) ++ eI f3) ++ eI f4) ++ eL eS b) := by simp only [eF, List.append_assoc]
 have hl : l.length + ((eI f1).length + (eI f2).length + (eI f3).length + (eI f4).length + (eL eS b).length) ≤ 16777216 := by simp only [eF, List.length_append] at h; omega
 have c1 := Zgh l h1 (by first | omega | (simp only [List.length_append]; omega))
 have c2 := Zgh (l ++ eI f1) h2 (by first | omega | (simp only [List.length_append]; omega))
 have c3 := Zgh ((l ++ eI f1) ++ eI f2) h3 (by first | omega | (simp only [List.length_append]; omega))
 have c4 := Zgh (((l ++ eI f1) ++ eI f2) ++ eI f3) h4 (by first | omega | (simp only [List.length_append]; omega))
 have c5 := w_lSer ((((l ++ eI f1) ++ eI f2) ++ eI f3) ++ eI f4) (fun x hx l h => w_series l (h5 x hx) h) h6 (by first | omega | (simp only [List.length_append]; omega))
 rw [hE]
 clear hE h hl
 refine Zbl Tryz.func36 rfl rfl rfl (Nat.le_of_ble_eq_true rfl) ?_
 refine goI ?_
 refine mcW [(100, 100), (101, 101)] c1 ?_
 refine goI ?_
 refine mcW [(100, 100), (101, 101)] c2 ?_
 refine goI ?_
 refine mcW [(100, 100), (101, 101)] c3 ?_
 refine goI ?_
 refine mcW [(100, 100), (101, 101)] c4 ?_
 refine goI ?_
 refine mcW [(100, 100), (101, 101)] c5 ?_
 refine goI ?_
 exact ⟨.inl rfl, by exact Zak⟩
theorem w_lEta (l : List Nat) {xs : List PE} (hx : ∀ x, x ∈ xs → ∀ l : List Nat, l.length + (eE x).length ≤ 16777216 → PCM true Tryz.prog 30 [.ptr 100 0, .v (PE.av x)] (RW l) true (.v (.tup [])) (RW (l ++ eE x))) (hm : xs.length ≤ 1000000000) (h : l.length + (eL eE xs).length ≤ 16777216) : PCM true Tryz.prog 29 [.ptr 100 0, .v (.sl (xs.map PE.av)), .bm 30 100 0] (RW l) true (.v (.tup [])) (RW (l ++ eL eE xs)) := by
 have hlen : (eL eE xs).length = (eN xs.length).length + (xs.flatMap eE).length := by unfold eL; rw [List.length_append]
 have c := Zc4 l (n := xs.length) (by omega) (by omega)
 have eml : (xs.map PE.av).length = xs.length := List.length_map ..
 have e1 : IntKind.u64.wrap (((xs.map PE.av).length : Int)) = (xs.length : Int) := by rw [eml]; exact u64w (by omega) (by omega)
 refine Zbl Tryz.func29 rfl rfl rfl (Nat.le_of_ble_eq_true rfl) ?_
 generalize hE : eN xs.length = E at *
 have hB : eL eE xs = E ++ xs.flatMap eE := by unfold eL; rw [← hE]
 rw [hB]
 clear hB hE
 refine goI ?_
 refine evG ggA (Zag (Zaa rfl) Zdt Za0 rfl e1) ?_
 refine mcW [(100, 100), (101, 101)] c ?_
 refine goI ?_
 refine T.loop (fun N s1 => ∃ i : Nat, N = xs.length - i ∧ i ≤ xs.length ∧ s1 = mkP [(2, .bm 30 100 0), (13, .v (.sl (xs.map PE.av))), (14, .v (iV xs.length)), (15, .v (iV i))] (RW (l ++ E ++ (xs.take i).flatMap eE)) 23 true [100, 101]) xs.length
  (s' := mkP [(2, .bm 30 100 0), (13, .v (.sl (xs.map PE.av))), (14, .v (iV ((xs.map PE.av).length : Nat))), (15, .v (iV ((0 : Nat) : Int)))] (RW (l ++ E ++ [])) 23 true [100, 101]) (by rw [List.append_nil]; exact Zak) ⟨0, rfl, Nat.zero_le _, by rw [eml]; rfl⟩ ?_
 rintro _ _ ⟨i, rfl, hi, rfl⟩
 by_cases hlt : i < xs.length
 ·have d1 : decide ((i : Int) < (xs.length : Int)) = true := decide_eq_true (by omega)
  have hg : xs[i]? = some xs[i] := List.getElem?_eq_getElem hlt
  have hxi : (xs.map PE.av)[((i : Nat) : Int).toNat]? = some (PE.av xs[i]) := by rw [Int.toNat_natCast, List.getElem?_map, hg]; rfl
  have hfl := Zcn eE xs (i + 1)
  rw [Zat hg, List.length_append] at hfl
  have c2 := hx xs[i] (List.getElem_mem hlt) (l ++ E ++ (xs.take i).flatMap eE) (by rw [List.length_append, List.length_append]; omega)
  rw [List.append_assoc (l ++ E), ← Zat hg] at c2
  clear hg hfl
  generalize xs[i] = x at *
  obtain ⟨f, cs⟩ := x
  refine goI ?_
  refine evG ggA (Zab (Zaa rfl) (Zac rfl) rfl rfl (by omega) hxi rfl) ?_
  refine goI ?_
  refine evM (Zcd [(100, 100), (101, 101)] c2 rfl rfl rfl rfl rfl rfl rfl ⟨rfl, rfl, trivial⟩ ⟨.inl rfl, .inl rfl, trivial⟩ ?_)
  refine goI ?_
  exact Zad (k := xs.length - (i + 1)) (s' := mkP [(2, .bm 30 100 0), (13, .v (.sl (xs.map PE.av))), (14, .v (iV xs.length)), (15, .v (iV ((i : Int) + 1)))] (RW (l ++ E ++ (xs.take (i + 1)).flatMap eE)) 23 true [100, 101]) (by omega) (by exact Zak) ⟨i + 1, rfl, hlt, rfl⟩
 ·obtain rfl : i = xs.length := by omega
  have d1 : decide ((xs.length : Int) < (xs.length : Int)) = false := decide_eq_false (by omega)
  rw [List.take_length, List.append_assoc]
  refine goI ?_
  exact ⟨.inl rfl, by exact Zak⟩
theorem w_lCert (l : List Nat) {xs : List PZ} (hx : ∀ x, x ∈ xs → ∀ l : List Nat, l.length + (eC x).length ≤ 16777216 → PCM true Tryz.prog 34 [.ptr 100 0, .v (PZ.av x)] (RW l) true (.v (.tup [])) (RW (l ++ eC x))) (hm : xs.length ≤ 1000000000) (h : l.length + (eL eC xs).length ≤ 16777216) : PCM true Tryz.prog 33 [.ptr 100 0, .v (.sl (xs.map PZ.av)), .bm 34 100 0] (RW l) true (.v (.tup [])) (RW (l ++ eL eC xs)) := by
 have hlen : (eL eC xs).length = (eN xs.length).length + (xs.flatMap eC).length := by unfold eL; rw [List.length_append]
 have c := Zc4 l (n := xs.length) (by omega) (by omega)
 have eml : (xs.map PZ.av).length = xs.length := List.length_map ..
 have e1 : IntKind.u64.wrap (((xs.map PZ.av).length : Int)) = (xs.length : Int) := by rw [eml]; exact u64w (by omega) (by omega)
 refine Zbl Tryz.func33 rfl rfl rfl (Nat.le_of_ble_eq_true rfl) ?_
 generalize hE : eN xs.length = E at *
 have hB : eL eC xs = E ++ xs.flatMap eC := by unfold eL; rw [← hE]
 rw [hB]
 clear hB hE
 refine goI ?_
 refine evG ggA (Zag (Zaa rfl) Zdt Za0 rfl e1) ?_
 refine mcW [(100, 100), (101, 101)] c ?_
 refine goI ?_
 refine T.loop (fun N s1 => ∃ i : Nat, N = xs.length - i ∧ i ≤ xs.length ∧ s1 = mkP [(2, .bm 34 100 0), (13, .v (.sl (xs.map PZ.av))), (14, .v (iV xs.length)), (15, .v (iV i))] (RW (l ++ E ++ (xs.take i).flatMap eC)) 23 true [100, 101]) xs.length
  (s' := mkP [(2, .bm 34 100 0), (13, .v (.sl (xs.map PZ.av))), (14, .v (iV ((xs.map PZ.av).length : Nat))), (15, .v (iV ((0 : Nat) : Int)))] (RW (l ++ E ++ [])) 23 true [100, 101]) (by rw [List.append_nil]; exact Zak) ⟨0, rfl, Nat.zero_le _, by rw [eml]; rfl⟩ ?_
 rintro _ _ ⟨i, rfl, hi, rfl⟩
 by_cases hlt : i < xs.length
 ·have d1 : decide ((i : Int) < (xs.length : Int)) = true := decide_eq_true (by omega)
  have hg : xs[i]? = some xs[i] := List.getElem?_eq_getElem hlt
  have hxi : (xs.map PZ.av)[((i : Nat) : Int).toNat]? = some (PZ.av xs[i]) := by rw [Int.toNat_natCast, List.getElem?_map, hg]; rfl
  have hfl := Zcn eC xs (i + 1)
  rw [Zat hg, List.length_append] at hfl
  have c2 := hx xs[i] (List.getElem_mem hlt) (l ++ E ++ (xs.take i).flatMap eC) (by rw [List.length_append, List.length_append]; omega)
  rw [List.append_assoc (l ++ E), ← Zat hg] at c2
  clear hg hfl
  generalize xs[i] = x at *
  obtain ⟨⟨op, ns, ⟨⟨g1, d1⟩, ⟨g2, d2⟩⟩, nx, gs⟩, ⟨op', ns', ⟨⟨g3, d3⟩, ⟨g4, d4⟩⟩, nx', gs'⟩, ds, ⟨f1, f2, f3, f4, cu⟩, bo, f, cs⟩ := x
  refine goI ?_
  refine evG ggA (Zab (Zaa rfl) (Zac rfl) rfl rfl (by omega) hxi rfl) ?_
  refine goI ?_
  refine evM (Zcd [(100, 100), (101, 101)] c2 rfl rfl rfl rfl rfl rfl rfl ⟨rfl, rfl, trivial⟩ ⟨.inl rfl, .inl rfl, trivial⟩ ?_)
  refine goI ?_
  exact Zad (k := xs.length - (i + 1)) (s' := mkP [(2, .bm 34 100 0), (13, .v (.sl (xs.map PZ.av))), (14, .v (iV xs.length)), (15, .v (iV ((i : Int) + 1)))] (RW (l ++ E ++ (xs.take (i + 1)).flatMap eC)) 23 true [100, 101]) (by omega) (by exact Zak) ⟨i + 1, rfl, hlt, rfl⟩
 ·obtain rfl : i = xs.length := by omega
  have d1 : decide ((xs.length : Int) < (xs.length : Int)) = false := decide_eq_false (by omega)
  rw [List.take_length, List.append_assoc]
  refine goI ?_
  exact ⟨.inl rfl, by exact Zak⟩
theorem w_lSpc (l : List Nat) {xs : List PF} (hx : ∀ x, x ∈ xs → ∀ l : List Nat, l.length + (eF x).length ≤ 16777216 → PCM true Tryz.prog 36 [.ptr 100 0, .v (PF.av x)] (RW l) true (.v (.tup [])) (RW (l ++ eF x))) (hm : xs.length ≤ 1000000000) (h : l.length + (eL eF xs).length ≤ 16777216) : PCM true Tryz.prog 35 [.ptr 100 0, .v (.sl (xs.map PF.av)), .bm 36 100 0] (RW l) true (.v (.tup [])) (RW (l ++ eL eF xs)) := by
 have hlen : (eL eF xs).length = (eN xs.length).length + (xs.flatMap eF).length := by unfold eL; rw [List.length_append]
 have c := Zc4 l (n := xs.length) (by omega) (by omega)
 have eml : (xs.map PF.av).length = xs.length := List.length_map ..
 have e1 : IntKind.u64.wrap (((xs.map PF.av).length : Int)) = (xs.length : Int) := by rw [eml]; exact u64w (by omega) (by omega)
 refine Zbl Tryz.func35 rfl rfl rfl (Nat.le_of_ble_eq_true rfl) ?_
 generalize hE : eN xs.length = E at *
 have hB : eL eF xs = E ++ xs.flatMap eF := by unfold eL; rw [← hE]
 rw [hB]
 clear hB hE
 refine goI ?_
 refine evG ggA (Zag (Zaa rfl) Zdt Za0 rfl e1) ?_
 refine mcW [(100, 100), (101, 101)] c ?_
 refine goI ?_
 refine T.loop (fun N s1 => ∃ i : Nat, N = xs.length - i ∧ i ≤ xs.length ∧ s1 = mkP [(2, .bm 36 100 0), (13, .v (.sl (xs.map PF.av))), (14, .v (iV xs.length)), (15, .v (iV i))] (RW (l ++ E ++ (xs.take i).flatMap eF)) 23 true [100, 101]) xs.length
  (s' := mkP [(2, .bm 36 100 0), (13, .v (.sl (xs.map PF.av))), (14, .v (iV ((xs.map PF.av).length : Nat))), (15, .v (iV ((0 : Nat) : Int)))] (RW (l ++ E ++ [])) 23 true [100, 101]) (by rw [List.append_nil]; exact Zak) ⟨0, rfl, Nat.zero_le _, by rw [eml]; rfl⟩ ?_
 rintro _ _ ⟨i, rfl, hi, rfl⟩
 by_cases hlt : i < xs.length
 ·have d1 : decide ((i : Int) < (xs.length : Int)) = true := decide_eq_true (by omega)
  have hg : xs[i]? = some xs[i] := List.getElem?_eq_getElem hlt
  have hxi : (xs.map PF.av)[((i : Nat) : Int).toNat]? = some (PF.av xs[i]) := by rw [Int.toNat_natCast, List.getElem?_map, hg]; rfl
  have hfl := Zcn eF xs (i + 1)
  rw [Zat hg, List.length_append] at hfl
  have c2 := hx xs[i] (List.getElem_mem hlt) (l ++ E ++ (xs.take i).flatMap eF) (by rw [List.length_append, List.length_append]; omega)
  rw [List.append_assoc (l ++ E), ← Zat hg] at c2
  clear hg hfl
  generalize xs[i] = x at *
  obtain ⟨f1, f2, f3, f4, b⟩ := x
  refine goI ?_
  refine evG ggA (Zab (Zaa rfl) (Zac rfl) rfl rfl (by omega) hxi rfl) ?_
  refine goI ?_
  refine evM (Zcd [(100, 100), (101, 101)] c2 rfl rfl rfl rfl rfl rfl rfl ⟨rfl, rfl, trivial⟩ ⟨.inl rfl, .inl rfl, trivial⟩ ?_)
  refine goI ?_
  exact Zad (k := xs.length - (i + 1)) (s' := mkP [(2, .bm 36 100 0), (13, .v (.sl (xs.map PF.av))), (14, .v (iV xs.length)), (15, .v (iV ((i : Int) + 1)))] (RW (l ++ E ++ (xs.take (i + 1)).flatMap eF)) 23 true [100, 101]) (by omega) (by exact Zak) ⟨i + 1, rfl, hlt, rfl⟩
 ·obtain rfl : i = xs.length := by omega
  have d1 : decide ((xs.length : Int) < (xs.length : Int)) = false := decide_eq_false (by omega)
  rw [List.take_length, List.append_assoc]
  refine goI ?_
  exact ⟨.inl rfl, by exact Zak⟩
theorem w_lMat (l : List Nat) {xs : List PM} (hx : ∀ x, x ∈ xs → ∀ l : List Nat, l.length + (eM x).length ≤ 16777216 → PCM true Tryz.prog 38 [.ptr 100 0, .v (PM.av x)] (RW l) true (.v (.tup [])) (RW (l ++ eM x))) (hm : xs.length ≤ 1000000000) (h : l.length + (eL eM xs).length ≤ 16777216) : PCM true Tryz.prog 37 [.ptr 100 0, .v (.sl (xs.map PM.av)), .bm 38 100 0] (RW l) true (.v (.tup [])) (RW (l ++ eL eM xs)) := by
 have hlen : (eL eM xs).length = (eN xs.length).length + (xs.flatMap eM).length := by unfold eL; rw [List.length_append]
 have c := Zc4 l (n := xs.length) (by omega) (by omega)
 have eml : (xs.map PM.av).length = xs.length := List.length_map ..
 have e1 : IntKind.u64.wrap (((xs.map PM.av).length : Int)) = (xs.length : Int) := by rw [eml]; exact u64w (by omega) (by omega)
 refine Zbl Tryz.func37 rfl rfl rfl (Nat.le_of_ble_eq_true rfl) ?_
 generalize hE : eN xs.length = E at *
 have hB : eL eM xs = E ++ xs.flatMap eM := by unfold eL; rw [← hE]
 rw [hB]
 clear hB hE
 refine goI ?_
 refine evG ggA (Zag (Zaa rfl) Zdt Za0 rfl e1) ?_
 refine mcW [(100, 100), (101, 101)] c ?_
 refine goI ?_
 refine T.loop (fun N s1 => ∃ i : Nat, N = xs.length - i ∧ i ≤ xs.length ∧ s1 = mkP [(2, .bm 38 100 0), (13, .v (.sl (xs.map PM.av))), (14, .v (iV xs.length)), (15, .v (iV i))] (RW (l ++ E ++ (xs.take i).flatMap eM)) 23 true [100, 101]) xs.length
  (s' := mkP [(2, .bm 38 100 0), (13, .v (.sl (xs.map PM.av))), (14, .v (iV ((xs.map PM.av).length : Nat))), (15, .v (iV ((0 : Nat) : Int)))] (RW (l ++ E ++ [])) 23 true [100, 101]) (by rw [List.append_nil]; exact Zak) ⟨0, rfl, Nat.zero_le _, by rw [eml]; rfl⟩ ?_
 rintro _ _ ⟨i, rfl, hi, rfl⟩
 by_cases hlt : i < xs.length
 ·have d1 : decide ((i : Int) < (xs.length : Int)) = true := decide_eq_true (by omega)
  have hg : xs[i]? = some xs[i] := List.getElem?_eq_getElem hlt
  have hxi : (xs.map PM.av)[((i : Nat) : Int).toNat]? = some (PM.av xs[i]) := by rw [Int.toNat_natCast, List.getElem?_map, hg]; rfl
  have hfl := Zcn eM xs (i + 1)
  rw [Zat hg, List.length_append] at hfl
  have c2 := hx xs[i] (List.getElem_mem hlt) (l ++ E ++ (xs.take i).flatMap eM) (by rw [List.length_append, List.length_append]; omega)
  rw [List.append_assoc (l ++ E), ← Zat hg] at c2
  clear hg hfl
  generalize xs[i] = x at *
  obtain ⟨f1, f2, b⟩ := x
  refine goI ?_
  refine evG ggA (Zab (Zaa rfl) (Zac rfl) rfl rfl (by omega) hxi rfl) ?_
  refine goI ?_
  refine evM (Zcd [(100, 100), (101, 101)] c2 rfl rfl rfl rfl rfl rfl rfl ⟨rfl, rfl, trivial⟩ ⟨.inl rfl, .inl rfl, trivial⟩ ?_)
  refine goI ?_
  exact Zad (k := xs.length - (i + 1)) (s' := mkP [(2, .bm 38 100 0), (13, .v (.sl (xs.map PM.av))), (14, .v (iV xs.length)), (15, .v (iV ((i : Int) + 1)))] (RW (l ++ E ++ (xs.take (i + 1)).flatMap eM)) 23 true [100, 101]) (by omega) (by exact Zak) ⟨i + 1, rfl, hlt, rfl⟩
 ·obtain rfl : i = xs.length := by omega
  have d1 : decide ((xs.length : Int) < (xs.length : Int)) = false := decide_eq_false (by omega)
  rw [List.take_length, List.append_assoc]
  refine goI ?_
  exact ⟨.inl rfl, by exact Zak⟩
end Ab
