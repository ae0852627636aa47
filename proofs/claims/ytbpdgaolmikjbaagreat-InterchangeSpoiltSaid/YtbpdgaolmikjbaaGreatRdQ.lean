/- The laws of Decode: what is read, and what is read back. -/
import Derived.Test.YtbpdgaolmikjbaaGreatRdP
set_option linter.all false
namespace Ab
open Go Go.RowKit Go.Proofs Hp
set_option maxRecDepth 100000
theorem binds_can (p : PP) : p.can.binds = p.binds.map PB.can := by
 show p.defs.map PB.can ++ (p.cert.map PZ.can).flatMap (·.ds) = (p.defs ++ p.cert.flatMap (·.ds)).map PB.can
 rw [List.map_append, List.flatMap_map, List.map_flatMap]; rfl
theorem eL_len {α : Type} {f : α → List Nat} {g : α → Nat} {l : List α} (h : ∀ x, x ∈ l → g x ≤ (f x).length) : (l.map g).sum ≤ (eL f l).length := by
  unfold eL
  rw [List.length_append]
  have : (l.map g).sum ≤ (l.flatMap f).length := by
    induction l with
    | nil => simp
    | cons a l ih =>
      rw [List.map_cons, List.sum_cons, List.flatMap_cons, List.length_append]
      have := h a (List.mem_cons_self ..)
      have := ih fun x hx => h x (List.mem_cons_of_mem _ hx)
      omega
  omega
theorem sum_one {α : Type} (l : List α) : (l.map fun _ => 1).sum = l.length := by
 induction l with
 | nil => rfl
 | cons a l ih => rw [List.map_cons, List.sum_cons, ih, List.length_cons]; omega
theorem eD_pos (d : PB) : 1 ≤ (eD d).length := by
 unfold eD
 rw [List.length_append]
 have := eX_pos d.e
 omega
theorem defs_len (l : List PB) : l.length ≤ (eL eD l).length := by
 have := eL_len (f := eD) (g := fun _ => 1) (l := l) fun x _ => eD_pos x
 rw [sum_one] at this
 exact this
theorem eP_binds (p : PP) : p.binds.length ≤ (eP p).length := by
 have h1 := defs_len p.defs
 have h2 := eL_len (f := eC) (g := fun c : PZ => c.ds.length) (l := p.cert) fun c _ => by
  unfold eC
  simp only [List.length_append]
  have := defs_len c.ds
  omega
 have h3 : (p.cert.flatMap (·.ds)).length = (p.cert.map fun c : PZ => c.ds.length).sum := List.length_flatMap
 unfold PP.binds eP
 simp only [List.length_append]
 omega
def Hd (l : List Nat) : Prop := 7 ≤ l.length ∧ l.take 3 = [72, 80, 1]
theorem Hd.split {l : List Nat} (h : Hd l) : ∃ mid y0 y1 y2 y3, l = (72 :: 80 :: 1 :: mid) ++ [y0, y1, y2, y3] := by
 obtain ⟨h7, h3⟩ := h
 obtain ⟨a, b, c, t, rfl⟩ := three l h7
 simp only [List.length_cons] at h7
 obtain ⟨m, y0, y1, y2, y3, rfl⟩ := last4 t (by omega)
 simp at h3
 obtain ⟨rfl, rfl, rfl⟩ := h3
 exact ⟨m, y0, y1, y2, y3, rfl⟩
abbrev ZP : PP := ⟨[], [], [], [], [], []⟩
theorem ZP_ok : ZP.ok := by
 refine ⟨⟨fun _ h => (by cases h), by decide⟩, ⟨fun _ h => (by cases h), by decide⟩, ⟨fun _ h => (by cases h), by decide⟩, ⟨fun _ h => (by cases h), by decide⟩, ⟨fun _ h => (by cases h), by decide⟩, fun _ h => (by cases h), by decide⟩
theorem encB_eq (p : PP) : encB p = (72 :: 80 :: 1 :: eP p) ++ tail4 (fnv (72 :: 80 :: 1 :: eP p)) := rfl
theorem few_good {w : PP} (h : fewB w = true) : (∀ d, d ∈ w.defs → goodX 100 d.e) ∧ ∀ c, c ∈ w.cert → goodX 100 c.a ∧ goodX 100 c.b ∧ ∀ d, d ∈ c.ds → goodX 100 d.e := by
 unfold fewB at h
 rw [Bool.and_eq_true, List.all_eq_true, List.all_eq_true] at h
 obtain ⟨h1, h2⟩ := h
 refine ⟨fun d hd => goodX_of (h2 d (List.mem_append.2 (.inl hd))), fun c hc => ?_⟩
 have h3 := h1 c hc
 rw [Bool.and_eq_true] at h3
 exact ⟨goodX_of h3.1, goodX_of h3.2, fun d hd => goodX_of (h2 d (List.mem_append.2 (.inr (List.mem_flatMap.2 ⟨c, hc, hd⟩))))⟩
theorem decode_back {w : PP} (hw : w.ok) (hc : w.can = w) (hf : fewB w = true) (hn : (eP w).length ≤ 15000000) : PC Tryz.prog 17 [.sl ((encB w).map nV)] (.tup [w.av, iV 0]) := by
 have hby := eP_by hw
 have hbd : By (72 :: 80 :: 1 :: eP w) := By.app (a := [72, 80, 1]) (fun c hc => by simp at hc; omega) hby
 obtain ⟨⟨sr, et, df, ce, sp, ma⟩, l6, b6, ⟨l1, b1, c1, l2, b2, c2, l3, b3, c3, l4, b4, c4, l5, b5, c5, c6⟩, -, -, -, -, r⟩ := (rd_pair (rd_lSeries 0) (rd_pair (rd_lEta 0) (rd_pair rd_lBinding (rd_pair rd_lCert (rd_pair (rd_lSpace 0) (rd_lMatrix 0)))))).law (eP w) hby (by omega) false
 obtain ⟨g1, g2⟩ := few_good hf
 obtain ⟨e1, e2, e3⟩ := r (w.ser, w.eta, w.defs, w.cert, w.spc, w.mat) [] ⟨hw.1, hw.2.1, hw.2.2.1, hw.2.2.2.1, hw.2.2.2.2.1, hw.2.2.2.2.2⟩ ⟨fun _ _ => trivial, fun _ _ => trivial, g1, g2, fun _ _ => trivial, fun _ _ => trivial⟩ rfl (by rw [List.append_nil]; rfl)
 injection e1 with f1 e1
 injection e1 with f2 e1
 injection e1 with f3 e1
 injection e1 with f4 e1
 injection e1 with f5 f6
 obtain ⟨sr', et', df', ce', sp', ma'⟩ := w
 subst f1 f2 f3 f4 f5 f6
 have hb := eP_binds ⟨sr, et, df, ce, sp, ma⟩
 have cE := encode_p hw (by omega) hf (by rw [hc]; omega)
 rw [hc] at cE
 have cq := equal_p (a := encB ⟨sr, et, df, ce, sp, ma⟩) (b := encB ⟨sr, et, df, ce, sp, ma⟩) (by rw [encB_eq, List.length_append]; show (eP _).length + 1 + 1 + 1 + 4 ≤ _; omega)
 rw [show decide (encB ⟨sr, et, df, ce, sp, ma⟩ = encB ⟨sr, et, df, ce, sp, ma⟩) = true from decide_eq_true rfl] at cq
 exact dec_ok (mid := eP _) hbd hn c1 c2 c3 c4 c5 c6 e3 e2 cE cq
end Ab
