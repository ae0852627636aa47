/- The program's Encode (printed by tools/gen_en.py). -/
import Derived.Test.YtbpdgaolmikjbaaGreatWrB
import Derived.Test.YtbpdgaolmikjbaaGreatCaB
import Derived.Test.YtbpdgaolmikjbaaGreatSzB
import Derived.Test.YtbpdgaolmikjbaaGreatSuA
import Derived.Test.YtbpdgaolmikjbaaGreatIcB
set_option linter.all false
namespace Ab
open Go Go.RowKit Go.Proofs Hp
set_option maxRecDepth 100000
set_option maxHeartbeats 4000000
def Zc5 (h : Nat) : List Nat := [h / 16777216, h / 65536 % 256, h / 256 % 256, h % 256]
def Zf5 (p : PP) : List Nat := [72, 80, 1] ++ eP p
def encB (p : PP) : List Nat := Zf5 p ++ Zc5 (fnv (Zf5 p))
theorem encode_no {p : PP} (h : p.ok) (hb : p.binds.length ≤ 1000000000) (hf : fewB p = false) : PC Tryz.prog 12 [p.av] (.tup [.sl [], iV 7]) := by
 have c := few_p h hb
 rw [hf] at c
 obtain ⟨sr, et, df, ce, sp, ma⟩ := p
 refine Zb7 true Tryz.func12 rfl rfl rfl (Nat.le_of_ble_eq_true rfl) Za4.tmp Za4.tmp ?_
 refine goI ?_
 refine evG ggA (Zae (Zaa rfl) rfl rfl c) ?_
 refine goI ?_
 exact rfl
theorem encode_p {p : PP} (h : p.ok) (hb : p.binds.length ≤ 1000000000) (hf : fewB p = true) (hsz : (eP p.can).length ≤ 16777000) : PC Tryz.prog 12 [p.av] (.tup [.sl ((encB p.can).map nV), iV 0]) := by
 have c := few_p h hb
 rw [hf] at c
 have cc := canonical_p h
 have hq := PP.can_ok h
 have hby := eP_by hq
 have hbd : By (Zf5 p.can) := By.app (fun c hc => by simp at hc; omega) hby
 obtain ⟨sr0, et0, df0, ce0, sp0, ma0⟩ := p
 generalize (PP.can _) = q at *
 obtain ⟨sr, et, df, ce, sp, ma⟩ := q
 obtain ⟨⟨h0, n0⟩, ⟨h1, n1⟩, ⟨h2, n2⟩, ⟨h3, n3⟩, ⟨h4, n4⟩, h5, n5⟩ := hq
 have h0 : ∀ s, s ∈ sr → s.ok := h0
 have h1 : ∀ s, s ∈ et → s.ok := h1
 have h2 : ∀ s, s ∈ df → s.ok := h2
 have h3 : ∀ s, s ∈ ce → s.ok := h3
 have h4 : ∀ s, s ∈ sp → s.ok := h4
 have h5 : ∀ s, s ∈ ma → s.ok := h5
 have hE : Zf5 ⟨sr, et, df, ce, sp, ma⟩ = (((((([72, 80, 1] ++ eL eS sr) ++ eL eE et) ++ eL eD df) ++ eL eC ce) ++ eL eF sp) ++ eL eM ma) := by simp only [Zf5, eP, List.append_assoc]
 have hl : (eL eS sr).length + (eL eE et).length + (eL eD df).length + (eL eC ce).length + (eL eF sp).length + (eL eM ma).length ≤ 16777000 := by simp only [eP, List.length_append] at hsz; omega
 have c1 := w_lSer [72, 80, 1] (fun x hx l h => w_series l (h0 x hx) h) n0 (by simp only [List.length_append, List.length_cons, List.length_nil]; omega)
 have c2 := w_lEta ([72, 80, 1] ++ eL eS sr) (fun x hx l h => w_eta l (h1 x hx) h) n1 (by simp only [List.length_append, List.length_cons, List.length_nil]; omega)
 have c3 := w_lBind (([72, 80, 1] ++ eL eS sr) ++ eL eE et) (fun x hx l h => w_binding l (h2 x hx) h) n2 (by simp only [List.length_append, List.length_cons, List.length_nil]; omega)
 have c4 := w_lCert ((([72, 80, 1] ++ eL eS sr) ++ eL eE et) ++ eL eD df) (fun x hx l h => w_cert l (h3 x hx) h) n3 (by simp only [List.length_append, List.length_cons, List.length_nil]; omega)
 have c5 := w_lSpc (((([72, 80, 1] ++ eL eS sr) ++ eL eE et) ++ eL eD df) ++ eL eC ce) (fun x hx l h => w_space l (h4 x hx) h) n4 (by simp only [List.length_append, List.length_cons, List.length_nil]; omega)
 have c6 := w_lMat ((((([72, 80, 1] ++ eL eS sr) ++ eL eE et) ++ eL eD df) ++ eL eC ce) ++ eL eF sp) (fun x hx l h => w_matrix l (h5 x hx) h) n5 (by simp only [List.length_append, List.length_cons, List.length_nil]; omega)
 have hlen : ((((((([72, 80, 1] ++ eL eS sr) ++ eL eE et) ++ eL eD df) ++ eL eC ce) ++ eL eF sp) ++ eL eM ma) : List Nat).length ≤ 16777003 := by simp only [List.length_append, List.length_cons, List.length_nil]; omega
 unfold encB
 rw [hE] at hbd ⊢
 clear hE hl hsz hby h0 h1 h2 h3 h4 h5
 have csum := sumO_p hbd (by omega)
 have cput := w_put (((((([72, 80, 1] ++ eL eS sr) ++ eL eE et) ++ eL eD df) ++ eL eC ce) ++ eL eF sp) ++ eL eM ma) (Zc5 (fnv (((((([72, 80, 1] ++ eL eS sr) ++ eL eE et) ++ eL eD df) ++ eL eC ce) ++ eL eF sp) ++ eL eM ma))) (by show _ + 4 ≤ _; omega)
 have hlen7 : ((((((([72, 80, 1] ++ eL eS sr) ++ eL eE et) ++ eL eD df) ++ eL eC ce) ++ eL eF sp) ++ eL eM ma) ++ Zc5 (fnv (((((([72, 80, 1] ++ eL eS sr) ++ eL eE et) ++ eL eD df) ++ eL eC ce) ++ eL eF sp) ++ eL eM ma))).length ≤ 16777007 := by rw [List.length_append]; show _ + 4 ≤ _; omega
 have hH := Zf1 (((((([72, 80, 1] ++ eL eS sr) ++ eL eE et) ++ eL eD df) ++ eL eC ce) ++ eL eF sp) ++ eL eM ma)
 generalize hHE : fnv (((((([72, 80, 1] ++ eL eS sr) ++ eL eE et) ++ eL eD df) ++ eL eC ce) ++ eL eF sp) ++ eL eM ma) = H at *
 have t1 : (H : Int).fdiv (2 ^ (min (24 : Int).toNat 32)) = ((H / 16777216 : Nat) : Int) := by rw [Int.fdiv_eq_ediv_of_nonneg _ (by decide)]; rfl
 have t2 : (H : Int).fdiv (2 ^ (min (16 : Int).toNat 32)) = ((H / 65536 : Nat) : Int) := by rw [Int.fdiv_eq_ediv_of_nonneg _ (by decide)]; rfl
 have t3 : (H : Int).fdiv (2 ^ (min (8 : Int).toNat 32)) = ((H / 256 : Nat) : Int) := by rw [Int.fdiv_eq_ediv_of_nonneg _ (by decide)]; rfl
 have s1 : IntKind.u8.wrap ((H / 16777216 : Nat) : Int) = ((H / 16777216 : Nat) : Int) := by rw [u8m]; omega
 have s2 : IntKind.u8.wrap ((H / 65536 : Nat) : Int) = ((H / 65536 % 256 : Nat) : Int) := by rw [u8m]; omega
 have s3 : IntKind.u8.wrap ((H / 256 : Nat) : Int) = ((H / 256 % 256 : Nat) : Int) := by rw [u8m]; omega
 have s4 : IntKind.u8.wrap (H : Int) = ((H % 256 : Nat) : Int) := by rw [u8m]; omega
 have e7 : (((((((([72, 80, 1] ++ eL eS sr) ++ eL eE et) ++ eL eD df) ++ eL eC ce) ++ eL eF sp) ++ eL eM ma) ++ Zc5 H).map nV).length = ((((((([72, 80, 1] ++ eL eS sr) ++ eL eE et) ++ eL eD df) ++ eL eC ce) ++ eL eF sp) ++ eL eM ma) ++ Zc5 H).length := List.length_map ..
 have d7 : decide (((((((((([72, 80, 1] ++ eL eS sr) ++ eL eE et) ++ eL eD df) ++ eL eC ce) ++ eL eF sp) ++ eL eM ma) ++ Zc5 H).map nV).length : Int) > 16777216) = false := decide_eq_false (by omega)
 clear hHE hlen hlen7
 refine Zb7 true Tryz.func12 rfl rfl rfl (Nat.le_of_ble_eq_true rfl) Za4.tmp Za4.tmp ?_
 refine goI ?_
 refine evG ggA (Zae (Zaa rfl) rfl rfl c) ?_
 refine goI ?_
 refine evG ggA (Zae (Zaa rfl) rfl rfl cc) ?_
 refine goI ?_
 refine evG ggA (Zd8 101 (Zaa rfl) rfl (Zaf rfl) rfl rfl rfl rfl (fun x hx => ⟨nV_one [72, 80, 1] x hx, by simp at hx; rcases hx with rfl | rfl | rfl <;> rfl⟩) (Nat.le_of_ble_eq_true rfl) (by decide) (fun _ => nV_nu [72, 80, 1])) ?_
 refine evG ggA (ss_build_st (pre := []) (z := .slice none 0 0) (post := [.bool false]) (Zaa rfl) (Zb0 rfl) rfl rfl rfl rfl) ?_
 refine goI ?_
 refine mcW [(100, 13), (101, 101)] c1 ?_
 refine goI ?_
 refine mcW [(100, 13), (101, 101)] c2 ?_
 refine goI ?_
 refine mcW [(100, 13), (101, 101)] c3 ?_
 refine goI ?_
 refine mcW [(100, 13), (101, 101)] c4 ?_
 refine goI ?_
 refine mcW [(100, 13), (101, 101)] c5 ?_
 refine goI ?_
 refine mcW [(100, 13), (101, 101)] c6 ?_
 refine goI ?_
 refine mcS [(101, 101)] csum ?_
 refine goI ?_
 refine evG ggA (Zbx (Zaa rfl) rfl rfl (by decide) t1) ?_
 refine evG ggA (Zag (Zaa rfl) Za2 Za3 rfl s1) ?_
 refine goI ?_
 refine evG ggA (Zbx (Zaa rfl) rfl rfl (by decide) t2) ?_
 refine evG ggA (Zag (Zaa rfl) Za2 Za3 rfl s2) ?_
 refine goI ?_
 refine evG ggA (Zbx (Zaa rfl) rfl rfl (by decide) t3) ?_
 refine evG ggA (Zag (Zaa rfl) Za2 Za3 rfl s3) ?_
 refine goI ?_
 refine evG ggA (Zag (Zaa rfl) Za2 Za3 rfl s4) ?_
 refine evG ggA (Zar (Zaa rfl) (Zaf rfl) rfl rfl rfl rfl (fun x hx => ⟨nV_one (Zc5 H) x hx, by simp [Zc5] at hx; rcases hx with rfl | rfl | rfl | rfl <;> rfl⟩) (Nat.le_of_ble_eq_true rfl)) ?_
 refine mcW [(100, 13), (101, 101)] cput ?_
 refine Zbs ?_
 refine Zbr ?_
 refine T.weak (s' := mkS [(4, .ptr 13 0)] [(13, .var [.v (.sl (((((((([72, 80, 1] ++ eL eS sr) ++ eL eE et) ++ eL eD df) ++ eL eC ce) ++ eL eF sp) ++ eL eM ma) ++ Zc5 H).map nV)), .v (boV false)])] 85 true) (by exact entA) ?_
 refine goI ?_
 exact rfl
end Ab
