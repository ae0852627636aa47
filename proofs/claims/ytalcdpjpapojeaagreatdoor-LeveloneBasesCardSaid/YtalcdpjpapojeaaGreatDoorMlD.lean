/- Miller's basis as polynomials in E4 and E6. -/
import Derived.Test.YtalcdpjpapojeaaGreatDoorGj
import Derived.Test.YtalcdpjpapojeaaGreatDoorMq
import Derived.Test.YtalcdpjpapojeaaGreatDoorQmE
set_option linter.all false
namespace Ab
open Go Go.RowKit Go.Proofs Hp
set_option maxRecDepth 100000
def mzl (n : Nat) (a b : List Int) : List Int := (List.range n).map fun m => suZ (fun j => a.getD j 0 * b.getD (m - j) 0) (m + 1)
def lzE (n : Nat) : List Nat → List Int
 | [] => (List.range n).map fun m => if m = 0 then 1 else 0
 | k :: l => mzl n (lzE n l) ((List.range n).map (eiZ k))
theorem suZ_cg2 {f g : Nat → Int} : ∀ {n : Nat}, (∀ j, j < n → f j = g j) → suZ f n = suZ g n
 | 0, _ => rfl
 | n + 1, h => by rw [suZ, suZ, suZ_cg2 fun j hj => h j oM, h n oM]
theorem rg_get2 {f : Nat → Int} {n i : Nat} (h : i < n) : ((List.range n).map f).getD i 0 = f i := by
 rw [List.getD_eq_getElem?_getD, List.getElem?_map, List.getElem?_range h]
 rfl
theorem lzE_get (n : Nat) : ∀ (l : List Nat) (j : Nat), j < n → (lzE n l).getD j 0 = zE l j
  | [], j, h => rg_get2 h
  | k :: l, j, h => by
    show (mzl n (lzE n l) ((List.range n).map (eiZ k))).getD j 0 = _
    unfold mzl
    rw [rg_get2 h]
    show _ = suZ (fun i => zE l i * eiZ k (j - i)) (j + 1)
    exact suZ_cg2 fun i hi => by rw [lzE_get n l i oM, rg_get2 oM]
theorem lzE_len (n : Nat) (l : List Nat) : (lzE n l).length = n := by
 cases l with
 | nil => simp [lzE]
 | cons k l => simp [lzE, mzl]
def monL (k : Nat) : List QT := (List.range (k / 4 + 1)).filterMap fun (b : Nat) => if (k - 4 * b) % 6 = 0 then some ⟨0, (b : Int), (((k - 4 * b) / 6 : Nat) : Int), 1⟩ else none
def rwT (n : Nat) (t : QT) : List Rat := (lzE n (qW t)).map fun (z : Int) => (z : Rat)
def rwM (k : Nat) : List (List Rat) := (monL k).map (rwT (mdm k))
def uniL (d i : Nat) : List Rat := tk (fun j => if j = i then 1 else 0) d
def gjX (k i c : Nat) : Option (List (List Rat)) := gjS (eqM (rwM k) (uniL (mdm k) i)) c
def solM (k i : Nat) : List Rat := match gjX k i (mdm k) with
 | none => []
 | some M => (exRes (mdm k) M).getD []
def dotL : List Rat → List QT → Nat → Rat
 | x :: X, t :: Ts, a => x * (rwT 12 t).getD a 0 + dotL X Ts a
 | _, _, _ => 0
def chkD (k : Nat) : Bool := decide ((monL k).length = mdm k) && (List.range (mdm k)).all fun i =>
 ((List.range (mdm k + 1)).all fun c => match gjX k i c with
  | none => false
  | some M => M.all fun r => r.all (htB 9)) &&
 ((match gjX k i (mdm k) with
  | none => false
  | some M => (exRes (mdm k) M).isSome) && (decide ((solM k i).length = mdm k) && ((solM k i).all (htB 3) && decide (tk (dotL (solM k i) (monL k)) 12 = zl k i (mdm k)))))
theorem chkD_all : (ev20.all chkD) = true := by decide +kernel
structure SolOK (k i : Nat) : Prop where
 g : ∀ c, c ≤ mdm k → ∃ M, gjX k i c = some M ∧ ∀ r, r ∈ M → ∀ q, q ∈ r → Ht q 9
 x : ∃ M, gjX k i (mdm k) = some M ∧ exRes (mdm k) M = some (solM k i)
 l : (solM k i).length = mdm k
 h : ∀ q, q ∈ solM k i → Ht q 3
 e : ∀ a, a < 12 → dotL (solM k i) (monL k) a = (zl k i (mdm k)).getD a 0
theorem sol_ok {k i : Nat} (h : k % 2 = 0) (h40 : k ≤ 40) (hi : i < mdm k) : (monL k).length = mdm k ∧ SolOK k i := by
  have h1 := List.all_eq_true.1 chkD_all k (ev_mem h h40)
  unfold chkD at h1
  rw [Bool.and_eq_true, decide_eq_true_eq] at h1
  obtain ⟨h0, h1⟩ := h1
  have h2 := List.all_eq_true.1 h1 i (List.mem_range.2 hi)
  simp only [Bool.and_eq_true, decide_eq_true_eq] at h2
  obtain ⟨h3, h4, h5, h6, h7⟩ := h2
  refine ⟨h0, fun c hc => ?_, ?_, h5, Zc3 h6, fun a ha => ?_⟩
  · have h8 := List.all_eq_true.1 h3 c (List.mem_range.2 oM)
    cases e : gjX k i c with
    | none => rw [e] at h8; cases h8
    | some M =>
      rw [e] at h8
      exact ⟨M, rfl, fun r hr q hq => Zc3 (List.all_eq_true.1 h8 r hr) q hq⟩
  · cases e : gjX k i (mdm k) with
    | none => rw [e] at h4; cases h4
    | some M =>
      rw [e] at h4
      refine ⟨M, rfl, ?_⟩
      unfold solM
      rw [e]
      have h4 : (exRes (mdm k) M).isSome = true := h4
      cases e2 : exRes (mdm k) M with
      | none => rw [e2] at h4; cases h4
      | some x =>
        show some x = some ((exRes (mdm k) M).getD [])
        rw [e2]
        rfl
  · rw [← h7, Zda ha]
def polM : List QT → List Rat → List QT
 | t :: Ts, x :: X => ⟨t.a, t.b, t.c, x⟩ :: polM Ts X
 | _, _ => []
theorem polM_len : ∀ (Ts : List QT) (X : List Rat), Ts.length = X.length → (polM Ts X).length = Ts.length
 | [], [], _ => rfl
 | t :: Ts, x :: X, h => by rw [polM, List.length_cons, List.length_cons, polM_len Ts X (by simpa using h)]
theorem polM_mem : ∀ (Ts : List QT) (X : List Rat) (u : QT), u ∈ polM Ts X → (∃ t, t ∈ Ts ∧ u.a = t.a ∧ u.b = t.b ∧ u.c = t.c) ∧ u.q ∈ X
  | [], _, u, h => by cases h
  | t :: Ts, [], u, h => by cases h
  | t :: Ts, x :: X, u, h => by
    rcases List.mem_cons.1 h with e | e
    · subst e
      exact ⟨⟨t, List.mem_cons_self .., rfl, rfl, rfl⟩, List.mem_cons_self ..⟩
    · obtain ⟨⟨v, h1, h2⟩, h3⟩ := polM_mem Ts X u e
      exact ⟨⟨v, List.mem_cons_of_mem _ h1, h2⟩, List.mem_cons_of_mem _ h3⟩
theorem dot_qEx : ∀ (Ts : List QT) (X : List Rat) (a : Nat), a < 12 → dotL X Ts a = qEx (polM Ts X) a
  | [], [], a, _ => rfl
  | [], x :: X, a, _ => rfl
  | t :: Ts, [], a, _ => rfl
  | t :: Ts, x :: X, a, ha => by
    show x * (rwT 12 t).getD a 0 + dotL X Ts a = qX x (qW ⟨t.a, t.b, t.c, x⟩) a + qEx (polM Ts X) a
    rw [dot_qEx Ts X a ha]
    congr 1
    show _ = x * qE (qW t) a
    rw [qE_Z _ (qW_all t), ← lzE_get 12 _ a ha]
    congr 1
    unfold rwT
    rw [List.getD_eq_getElem?_getD, List.getElem?_map, List.getD_eq_getElem?_getD, List.getElem?_eq_getElem (by rw [lzE_len]; exact ha)]
    rfl
end Ab
