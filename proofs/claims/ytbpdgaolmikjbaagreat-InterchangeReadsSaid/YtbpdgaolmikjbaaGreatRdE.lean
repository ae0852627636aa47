/- Integers of any size read. -/
import Derived.Test.YtbpdgaolmikjbaaGreatRdD
set_option linter.all false
namespace Ab
open Go Go.RowKit Go.Proofs Hp
set_option maxRecDepth 100000
set_option maxHeartbeats 4000000
def d4 (a b c d : Nat) : Nat := a + b * 2 ^ 8 + c * 2 ^ 16 + d * 2 ^ 24
def digs : Nat → List Nat → List Int
 | 0, _ => []
 | n + 1, a :: b :: c :: d :: l => (d4 a b c d : Nat) :: digs n l
 | _ + 1, _ => []
theorem Zfh : ∀ (n : Nat) (l : List Nat), 4 * n ≤ l.length → (digs n l).length = n
  | 0, _, _ => rfl
  | n + 1, [], h => by simp at h
  | n + 1, [_], h => by simp at h; omega
  | n + 1, [_, _], h => by simp at h; omega
  | n + 1, [_, _, _], h => by simp at h; omega
  | n + 1, a :: b :: c :: d :: l, h => by
    rw [digs, List.length_cons, Zfh n l (by simp at h; omega)]
theorem digs_ok : ∀ (n : Nat) (l : List Nat), By l → ∀ x, x ∈ digs n l → 0 ≤ x ∧ x < 4294967296
  | 0, _, _, x, hx => by cases hx
  | n + 1, [], _, x, hx => by cases hx
  | n + 1, [_], _, x, hx => by cases hx
  | n + 1, [_, _], _, x, hx => by cases hx
  | n + 1, [_, _, _], _, x, hx => by cases hx
  | n + 1, a :: b :: c :: d :: l, h, x, hx => by
    rw [digs] at hx
    rcases List.mem_cons.1 hx with rfl | hx
    · have h1 := h a (by simp)
      have h2 := h b (by simp)
      have h3 := h c (by simp)
      have h4 := h d (by simp)
      unfold d4
      omega
    · exact digs_ok n l (fun y hy => h y (by simp [hy])) x hx
theorem digs_flat : ∀ (ds : List Int) (tail : List Nat), (∀ d, d ∈ ds → 0 ≤ d ∧ d < 4294967296) → digs ds.length (ds.flatMap e4 ++ tail) = ds
  | [], _, _ => rfl
  | x :: ds, tail, h => by
    obtain ⟨h0, h1⟩ := h x (List.mem_cons_self ..)
    show digs (ds.length + 1) (x.toNat % 256 :: x.toNat / 256 % 256 :: x.toNat / 65536 % 256 :: x.toNat / 16777216 :: (ds.flatMap e4 ++ tail)) = _
    rw [digs, digs_flat ds tail fun d hd => h d (List.mem_cons_of_mem _ hd)]
    congr 1
    unfold d4
    omega
theorem digs_snoc : ∀ (i : Nat) (l : List Nat) {a b c d : Nat} {t : List Nat}, l.drop (4 * i) = a :: b :: c :: d :: t → digs (i + 1) l = digs i l ++ [((d4 a b c d : Nat) : Int)]
  | 0, l, a, b, c, d, t, h => by
    rw [Nat.mul_zero, List.drop_zero] at h
    subst h
    rw [digs, digs, digs]; rfl
  | i + 1, [], a, b, c, d, t, h => by simp at h
  | i + 1, [_], a, b, c, d, t, h => by rw [show 4 * (i + 1) = (4 * i + 3) + 1 by omega] at h; simp at h
  | i + 1, [_, _], a, b, c, d, t, h => by rw [show 4 * (i + 1) = (4 * i + 2) + 1 + 1 by omega] at h; simp at h
  | i + 1, [_, _, _], a, b, c, d, t, h => by rw [show 4 * (i + 1) = (4 * i + 1) + 1 + 1 + 1 by omega] at h; simp at h
  | i + 1, w :: x :: y :: z :: l, a, b, c, d, t, h => by
    rw [show 4 * (i + 1) = 4 * i + 1 + 1 + 1 + 1 by omega] at h
    simp only [List.drop_succ_cons] at h
    rw [digs, digs_snoc i l h, digs]; rfl
end Ab
