/- Fractions with a bound on their digits, and what follows for sums and products; the test for 1 of any integer. -/
import Derived.Test.YtmcfohngblbpbaaRatB
namespace Hp
open Go Go.RowKit Go.Proofs

/-- u is a fraction of value q, of numbers of at most k digits, not always in lowest terms -/
def RatV (w : World) (u : Value) (k : Nat) (q : Rat) : Prop := ∃ p d, RatR w u k p d ∧ q = Rat.divInt p d
theorem RatV.below {w w' : World} {u : Value} {k : Nat} {q : Rat} (h : RatV w u k q) (hb : Below w.heap.size w w') : RatV w' u k q := by
  obtain ⟨p, d, h1, h2⟩ := h
  exact ⟨p, d, h1.below hb, h2⟩
theorem IntR.agg {w : World} {u : Value} {k : Nat} {z : Int} (h : IntR w u k z) : ∃ b a n c, u = .agg #[.bool b, .slice a n c] := by
  obtain ⟨g, s, n, f, rfl, ⟨a, c, rfl, _⟩, _⟩ := h
  exact ⟨g, a, n, c, rfl⟩
theorem RatV.open {w : World} {u : Value} {k : Nat} {q : Rat} (h : RatV w u k q) :
    ∃ (x : Bool) (a : Option Addr) (n c : Nat) (x' : Bool) (a' : Option Addr) (n' c' : Nat) (p d : Int), u = .agg #[.bool x, .slice a n c, .bool x', .slice a' n' c'] ∧ IntR w (.agg #[.bool x, .slice a n c]) k p ∧ IntR w (.agg #[.bool x', .slice a' n' c']) k d ∧ q = Rat.divInt p d := by
  obtain ⟨p, d, ⟨a0, a1, b0, b1, rfl, h1, h2⟩, hq⟩ := h
  obtain ⟨b, a, n, c, e1⟩ := h1.agg
  obtain ⟨b', a', n', c', e2⟩ := h2.agg
  injection e1 with e1; injection e1 with e1; simp at e1
  injection e2 with e2; injection e2 with e2; simp at e2
  obtain ⟨rfl, rfl⟩ := e1
  obtain ⟨rfl, rfl⟩ := e2
  exact ⟨b, a, n, c, b', a', n', c', p, d, rfl, h1, h2, hq⟩
/-- numerator and denominator have at most k digits -/
def Ht (q : Rat) (k : Nat) : Prop := q.num.natAbs < pw k ∧ (q.den : Int) < pw k
theorem Ht.mono {q : Rat} {k l : Nat} (h : Ht q k) (hl : k ≤ l) : Ht q l := ⟨Int.lt_of_lt_of_le h.1 (pw_le _ _ hl), Int.lt_of_lt_of_le h.2 (pw_le _ _ hl)⟩
theorem RatC.v {w : World} {u : Value} {q : Rat} {k : Nat} (h : RatC w u q) (hk : Ht q k) : RatV w u k q := by
  obtain ⟨a0, a1, b0, b1, e, h1, h2⟩ := h
  exact ⟨q.num, q.den, ⟨a0, a1, b0, b1, e, h1.raw hk.1, h2.raw (by rw [Int.natAbs_natCast]; exact hk.2)⟩, (Rat.num_divInt_den q).symm⟩
theorem mul_lt_pw {a b : Int} {k l : Nat} (ha : a.natAbs < pw k) (hb : b.natAbs < pw l) : (a * b).natAbs < pw (k + l) := by
  rw [pw_add, Int.natAbs_mul, Int.natCast_mul]
  have h1 : (a.natAbs : Int) * b.natAbs ≤ a.natAbs * pw l := Int.mul_le_mul_of_nonneg_left (by omega) (by omega)
  have h2 : (a.natAbs : Int) * pw l < pw k * pw l := Int.mul_lt_mul_of_pos_right ha (pw_pos l)
  omega
theorem add_lt_pw {a b : Int} {k : Nat} (ha : a.natAbs < pw k) (hb : b.natAbs < pw k) : (a + b).natAbs < pw (k + 1) := by
  have h1 : pw (k + 1) = pw k * 4294967296 := rfl
  have h2 := pw_pos k
  omega
theorem big_of {z : Int} {k : Nat} (h : z.natAbs < pw k) (hk : k ≤ 8796093022208) : z.natAbs < BIG := Int.lt_of_lt_of_le h (big_le hk)
theorem divInt_ht {p d : Int} {k : Nat} (hp : p.natAbs < pw k) (hd : d.natAbs < pw k) (hk : 1 ≤ k) : Ht (Rat.divInt p d) k := by
  have h1 : (1 : Int) < pw k := by
    have := pw_le 1 k hk
    have e : pw 1 = 4294967296 := by decide
    omega
  by_cases h0 : d = 0
  · subst h0
    rw [Rat.divInt_zero]
    exact ⟨by have := pw_pos k; simpa using this, by simpa using h1⟩
  · have hpos : ∀ {p d : Int}, 0 < d → p.natAbs < pw k → d.natAbs < pw k → Ht (Rat.divInt p d) k := by
      intro p d h hp hd
      obtain ⟨e1, e2⟩ := divInt_parts (n := p) h
      have g := gcdZ_pos (n := p) h
      refine ⟨?_, ?_⟩
      · rw [e1]
        have := Int.natAbs_ediv_le_natAbs p (gcdZ p d)
        omega
      · rw [e2]
        have := Int.ediv_le_self (gcdZ p d) (a := d) (by omega)
        omega
    rcases Int.lt_or_gt_of_ne h0 with h | h
    · rw [← Rat.neg_divInt_neg]
      exact hpos (by omega) (by omega) (by omega)
    · exact hpos h hp hd
theorem RatV.ht {w : World} {u : Value} {k : Nat} {q : Rat} (h : RatV w u k q) (hk : 1 ≤ k) : Ht q k := by
  obtain ⟨p, d, ⟨a0, a1, b0, b1, _, h1, h2⟩, rfl⟩ := h
  exact divInt_ht h1.lt h2.lt hk
theorem ht_den_pos (q : Rat) : (0 : Int) < q.den := by have := q.den_pos; omega
theorem ht_mul {q r : Rat} {k l : Nat} (hq : Ht q k) (hr : Ht r l) (hk : 1 ≤ k) : Ht (q * r) (k + l) := by
  have e : q * r = Rat.divInt (q.num * r.num) (q.den * r.den) := by
    conv => lhs; rw [← Rat.num_divInt_den q, ← Rat.num_divInt_den r, Rat.divInt_mul_divInt]
  rw [e]
  exact divInt_ht (mul_lt_pw hq.1 hr.1) (mul_lt_pw (by rw [Int.natAbs_natCast]; exact hq.2) (by rw [Int.natAbs_natCast]; exact hr.2)) (by omega)
theorem ht_add {q r : Rat} {k l : Nat} (hq : Ht q k) (hr : Ht r l) : Ht (q + r) (k + l + 1) := by
  have h1 := ht_den_pos q
  have h2 := ht_den_pos r
  have e : q + r = Rat.divInt (q.num * r.den + r.num * q.den) (q.den * r.den) := by
    conv => lhs; rw [← Rat.num_divInt_den q, ← Rat.num_divInt_den r, Rat.divInt_add_divInt _ _ (by omega) (by omega)]
  rw [e]
  have a1 : ((q.den : Int)).natAbs < pw k := by rw [Int.natAbs_natCast]; exact hq.2
  have a2 : ((r.den : Int)).natAbs < pw l := by rw [Int.natAbs_natCast]; exact hr.2
  refine divInt_ht (add_lt_pw (mul_lt_pw hq.1 a2) (by rw [Nat.add_comm k l]; exact mul_lt_pw hr.1 a1)) ?_ (by omega)
  exact Int.lt_of_lt_of_le (mul_lt_pw a1 a2) (pw_le _ _ (by omega))
theorem ht_neg {q : Rat} {k : Nat} (hq : Ht q k) : Ht (-q) k := by
  refine ⟨?_, ?_⟩
  · rw [Rat.neg_num, Int.natAbs_neg]; exact hq.1
  · rw [Rat.neg_den]; exact hq.2
theorem ht_inv {q : Rat} {k : Nat} (hq : Ht q k) (hk : 1 ≤ k) : Ht q⁻¹ k := by
  rw [Rat.inv_def]
  exact divInt_ht (by rw [Int.natAbs_natCast]; exact hq.2) hq.1 hk

def OneR (z : Int) (_ : World) (u : Value) : Prop := ∃ b, u = .bool b ∧ (b = true → z = 1)
set_option maxHeartbeats 2000000 in
/-- the test for 1 of any integer: it says yes only of 1 -/
theorem one_r {w : World} {u : Value} {k : Nat} {z : Int} (h : IntR w u k z) (hk : k ≤ 8796093022208) : Calls Try.prog 76 #[u] w (Ret w (OneR z)) := by
  obtain ⟨ng, s, n, f, rfl, hd, hn, hz⟩ := h
  have HZ := Lib.hid hz
  clear hz
  obtain ⟨a, cap, rfl, hcap, hd⟩ := hd
  by_cases h1 : n = 1
  · subst h1
    rcases hd with hd | ⟨b, off, rfl, hd⟩
    · omega
    have hq0 : w.cell? ⟨b, off, none⟩ = some (.int .u32 (f 0)) := hd.cell 0 (by omega)
    have hq : (w.alloc (.cells #[.bool ng, .slice (some ⟨b, off, none⟩) 1 cap] 35)).cell? ⟨b, off, none⟩ = some (.int .u32 (f 0)) := (cell_old (lt_of_cell hq0)).trans hq0
    clear hd hq0
    by_cases h2 : f 0 = 1
    · have HX := Lib.hid h2
      have hb : (f 0 == 1) = true := by simp [h2]
      clear h2
      cases ng
      · go_enter Try.func76, Try.ntmps76
        go_wp2
        go_ret
        exact .mk rfl (below_new _) ⟨true, rfl, fun _ => by rw [HZ.out]; simp [zof, val, pw, HX.out]⟩
      · go_enter Try.func76, Try.ntmps76
        go_wp2
        go_ret
        exact .mk rfl (below_new _) ⟨false, rfl, fun e => by cases e⟩
    · have hb : (f 0 == 1) = false := by simp [h2]
      clear h2
      go_enter Try.func76, Try.ntmps76
      go_wp2
      go_ret
      exact .mk rfl (below_new _) ⟨false, rfl, fun e => by cases e⟩
  · have hb : ((n : Int) == 1) = false := by simp; omega
    clear h1 hd
    go_enter Try.func76, Try.ntmps76
    go_wp2
    go_ret
    exact .mk rfl (below_new _) ⟨false, rfl, fun e => by cases e⟩
end Hp
