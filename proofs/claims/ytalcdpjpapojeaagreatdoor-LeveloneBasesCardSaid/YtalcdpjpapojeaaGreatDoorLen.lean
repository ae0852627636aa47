/- How many bits a digit has, and how many leading zeros. -/
import Derived.Test.YtalcdpjpapojeaaGreatDoorRows
import Derived.Lib.Strings
import Derived.Lib.Slices
import Derived.Lib.Small
import Derived.Lib.Walk
import Derived.Lib.BitFns
import Derived.Lib.ItoaNum
set_option linter.all false
namespace Hp
open Go Go.Proofs
set_option maxHeartbeats 4000000 in
set_option maxRecDepth 100000 in
theorem len32_lib (x : Int) (w : World) (h0 : 0 ≤ x) (h1 : x ≤ 4294967295) :
    Calls Tryz.prog 222 #[.int .u32 x] w fun e w' => e = .returned (.int .i64 (Lib.bitLen x.toNat)) ∧ w' = w := by
  go_enter Tryz.func222, Tryz.ntmps222
  go_wp2
  all_goals (go_ret; refine ⟨congrArg Ending.returned (congrArg (Value.int IntKind.i64) ?_), rfl⟩)
  all_goals first
    | (rw [Lib.len8_of (x / 65536 / 256 % 256) (by omega) (by omega)]
       have e : (x / 65536 / 256 % 256).toNat = x.toNat / 16777216 := by omega
       have l := Lib.bitLen_le8' (x / 65536 / 256 % 256) (by omega) (by omega)
       have s := Lib.bitLen_shift24 x.toNat (by omega) (by omega)
       rw [e] at l ⊢
       omega)
    | (rw [Lib.len8_of (x / 65536 % 256) (by omega) (by omega)]
       have e : (x / 65536 % 256).toNat = x.toNat / 65536 := by omega
       have l := Lib.bitLen_le8' (x / 65536 % 256) (by omega) (by omega)
       have s := Lib.bitLen_shift16 x.toNat (by omega) (by omega)
       rw [e] at l ⊢
       omega)
    | (rw [Lib.len8_of (x / 256 % 256) (by omega) (by omega)]
       have e : (x / 256 % 256).toNat = x.toNat / 256 := by omega
       have l := Lib.bitLen_le8' (x / 256 % 256) (by omega) (by omega)
       have s := Lib.bitLen_shift8 x.toNat (by omega) (by omega)
       rw [e] at l ⊢
       omega)
    | (rw [Lib.len8_of (x % 256) (by omega) (by omega)]
       have e : (x % 256).toNat = x.toNat := by omega
       have l := Lib.bitLen_le8' (x % 256) (by omega) (by omega)
       rw [e] at l ⊢
       omega)
theorem lz32_lib (x : Int) (w : World) (h0 : 0 ≤ x) (h1 : x ≤ 4294967295) :
  Calls Tryz.prog 205 #[.int .u32 x] w fun e w' => e = .returned (.int .i64 (32 - (Lib.bitLen x.toNat : Int))) ∧ w' = w := by
 have l := Lib.bitLen_le x.toNat 32 (by omega) (by omega)
 have e8 : (32 - (Lib.bitLen x.toNat : Int) + 9223372036854775808) % 18446744073709551616 - 9223372036854775808 = 32 - (Lib.bitLen x.toNat : Int) := by omega
 go_enter Tryz.func205, Tryz.ntmps205
 go_wp2_with (go_at_call 222; refine (len32_lib x _ h0 h1).mono ?_; rintro e w' ⟨rfl, rfl⟩)
 go_ret
 refine ⟨?_, rfl⟩
 rw [← e8]
 rfl
theorem lz_spec (x : Nat) (h0 : x ≠ 0) (h1 : x < 4294967296) : ∃ s : Nat, (32 - (Lib.bitLen x : Int)) = s ∧ s ≤ 31 ∧ 2147483648 ≤ x * 2 ^ s ∧ x * 2 ^ s < 4294967296 := by
 obtain ⟨a, b, c⟩ := Lib.bitLenAux_bounds 64 x (by omega) h0
 have l := Lib.bitLen_le x 32 (by omega) (by omega)
 unfold Lib.bitLen at *
 generalize Lib.bitLenAux 64 x = k at *
 refine ⟨32 - k, by omega, by omega, ?_, ?_⟩
 ·have e : 2 ^ (k - 1) * 2 ^ (32 - k) = 2147483648 := by rw [← Nat.pow_add, show k - 1 + (32 - k) = 31 from by omega]
  calc 2147483648 = 2 ^ (k - 1) * 2 ^ (32 - k) := e.symm
   _ ≤ x * 2 ^ (32 - k) := Nat.mul_le_mul_right _ b
 ·have e : 2 ^ k * 2 ^ (32 - k) = 4294967296 := by rw [← Nat.pow_add, show k + (32 - k) = 32 from by omega]
  calc x * 2 ^ (32 - k) < 2 ^ k * 2 ^ (32 - k) := Nat.mul_lt_mul_of_pos_right c (Nat.pow_pos (by omega))
   _ = 4294967296 := e
end Hp
