/- 'x & (2^k - 1)' at int. Generic: no program is named. -/
import Derived.Laws.Bits128
import Derived.Laws.BitsLemmas
set_option linter.unusedVariables false
namespace Go.Proofs.Ytinlmodkdjpocaa
theorem i64_mask (k : Nat) (m : Int) (hk : k < 63) (hm : (BitVec.ofInt 64 m).toNat = 2 ^ k - 1) (n : Int) : bits .and .i64 n m = n % (2 ^ k : Nat) := by
  have key : (BitVec.ofInt 64 n &&& BitVec.ofInt 64 m).toNat = (n % ((2 ^ 64 : Nat) : Int)).toNat % 2 ^ k := by
    rw [BitVec.toNat_and, BitVec.toNat_ofInt, hm, Nat.and_two_pow_sub_one_eq_mod]
  show IntKind.i64.wrap ((BitVec.ofInt 64 n &&& BitVec.ofInt 64 m).toNat : Nat) = n % (2 ^ k : Nat)
  rw [key, IntKind.wrap_i64]
  have h1 : ((n % ((2 ^ 64 : Nat) : Int)).toNat : Int) = n % ((2 ^ 64 : Nat) : Int) := Int.toNat_of_nonneg (Int.emod_nonneg _ (by decide))
  have hd : ((2 ^ k : Nat) : Int) ∣ ((2 ^ 64 : Nat) : Int) := Int.natCast_dvd_natCast.2 (Nat.pow_dvd_pow 2 (by omega))
  have h2 : (((n % ((2 ^ 64 : Nat) : Int)).toNat % 2 ^ k : Nat) : Int) = n % (2 ^ k : Nat) := by
    rw [Int.natCast_emod, h1, Int.emod_emod_of_dvd _ hd]
  have h3 : (2 : Nat) ^ k ≤ 2 ^ 62 := Nat.pow_le_pow_right (by decide) (by omega)
  have h4 := Nat.mod_lt (n % ((2 ^ 64 : Nat) : Int)).toNat (show 2 ^ k > 0 from Nat.pow_pos (by decide))
  generalize (n % ((2 ^ 64 : Nat) : Int)).toNat % 2 ^ k = r at *
  rw [← h2]
  have h5 : (2 : Nat) ^ 62 = 4611686018427387904 := by decide
  omega
theorem i64_and15 (n : Int) : bits .and .i64 n 15 = n % 16 := i64_mask 4 15 (by decide) (by decide) n
theorem i64_and7 (n : Int) : bits .and .i64 n 7 = n % 8 := i64_mask 3 7 (by decide) (by decide) n
theorem i64_and3 (n : Int) : bits .and .i64 n 3 = n % 4 := i64_mask 2 3 (by decide) (by decide) n
theorem i64_and31 (n : Int) : bits .and .i64 n 31 = n % 32 := i64_mask 5 31 (by decide) (by decide) n
theorem i64_and63 (n : Int) : bits .and .i64 n 63 = n % 64 := i64_mask 6 63 (by decide) (by decide) n
theorem i64_and1 (n : Int) : bits .and .i64 n 1 = n % 2 := i64_mask 1 1 (by decide) (by decide) n
end Go.Proofs.Ytinlmodkdjpocaa
