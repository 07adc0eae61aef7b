/-
  Plain facts about numbers as bytes: signs turned into the last bit, and groups of seven bits.
-/
import Derived.WalkKit
import Derived.IntWalk
namespace Go.Gh
open Go.RowKit

theorem u64_xor_zero (x : Int) (h0 : 0 ≤ x) (h1 : x < 18446744073709551616) : bits .xor .u64 x 0 = x := by
  rw [u64_xor x 0 h0 h1 (by decide) (by decide)]
  simp [Int.toNat_of_nonneg h0]

theorem u64_xor_ones (x : Int) (h0 : 0 ≤ x) (h1 : x < 18446744073709551616) : bits .xor .u64 x 18446744073709551615 = 18446744073709551615 - x := by
  obtain ⟨n, rfl⟩ := Int.eq_ofNat_of_zero_le h0
  have hn : n < 2 ^ 64 := by omega
  rw [u64_xor _ _ h0 h1 (by decide) (by decide), Int.toNat_natCast]
  have e : (18446744073709551615 : Int).toNat = (BitVec.allOnes 64).toNat := by decide
  have e2 : n = (BitVec.ofNat 64 n).toNat := by simp [Nat.mod_eq_of_lt hn]
  rw [e]
  have e3 : n ^^^ (BitVec.allOnes 64).toNat = (BitVec.ofNat 64 n ^^^ BitVec.allOnes 64).toNat := by rw [BitVec.toNat_xor, ← e2]
  rw [e3, BitVec.xor_allOnes, BitVec.toNat_not, ← e2]
  omega

theorem i64_xor_zero (a : Int) (h0 : 0 ≤ a) (h1 : a < 9223372036854775808) : bits .xor .i64 a 0 = a := by
  have e : BitVec.ofInt 64 0 = 0#64 := rfl
  show IntKind.i64.wrap ((BitVec.ofInt 64 a ^^^ BitVec.ofInt 64 0).toNat : Int) = a
  rw [e, BitVec.xor_zero, BitVec.toNat_ofInt, Int.toNat_of_nonneg (by omega)]
  rw [IntKind.wrap_i64]
  omega

theorem i64_xor_ones (a : Int) (h0 : 0 ≤ a) (h1 : a < 9223372036854775808) : bits .xor .i64 a (-1) = -a - 1 := by
  have e : BitVec.ofInt 64 (-1) = BitVec.allOnes 64 := by decide
  show IntKind.i64.wrap ((BitVec.ofInt 64 a ^^^ BitVec.ofInt 64 (-1)).toNat : Int) = -a - 1
  rw [e, BitVec.xor_allOnes, BitVec.toNat_not, BitVec.toNat_ofInt]
  rw [IntKind.wrap_i64]
  omega

theorem and_one (u : Int) (h0 : 0 ≤ u) (h1 : u < 18446744073709551616) : bits .and .u64 u 1 = u % 2 := by
  rw [u64_and u 1 h0 h1 (by decide) (by decide)]
  have e : (1 : Int).toNat = 1 := rfl
  rw [e, nat_mask1]
  omega
end Go.Gh
