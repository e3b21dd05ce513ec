/- Numbers: masks and remainders, in the forms that a printed walk uses. -/
import Derived.Test.YtopmocpjgjbdbaaPvR
namespace Go.Pv
open Go.RowKit
theorem bits_mask (a : Int) (j : Nat) (hj : j < 63) : bits .and .i64 a (2 ^ j - 1) = a % 2 ^ j := by
  have h1 : (BitVec.ofInt 64 (2 ^ j - 1)).toNat = 2 ^ j - 1 := by
    rw [BitVec.toNat_ofInt]
    have h2 : (2 : Int) ^ j < 2 ^ 64 := by
      have : (2 : Nat) ^ j < 2 ^ 64 := Nat.pow_lt_pow_right (by omega) (by omega)
      exact_mod_cast this
    have h3 : (0 : Int) < 2 ^ j := by
      have : 0 < (2 : Nat) ^ j := Nat.pow_pos (by omega)
      exact_mod_cast this
    rw [Int.emod_eq_of_lt (by omega) (by simpa using (by omega : (2 : Int) ^ j - 1 < 2 ^ 64))]
    have : ((2 : Int) ^ j - 1) = (((2 : Nat) ^ j - 1 : Nat) : Int) := by
      have : 0 < (2 : Nat) ^ j := Nat.pow_pos (by omega)
      rw [Int.natCast_sub (by omega)]; simp
    rw [this]; simp
  have h4 : ((BitVec.ofInt 64 a).toNat &&& (2 ^ j - 1)) = (BitVec.ofInt 64 a).toNat % 2 ^ j := Nat.and_two_pow_sub_one_eq_mod _ _
  have h5 : (((BitVec.ofInt 64 a).toNat % 2 ^ j : Nat) : Int) = a % 2 ^ j := by
    rw [BitVec.toNat_ofInt]
    have hd : (2 : Int) ^ j ∣ 2 ^ 64 := ⟨2 ^ (64 - j), by rw [← Int.pow_add]; congr 1; omega⟩
    rw [Int.natCast_emod, Int.toNat_of_nonneg (Int.emod_nonneg _ (by decide))]
    have := Int.emod_emod_of_dvd a hd
    simpa using this
  have h6 : 0 ≤ a % 2 ^ j := Int.emod_nonneg _ (by
    have : 0 < (2 : Nat) ^ j := Nat.pow_pos (by omega)
    have : (0 : Int) < 2 ^ j := by exact_mod_cast this
    omega)
  have h7 : a % 2 ^ j < 9223372036854775808 := by
    have hp : (0 : Int) < 2 ^ j := by
      have : 0 < (2 : Nat) ^ j := Nat.pow_pos (by omega)
      exact_mod_cast this
    have h8 := Int.emod_lt_of_pos a hp
    have h9 : (2 : Int) ^ j ≤ 2 ^ 63 := by
      have : (2 : Nat) ^ j ≤ 2 ^ 63 := Nat.pow_le_pow_right (by omega) (by omega)
      exact_mod_cast this
    omega
  have h10 : (BitVec.ofInt 64 a &&& BitVec.ofInt 64 (2 ^ j - 1)).toNat = (BitVec.ofInt 64 a).toNat % 2 ^ j := by rw [BitVec.toNat_and, h1, h4]
  show IntKind.i64.wrap ((BitVec.ofInt 64 a &&& BitVec.ofInt 64 (2 ^ j - 1)).toNat : Int) = _
  rw [h10, h5]
  exact Go.IntWalk.i64_in _ ⟨by omega, by omega⟩
theorem ib_and7 (a : Int) : ibin .and .i64 a 7 = some (.int .i64 (a % 8)) := congrArg (fun x => some (Value.int .i64 x)) (bits_mask a 3 (by omega))
theorem ib_and63 (a : Int) : ibin .and .i64 a 63 = some (.int .i64 (a % 64)) := congrArg (fun x => some (Value.int .i64 x)) (bits_mask a 6 (by omega))
theorem ib_rem {k : IntKind} {a b : Int} (ha : 0 ≤ a) (hb : 0 < b) : ibin .rem k a b = some (.int k (a % b)) := by
  simp only [ibin]
  rw [if_neg (by omega), Int.tmod_eq_emod_of_nonneg ha]
end Go.Pv
