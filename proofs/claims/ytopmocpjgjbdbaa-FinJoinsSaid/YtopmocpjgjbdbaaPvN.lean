/- Numbers: masks and remainders, in the forms that a printed walk uses. -/
import Derived.Test.YtopmocpjgjbdbaaPvR
namespace Go.Pv
open Go.RowKit
theorem bits_mask (a : Int) (j : Nat) (hj : j < 63) : bits .and .i64 a (2 ^ j - 1) = a % 2 ^ j := by
  have h1 : (BitVec.ofInt 64 (2 ^ j - 1)).toNat = 2 ^ j - 1 := by
    rw [BitVec.toNat_ofInt]
    have h2 : (2 : Int) ^ j < 2 ^ 64 := by
      have : (2 : Nat) ^ j < 2 ^ 64 := Nat.pow_lt_pow_right (by omega) (by omega)
      exact_mod_cast this
    have h3 : (0 : Int) < 2 ^ j := by
      have : 0 < (2 : Nat) ^ j := Nat.pow_pos (by omega)
      exact_mod_cast this
    rw [Int.emod_eq_of_lt (by omega) (by simpa using (by omega : (2 : Int) ^ j - 1 < 2 ^ 64))]
    have : ((2 : Int) ^ j - 1) = (((2 : Nat) ^ j - 1 : Nat) : Int) := by
      have : 0 < (2 : Nat) ^ j := Nat.pow_pos (by omega)
      rw [Int.natCast_sub (by omega)]; simp
    rw [this]; simp
  have h4 : ((BitVec.ofInt 64 a).toNat &&& (2 ^ j - 1)) = (BitVec.ofInt 64 a).toNat % 2 ^ j := Nat.and_two_pow_sub_one_eq_mod _ _
  have h5 : (((BitVec.ofInt 64 a).toNat % 2 ^ j : Nat) : Int) = a % 2 ^ j := by
    rw [BitVec.toNat_ofInt]
    have hd : (2 : Int) ^ j ∣ 2 ^ 64 := ⟨2 ^ (64 - j), by rw [← Int.pow_add]; congr 1; omega⟩
    rw [Int.natCast_emod, Int.toNat_of_nonneg (Int.emod_nonneg _ (by decide))]
    have := Int.emod_emod_of_dvd a hd
    simpa using this
  have h6 : 0 ≤ a % 2 ^ j := Int.emod_nonneg _ (by
    have : 0 < (2 : Nat) ^ j := Nat.pow_pos (by omega)
    have : (0 : Int) < 2 ^ j := by exact_mod_cast this
    omega)
  have h7 : a % 2 ^ j < 9223372036854775808 := by
    have hp : (0 : Int) < 2 ^ j := by
      have : 0 < (2 : Nat) ^ j := Nat.pow_pos (by omega)
      exact_mod_cast this
    have h8 := Int.emod_lt_of_pos a hp
    have h9 : (2 : Int) ^ j ≤ 2 ^ 63 := by
      have : (2 : Nat) ^ j ≤ 2 ^ 63 := Nat.pow_le_pow_right (by omega) (by omega)
      exact_mod_cast this
    omega
  have h10 : (BitVec.ofInt 64 a &&& BitVec.ofInt 64 (2 ^ j - 1)).toNat = (BitVec.ofInt 64 a).toNat % 2 ^ j := by rw [BitVec.toNat_and, h1, h4]
  show IntKind.i64.wrap ((BitVec.ofInt 64 a &&& BitVec.ofInt 64 (2 ^ j - 1)).toNat : Int) = _
  rw [h10, h5]
  exact Go.IntWalk.i64_in _ ⟨by omega, by omega⟩
theorem ib_and7 (a : Int) : ibin .and .i64 a 7 = some (.int .i64 (a % 8)) := congrArg (fun x => some (Value.int .i64 x)) (bits_mask a 3 (by omega))
theorem ib_and63 (a : Int) : ibin .and .i64 a 63 = some (.int .i64 (a % 64)) := congrArg (fun x => some (Value.int .i64 x)) (bits_mask a 6 (by omega))
theorem ib_rem {k : IntKind} {a b : Int} (ha : 0 ≤ a) (hb : 0 < b) : ibin .rem k a b = some (.int k (a % b)) := by
  simp only [ibin]
  rw [if_neg (by omega), Int.tmod_eq_emod_of_nonneg ha]
theorem ofInt_nat {n : Nat} {a : Int} (h0 : 0 ≤ a) (h1 : a < 2 ^ n) : (BitVec.ofInt n a).toNat = a.toNat := by
  rw [BitVec.toNat_ofInt, Int.emod_eq_of_lt h0 (by exact_mod_cast h1)]
theorem bits_and_u8 {a b : Int} (ha : 0 ≤ a ∧ a ≤ 255) (hb : 0 ≤ b ∧ b ≤ 255) : bits .and .u8 a b = ((a.toNat &&& b.toNat : Nat) : Int) := by
  show IntKind.u8.wrap ((BitVec.ofInt 8 a &&& BitVec.ofInt 8 b).toNat : Int) = _
  rw [BitVec.toNat_and, ofInt_nat ha.1 (by omega), ofInt_nat hb.1 (by omega)]
  have : a.toNat &&& b.toNat ≤ a.toNat := Nat.and_le_left
  exact Go.IntWalk.u8_in _ ⟨by omega, by omega⟩
theorem bits_or_u8 {a b : Int} (ha : 0 ≤ a ∧ a ≤ 255) (hb : 0 ≤ b ∧ b ≤ 255) : bits .or .u8 a b = ((a.toNat ||| b.toNat : Nat) : Int) := by
  show IntKind.u8.wrap ((BitVec.ofInt 8 a ||| BitVec.ofInt 8 b).toNat : Int) = _
  rw [BitVec.toNat_or, ofInt_nat ha.1 (by omega), ofInt_nat hb.1 (by omega)]
  have : a.toNat ||| b.toNat < 2 ^ 8 := Nat.or_lt_two_pow (by omega) (by omega)
  exact Go.IntWalk.u8_in _ ⟨by omega, by omega⟩
theorem bits_xor_u8 {a b : Int} (ha : 0 ≤ a ∧ a ≤ 255) (hb : 0 ≤ b ∧ b ≤ 255) : bits .xor .u8 a b = ((a.toNat ^^^ b.toNat : Nat) : Int) := by
  show IntKind.u8.wrap ((BitVec.ofInt 8 a ^^^ BitVec.ofInt 8 b).toNat : Int) = _
  rw [BitVec.toNat_xor, ofInt_nat ha.1 (by omega), ofInt_nat hb.1 (by omega)]
  have : a.toNat ^^^ b.toNat < 2 ^ 8 := Nat.xor_lt_two_pow (by omega) (by omega)
  exact Go.IntWalk.u8_in _ ⟨by omega, by omega⟩
theorem bits_or_i64 {a b : Int} (ha : 0 ≤ a ∧ a < 9223372036854775808) (hb : 0 ≤ b ∧ b < 9223372036854775808) : bits .or .i64 a b = ((a.toNat ||| b.toNat : Nat) : Int) := by
  show IntKind.i64.wrap ((BitVec.ofInt 64 a ||| BitVec.ofInt 64 b).toNat : Int) = _
  rw [BitVec.toNat_or, ofInt_nat ha.1 (by omega), ofInt_nat hb.1 (by omega)]
  have : a.toNat ||| b.toNat < 2 ^ 63 := Nat.or_lt_two_pow (by omega) (by omega)
  exact Go.IntWalk.i64_in _ ⟨by omega, by omega⟩
theorem nat_mask {a m : Int} (j : Nat) (h0 : 0 ≤ a) (hm : m = 2 ^ j - 1) : ((a.toNat &&& m.toNat : Nat) : Int) = a % 2 ^ j := by
  have hp : 0 < (2 : Nat) ^ j := Nat.pow_pos (by omega)
  have e : m.toNat = 2 ^ j - 1 := by
    rw [hm]
    have : ((2 : Int) ^ j - 1) = ((2 ^ j - 1 : Nat) : Int) := by rw [Int.natCast_sub (by omega)]; simp
    rw [this]; simp
  rw [e, Nat.and_two_pow_sub_one_eq_mod, Int.natCast_emod, Int.toNat_of_nonneg h0]; simp
theorem nat_or_add {a b : Int} (j : Nat) (c : Int) (h0 : 0 ≤ a) (h1 : a < 2 ^ j) (hc : 0 ≤ c) (hb : b = 2 ^ j * c) : ((a.toNat ||| b.toNat : Nat) : Int) = a + b := by
  have h1' : a.toNat < 2 ^ j := by
    have : (a.toNat : Int) < ((2 ^ j : Nat) : Int) := by rw [Int.toNat_of_nonneg h0]; simpa using h1
    exact_mod_cast this
  have e : b.toNat = 2 ^ j * c.toNat := by
    have : b = ((2 ^ j * c.toNat : Nat) : Int) := by rw [hb]; simp [Int.toNat_of_nonneg hc]
    rw [this, Int.toNat_natCast]
  have hb0 : 0 ≤ b := by rw [hb]; exact Int.mul_nonneg (by have : 0 < (2 : Nat) ^ j := Nat.pow_pos (by omega); exact_mod_cast Nat.le_of_lt this) hc
  rw [Nat.or_comm, e, ← Nat.two_pow_add_eq_or_of_lt h1', ← e, Int.natCast_add, Int.toNat_of_nonneg h0, Int.toNat_of_nonneg hb0]; omega
theorem ib_and_u8 {a b r : Int} (j : Nat) (ha : 0 ≤ a ∧ a ≤ 255) (hb : 0 ≤ b ∧ b ≤ 255) (hm : b = 2 ^ j - 1) (hr : r = a % 2 ^ j) : ibin .and .u8 a b = some (.int .u8 r) := by
  subst hr; exact congrArg (fun x => some (Value.int .u8 x)) ((bits_and_u8 ha hb).trans (nat_mask j ha.1 hm))
theorem ib_andN_u8 {a b : Int} (ha : 0 ≤ a ∧ a ≤ 255) (hb : 0 ≤ b ∧ b ≤ 255) : ibin .and .u8 a b = some (.int .u8 ((a.toNat &&& b.toNat : Nat) : Int)) := congrArg (fun x => some (Value.int .u8 x)) (bits_and_u8 ha hb)
theorem ib_xorN_u8 {a b : Int} (ha : 0 ≤ a ∧ a ≤ 255) (hb : 0 ≤ b ∧ b ≤ 255) : ibin .xor .u8 a b = some (.int .u8 ((a.toNat ^^^ b.toNat : Nat) : Int)) := congrArg (fun x => some (Value.int .u8 x)) (bits_xor_u8 ha hb)
theorem ib_or_u8 {a b : Int} (j : Nat) (c : Int) (h0 : 0 ≤ a) (h1 : a < 2 ^ j) (hc : 0 ≤ c) (hb : b = 2 ^ j * c) (h2 : 0 ≤ b) (hs : a + b ≤ 255) : ibin .or .u8 a b = some (.int .u8 (a + b)) :=
  congrArg (fun x => some (Value.int .u8 x)) ((bits_or_u8 ⟨h0, by omega⟩ ⟨h2, by omega⟩).trans (nat_or_add j c h0 h1 hc hb))
theorem ib_or_i64 {a b : Int} (j : Nat) (c : Int) (h0 : 0 ≤ a) (h1 : a < 2 ^ j) (hc : 0 ≤ c) (hb : b = 2 ^ j * c) (h2 : 0 ≤ b) (hs : a + b < 9223372036854775808) : ibin .or .i64 a b = some (.int .i64 (a + b)) :=
  congrArg (fun x => some (Value.int .i64 x)) ((bits_or_i64 ⟨h0, by omega⟩ ⟨h2, by omega⟩).trans (nat_or_add j c h0 h1 hc hb))
theorem ib_andm {a m r : Int} (j : Nat) (hj : j < 63) (hm : m = 2 ^ j - 1) (hr : r = a % 2 ^ j) : ibin .and .i64 a m = some (.int .i64 r) := by
  subst hm hr; exact congrArg (fun x => some (Value.int .i64 x)) (bits_mask a j hj)
theorem ib_shl {k : IntKind} {a b r : Int} (hb : 0 ≤ b) (hn : b.toNat ≤ k.bits) (hr : k.wrap r = r) (he : r = a * 2 ^ b.toNat) : ishift .shl k a b = some (.int k r) := by
  simp only [ishift]
  rw [if_neg (by omega), Nat.min_eq_left hn, ← he, hr]
theorem ib_shr {k : IntKind} {a b r : Int} (hb : 0 ≤ b) (hn : b.toNat ≤ k.bits) (he : r = a / 2 ^ b.toNat) : ishift .shr k a b = some (.int k r) := by
  simp only [ishift]
  rw [if_neg (by omega), Nat.min_eq_left hn, he, Int.fdiv_eq_ediv_of_nonneg _ (by
    have : 0 < (2 : Nat) ^ b.toNat := Nat.pow_pos (by omega)
    exact_mod_cast Nat.le_of_lt this)]
theorem ib_quo {k : IntKind} {a b r : Int} (hb : 0 < b) (ha : 0 ≤ a) (hr : k.wrap r = r) (he : r = a / b) : ibin .quo k a b = some (.int k r) := by
  simp only [ibin]
  rw [if_neg (by omega), Int.tdiv_eq_ediv_of_nonneg ha, ← he, hr]
end Go.Pv
namespace Go.Pv
theorem ib_quoR {k : IntKind} {a b : Int} (hb : b ≠ 0) : ibin .quo k a b = some (.int k (k.wrap (a.tdiv b))) := by
  simp only [ibin]; rw [if_neg hb]
theorem wrap8_64 (x : Int) : IntKind.u8.wrap (IntKind.i64.wrap x) = x % 256 := by
  rw [IntKind.wrap_u8, IntKind.wrap_i64]; omega
end Go.Pv
