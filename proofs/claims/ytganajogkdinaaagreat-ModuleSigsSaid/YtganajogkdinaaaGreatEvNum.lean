/- Ev: numbers: bits. -/
import Derived.Test.YtganajogkdinaaaGreatEvSym3
set_option linter.all false
namespace Go.Ev

theorem bv64 {n : Int} (h0 : 0 ≤ n) (h1 : n < 18446744073709551616) : (BitVec.ofInt 64 n).toNat = n.toNat := by
  rw [BitVec.toNat_ofInt]; omega
theorem bv8 {n : Int} (h0 : 0 ≤ n) (h1 : n < 256) : (BitVec.ofInt 8 n).toNat = n.toNat := by
  rw [BitVec.toNat_ofInt]; omega
theorem u64_id {n : Int} (h0 : 0 ≤ n) (h1 : n < 18446744073709551616) : IntKind.u64.wrap n = n := wrap_inR (k := .u64) ⟨h0, by omega⟩
theorem u8_id {n : Int} (h0 : 0 ≤ n) (h1 : n < 256) : IntKind.u8.wrap n = n := wrap_inR (k := .u8) ⟨h0, by omega⟩
/-- n & (2^j - 1), of 64 bits. -/
theorem and64 {n m : Int} {j : Nat} (hm : m = 2 ^ j - 1) (hj : j ≤ 64) (h0 : 0 ≤ n) (h1 : n < 18446744073709551616) : IntKind.u64.wrap ((BitVec.ofInt 64 n &&& BitVec.ofInt 64 m).toNat) = n % 2 ^ j := by
  have hp : (1 : Nat) ≤ 2 ^ j := Nat.one_le_two_pow
  have hp2 : 2 ^ j ≤ 2 ^ 64 := Nat.pow_le_pow_right (by omega) hj
  have hmn : m = ((2 ^ j - 1 : Nat) : Int) := by rw [hm]; push_cast [hp]; rfl
  have e : (BitVec.ofInt 64 n &&& BitVec.ofInt 64 m).toNat = n.toNat % 2 ^ j := by
    rw [BitVec.toNat_and, bv64 h0 h1, bv64 (by omega) (by omega), hmn, Int.toNat_natCast, Nat.and_two_pow_sub_one_eq_mod]
  rw [e]
  have hlt : n.toNat % 2 ^ j ≤ n.toNat := Nat.mod_le _ _
  rw [u64_id (by omega) (by omega)]
  push_cast
  rw [Int.toNat_of_nonneg h0]
/-- x | 128, of 8 bits. -/
theorem or128 {x : Int} (h0 : 0 ≤ x) (h1 : x < 128) : IntKind.u8.wrap ((BitVec.ofInt 8 x ||| BitVec.ofInt 8 128).toNat) = x + 128 := by
  have e : (BitVec.ofInt 8 x ||| BitVec.ofInt 8 128).toNat = x.toNat + 128 := by
    rw [BitVec.toNat_or, bv8 h0 (by omega), bv8 (by omega) (by omega)]
    have := Nat.two_pow_add_eq_or_of_lt (i := 7) (b := x.toNat) (by omega) 1
    simp only [Nat.mul_one, show (2 : Nat) ^ 7 = 128 from rfl] at this
    rw [Nat.or_comm, show (128 : Int).toNat = 128 from rfl]
    omega
  rw [e, u8_id (by omega) (by omega)]
  omega
end Go.Ev
