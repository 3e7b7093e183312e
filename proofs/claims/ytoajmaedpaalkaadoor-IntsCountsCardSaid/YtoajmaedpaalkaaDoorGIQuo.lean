/- Ints: quotients, turns. -/
import Derived.Test.YtoajmaedpaalkaaDoorGIDo
set_option linter.all false
namespace Go.R2D
open Go Go.Ev
set_option maxRecDepth 100000

/-! quotients -/
theorem sgn_zero {n : Nat} {b : Int} (hb0 : 0 ≤ b) (hb1 : b < 2 ^ n) (h : b ≠ 0) : sgn n b ≠ 0 := by
  unfold sgn
  rw [Int.emod_eq_of_lt hb0 hb1]
  split <;> omega
def quoS (n : Nat) (a b : Int) : Int × Int := if b = 0 then (0, 2) else if sgn n b = -1 ∧ sgn n a = -(2 ^ (n - 1)) then (0, 3) else (icv .u64 (iquo .i64 (sgn n a) (sgn n b)), 0)
def remS (n : Nat) (a b : Int) : Int × Int := if b = 0 then (0, 2) else if sgn n b = -1 then (0, 0) else (icv .u64 (irem .i64 (sgn n a) (sgn n b)), 0)
def quoU (a b : Int) : Int × Int := if b = 0 then (0, 2) else (iquo .u64 a b, 0)
def remU (a b : Int) : Int × Int := if b = 0 then (0, 2) else (irem .u64 a b, 0)
/-- What is asked of a number of bits. -/
structure Bits (n : Nat) : Prop where
  c : cl (n : Int) = n
  z : (0 : Int) ≤ isub .i64 (n : Int) 1
  l : sgn n (ishl .u64 1 (isub .i64 (n : Int) 1)) = -(2 ^ (n - 1))
  p : 1 ≤ n
  m : n ≤ 64
theorem bits32 : Bits 32 := ⟨by decide, by decide, by decide, by decide, by decide⟩
theorem bits64 : Bits 64 := ⟨by decide, by decide, by decide, by decide, by decide⟩
theorem quo_6 {n : Nat} (h : Bits n) (k : Nat) {a b : Int} (hb0 : 0 ≤ b) (hb1 : b < 2 ^ n) : ints_quotient.f (k + 2) 6 a b (n : Int) = some (quoS n a b) := by
  simp only [ints_quotient.f, sign_ok, h.c, Option.bind_some, if_pos h.z, h.l]
  unfold quoS
  by_cases hb : b = 0
  · simp [hb]
  · have hY := sgn_zero hb0 hb1 hb
    by_cases h1 : sgn n b = -1
    · by_cases h2 : sgn n a = -(2 ^ (n - 1)) <;> simp [hb, h1, h2, segB]
    · simp [hb, h1, hY, segB]
theorem quo_8 {n : Nat} (h : Bits n) (k : Nat) {a b : Int} (hb0 : 0 ≤ b) (hb1 : b < 2 ^ n) : ints_quotient.f (k + 2) 8 a b (n : Int) = some (remS n a b) := by
  simp only [ints_quotient.f, sign_ok, h.c, Option.bind_some, if_pos h.z, h.l]
  unfold remS
  by_cases hb : b = 0
  · simp [hb]
  · have hY := sgn_zero hb0 hb1 hb
    by_cases h1 : sgn n b = -1
    · simp [hb, h1, segB]
    · simp [hb, h1, hY, segB]
theorem quo_7 {n : Nat} (h : Bits n) (k : Nat) (a b : Int) : ints_quotient.f (k + 2) 7 a b (n : Int) = some (quoU a b) := by
  simp only [ints_quotient.f, sign_ok, h.c, Option.bind_some, if_pos h.z, h.l]
  unfold quoU
  by_cases hb : b = 0
  · simp [hb]
  · simp [hb, segB]
theorem quo_9 {n : Nat} (h : Bits n) (k : Nat) (a b : Int) : ints_quotient.f (k + 2) 9 a b (n : Int) = some (remU a b) := by
  simp only [ints_quotient.f, sign_ok, h.c, Option.bind_some, if_pos h.z, h.l]
  unfold remU
  by_cases hb : b = 0
  · simp [hb]
  · simp [hb, segB]
theorem div_0 {n : Nat} (h : Bits n) (hi : icv .u64 (isub .i64 (n : Int) 1) = isub .i64 (n : Int) 1) (k : Nat) {a b : Int} (hb0 : 0 ≤ b) (hb1 : b < 2 ^ n) : ref1_divide.f (k + 2) 0 a b (n : Int) = some (quoS n a b) := by
  simp only [ref1_divide.f, sign3_ok, h.c, Option.bind_some, hi, if_pos h.z, h.l]
  unfold quoS
  by_cases hb : b = 0
  · simp [hb]
  · have hY := sgn_zero hb0 hb1 hb
    by_cases h1 : sgn n b = -1
    · by_cases h2 : sgn n a = -(2 ^ (n - 1)) <;> simp [hb, h1, h2, segB]
    · by_cases h2 : sgn n a = -(2 ^ (n - 1)) <;> simp [hb, h1, h2, hY, segB]
theorem div_2 {n : Nat} (h : Bits n) (hi : icv .u64 (isub .i64 (n : Int) 1) = isub .i64 (n : Int) 1) (k : Nat) {a b : Int} (hb0 : 0 ≤ b) (hb1 : b < 2 ^ n) : ref1_divide.f (k + 2) 2 a b (n : Int) = some (remS n a b) := by
  simp only [ref1_divide.f, sign3_ok, h.c, Option.bind_some, hi, if_pos h.z, h.l]
  unfold remS
  by_cases hb : b = 0
  · simp [hb]
  · have hY := sgn_zero hb0 hb1 hb
    by_cases h1 : sgn n b = -1
    · simp [hb, h1, segB]
    · simp [hb, h1, hY, segB]
theorem div_1 {n : Nat} (h : Bits n) (hi : icv .u64 (isub .i64 (n : Int) 1) = isub .i64 (n : Int) 1) (k : Nat) (a b : Int) : ref1_divide.f (k + 2) 1 a b (n : Int) = some (quoU a b) := by
  simp only [ref1_divide.f, sign3_ok, h.c, Option.bind_some, hi, if_pos h.z, h.l]
  unfold quoU
  by_cases hb : b = 0
  · simp [hb]
  · simp [hb, segB]
theorem div_3 {n : Nat} (h : Bits n) (hi : icv .u64 (isub .i64 (n : Int) 1) = isub .i64 (n : Int) 1) (k : Nat) (a b : Int) : ref1_divide.f (k + 2) 3 a b (n : Int) = some (remU a b) := by
  simp only [ref1_divide.f, sign3_ok, h.c, Option.bind_some, hi, if_pos h.z, h.l]
  unfold remU
  by_cases hb : b = 0
  · simp [hb]
  · simp [hb, segB]
/-! turns -/
theorem ior_comm (a b : Int) : ior .u64 a b = ior .u64 b a := by unfold ior; rw [BitVec.or_comm]
theorem ior_add {h v : Int} {s : Nat} (h0 : 0 ≤ h) (v0 : 0 ≤ v) (v1 : v < 2 ^ s) (hb : h * 2 ^ s + v < 18446744073709551616) : ior .u64 (h * 2 ^ s) v = h * 2 ^ s + v := by
  have p := pow_pos s
  have u0 : 0 ≤ h * 2 ^ s := Int.mul_nonneg h0 (Int.le_of_lt p)
  unfold ior
  rw [BitVec.toNat_or]
  have e1 : (BitVec.ofInt IntKind.u64.bits (h * 2 ^ s)).toNat = 2 ^ s * h.toNat := by
    rw [show IntKind.u64.bits = 64 from rfl, bv64 u0 (by omega), Int.mul_comm, Int.toNat_mul (Int.le_of_lt p) h0]
    rfl
  have e2 : (BitVec.ofInt IntKind.u64.bits v).toNat = v.toNat := bv64 v0 (by omega)
  rw [e1, e2, ← Nat.two_pow_add_eq_or_of_lt (by have : ((v.toNat : Nat) : Int) < ((2 ^ s : Nat) : Int) := by push_cast; omega
                                                exact_mod_cast this)]
  have e3 : ((2 ^ s * h.toNat + v.toNat : Nat) : Int) = h * 2 ^ s + v := by
    push_cast
    rw [Int.toNat_of_nonneg h0, Int.toNat_of_nonneg v0, Int.mul_comm]
  rw [e3, wrapU]
  omega
def rot (W s : Nat) (x : Int) : Int := (x % 2 ^ (W - s)) * 2 ^ s + x / 2 ^ (W - s)
theorem rot_parts {W s : Nat} (hs : s ≤ W) {x : Int} (h0 : 0 ≤ x) (h1 : x < 2 ^ W) : 0 ≤ x % 2 ^ (W - s) ∧ x % 2 ^ (W - s) < 2 ^ (W - s) ∧ 0 ≤ x / 2 ^ (W - s) ∧ x / 2 ^ (W - s) < 2 ^ s := by
  have p := pow_pos (W - s)
  refine ⟨Int.emod_nonneg _ (Int.ne_of_gt p), Int.emod_lt_of_pos _ p, Int.ediv_nonneg h0 (Int.le_of_lt p), Int.ediv_lt_of_lt_mul p ?_⟩
  rw [← Int.pow_add, show s + (W - s) = W from by omega]; exact h1
theorem rot_range {W s : Nat} (hs : s ≤ W) {x : Int} (h0 : 0 ≤ x) (h1 : x < 2 ^ W) : 0 ≤ rot W s x ∧ rot W s x < 2 ^ W := by
  obtain ⟨g1, g2, g3, g4⟩ := rot_parts hs h0 h1
  have p := pow_pos s
  unfold rot
  have a0 := Int.mul_nonneg g1 (Int.le_of_lt p)
  have a1 : (x % 2 ^ (W - s) + 1) * 2 ^ s ≤ 2 ^ (W - s) * 2 ^ s := Int.mul_le_mul_of_nonneg_right (by omega) (Int.le_of_lt p)
  rw [← Int.pow_add, show W - s + s = W from by omega, Int.add_mul, Int.one_mul] at a1
  omega
theorem rot_zero {W : Nat} {x : Int} (h0 : 0 ≤ x) (h1 : x < 2 ^ W) : rot W 0 x = x := by
  unfold rot
  rw [Nat.sub_zero, Int.emod_eq_of_lt h0 h1, Int.ediv_eq_zero_of_lt h0 h1]; simp
theorem rot_back {W s : Nat} (hs : s ≤ W) {x : Int} (h0 : 0 ≤ x) (h1 : x < 2 ^ W) : rot W (W - s) (rot W s x) = x := by
  obtain ⟨g1, g2, g3, g4⟩ := rot_parts hs h0 h1
  have p := pow_pos s
  have e1 : rot W s x % 2 ^ s = x / 2 ^ (W - s) := by
    unfold rot
    rw [Int.add_comm, Int.add_mul_emod_self_right, Int.emod_eq_of_lt g3 g4]
  have e2 : rot W s x / 2 ^ s = x % 2 ^ (W - s) := by
    unfold rot
    rw [Int.add_comm, Int.add_mul_ediv_right _ _ (Int.ne_of_gt p), Int.ediv_eq_zero_of_lt g3 g4, Int.zero_add]
  have e3 : rot W (W - s) (rot W s x) = (rot W s x % 2 ^ s) * 2 ^ (W - s) + rot W s x / 2 ^ s := by
    show (rot W s x % 2 ^ (W - (W - s))) * 2 ^ (W - s) + rot W s x / 2 ^ (W - (W - s)) = _
    rw [show W - (W - s) = s from by omega]
  rw [e3, e1, e2, Int.mul_comm]
  exact Int.mul_ediv_add_emod x (2 ^ (W - s))
theorem turned64 (k : Nat) {x : Int} {s : Nat} (hs : s < 64) (h0 : 0 ≤ x) (h1 : x < 2 ^ 64) : ints_turned.f (k + 1) x (s : Int) 64 = some (rot 64 s x) := by
  simp only [ints_turned.f]
  by_cases hz : s = 0
  · subst hz
    rw [if_pos (by omega), rot_zero h0 h1]
  · obtain ⟨g1, g2, g3, g4⟩ := rot_parts (W := 64) (s := s) (by omega) h0 h1
    have r := rot_range (W := 64) (s := s) (by omega) h0 h1
    have e64 : (2 : Int) ^ 64 = 18446744073709551616 := rfl
    unfold rot at r
    rw [if_neg (by omega), isub64 (by omega) (by omega), if_pos (by omega), if_pos (by omega), show (64 : Int) - (s : Int) = ((64 - s : Nat) : Int) from by omega, shl_u _ (by omega), shr_u _ (by omega), shl_split x (n := 64 - s) (by omega), ior_add g1 g3 g4 (by omega)]
    rfl
theorem turned32 (k : Nat) {x : Int} {s : Nat} (hs : s < 32) (h0 : 0 ≤ x) (h1 : x < 2 ^ 32) : ∃ r, ints_turned.f (k + 1) x (s : Int) 32 = some r ∧ 0 ≤ r ∧ r < 18446744073709551616 ∧ r % 4294967296 = rot 32 s x := by
  simp only [ints_turned.f]
  have e32 : (2 : Int) ^ 32 = 4294967296 := rfl
  by_cases hz : s = 0
  · subst hz
    rw [if_pos (by omega), rot_zero h0 h1]
    exact ⟨x, rfl, h0, by omega, by omega⟩
  · obtain ⟨g1, g2, g3, g4⟩ := rot_parts (W := 32) (s := s) (by omega) h0 h1
    have r := rot_range (W := 32) (s := s) (by omega) h0 h1
    have p := pow_pos s
    have q : (2 : Int) ^ s ≤ 2 ^ 31 := pow2_le (by omega)
    have q1 : (2 : Int) ^ 31 = 2147483648 := rfl
    have m0 : 0 ≤ x * 2 ^ s := Int.mul_nonneg h0 (Int.le_of_lt p)
    have m1 : x * 2 ^ s ≤ 4294967296 * 2147483648 := Int.mul_le_mul (by omega) (by omega) (Int.le_of_lt p) (by omega)
    have es : (x * 2 ^ s) % 4294967296 = (x % 2 ^ (32 - s)) * 2 ^ s := by
      have e : (4294967296 : Int) = 2 ^ s * 2 ^ (32 - s) := by rw [← Int.pow_add, show s + (32 - s) = 32 from by omega]; rfl
      rw [e, Int.mul_comm x, Int.mul_emod_mul_of_pos _ _ p, Int.mul_comm]
    rw [if_neg (by omega), isub64 (by omega) (by omega), if_pos (by omega), if_pos (by omega), show (32 : Int) - (s : Int) = ((32 - s : Nat) : Int) from by omega, shl_u _ (by omega), shr_u _ (by omega), Int.emod_eq_of_lt m0 (by omega), ior_add h0 g3 g4 (by omega)]
    refine ⟨_, rfl, by omega, by omega, ?_⟩
    unfold rot at r ⊢
    rw [← es] at r ⊢
    omega
end Go.R2D
