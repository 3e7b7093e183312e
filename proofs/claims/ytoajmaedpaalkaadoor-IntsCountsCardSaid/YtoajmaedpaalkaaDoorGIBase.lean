/- Ints: what a sign, a cut, a shift are. -/
import Derived.Test.YtoajmaedpaalkaaDoorGI
import Derived.Test.YtoajmaedpaalkaaDoorEvInt
set_option linter.all false
namespace Go.R2D
open Go Go.Ev
set_option maxRecDepth 100000

theorem wrapU (n : Int) : IntKind.u64.wrap n = n % 18446744073709551616 := by simp [IntKind.wrap, IntKind.signed, IntKind.bits]
theorem wrapI (n : Int) : IntKind.i64.wrap n = (n + 9223372036854775808) % 18446744073709551616 - 9223372036854775808 := by
  simp only [IntKind.wrap, IntKind.signed, IntKind.bits]; simp; omega
theorem pow_split {a b c : Nat} (h : a + b = c) : (2 : Int) ^ c = 2 ^ a * 2 ^ b := by rw [← h, Int.pow_add]
theorem pow_pos (a : Nat) : (0 : Int) < 2 ^ a := Int.pow_pos (by decide)
theorem shl_u (a : Int) {s : Nat} (h : s ≤ 64) : ishl .u64 a (s : Int) = (a * 2 ^ s) % 18446744073709551616 := by
  unfold ishl
  rw [Int.toNat_natCast, show min s IntKind.u64.bits = s from Nat.min_eq_left h, wrapU]
theorem shr_u (a : Int) {s : Nat} (h : s ≤ 64) : ishr .u64 a (s : Int) = a / 2 ^ s := ishr_ok h
theorem shr_i (a : Int) {s : Nat} (h : s ≤ 64) : ishr .i64 a (s : Int) = a / 2 ^ s := ishr_ok h
/-- A shift up: what stays are the lowest bits. -/
theorem shl_split (v : Int) {n s : Nat} (h : n + s = 64) : (v * 2 ^ s) % 18446744073709551616 = (v % 2 ^ n) * 2 ^ s := by
  have e : (18446744073709551616 : Int) = 2 ^ s * 2 ^ n := by rw [← Int.pow_add, show s + n = 64 from by omega]; rfl
  rw [e, Int.mul_comm v, Int.mul_emod_mul_of_pos _ _ (pow_pos s), Int.mul_comm]
/-- The lowest n bits, as two's complement. -/
def sgn (n : Nat) (v : Int) : Int := if v % 2 ^ n ≥ 2 ^ (n - 1) then v % 2 ^ n - 2 ^ n else v % 2 ^ n
def cl (m : Int) : Nat := (imax 1 (imin m 64)).toNat
theorem cl_range (m : Int) : 1 ≤ cl m ∧ cl m ≤ 64 ∧ imax 1 (imin m 64) = (cl m : Int) ∧ imax (imin m 64) 1 = (cl m : Int) := by
  unfold cl imax imin
  split <;> split <;> (try split) <;> omega
theorem sgn_core (v : Int) {n s : Nat} (h : n + s = 64) (hn : 1 ≤ n) : IntKind.i64.wrap ((v % 2 ^ n) * 2 ^ s) / 2 ^ s = sgn n v := by
  have p1 := pow_pos n
  have p2 := pow_pos s
  have r0 := Int.emod_nonneg v (Int.ne_of_gt p1)
  have r1 := Int.emod_lt_of_pos v p1
  have e64 : (18446744073709551616 : Int) = 2 ^ n * 2 ^ s := by rw [← Int.pow_add, h]; rfl
  have e63 : (9223372036854775808 : Int) = 2 ^ (n - 1) * 2 ^ s := by rw [← Int.pow_add, show n - 1 + s = 63 from by omega]; rfl
  unfold sgn
  generalize v % 2 ^ n = r at r0 r1
  have y0 : 0 ≤ r * 2 ^ s := Int.mul_nonneg r0 (Int.le_of_lt p2)
  have y1 : r * 2 ^ s < 18446744073709551616 := by rw [e64]; exact Int.mul_lt_mul_of_pos_right r1 p2
  rw [wrapI]
  by_cases hr : r ≥ 2 ^ (n - 1)
  · rw [if_pos hr]
    have y2 : 9223372036854775808 ≤ r * 2 ^ s := by rw [e63]; exact Int.mul_le_mul_of_nonneg_right hr (Int.le_of_lt p2)
    have : (r * 2 ^ s + 9223372036854775808) % 18446744073709551616 - 9223372036854775808 = (r - 2 ^ n) * 2 ^ s := by
      rw [Int.sub_mul, ← e64]; omega
    rw [this, Int.mul_ediv_cancel _ (Int.ne_of_gt p2)]
  · rw [if_neg hr]
    have y2 : r * 2 ^ s < 9223372036854775808 := by rw [e63]; exact Int.mul_lt_mul_of_pos_right (by omega) p2
    have : (r * 2 ^ s + 9223372036854775808) % 18446744073709551616 - 9223372036854775808 = r * 2 ^ s := by omega
    rw [this, Int.mul_ediv_cancel _ (Int.ne_of_gt p2)]
theorem sign_ok (k : Nat) (v m : Int) : ints_Sign.f (k + 1) v m = some (sgn (cl m) v) := by
  obtain ⟨h1, h2, h3, _⟩ := cl_range m
  simp only [ints_Sign.f]
  rw [h3, isub64 (by omega) (by omega), show (64 : Int) - (cl m : Int) = ((64 - cl m : Nat) : Int) from by omega, if_pos (by omega), if_pos (by omega), shl_u v (by omega), shr_i _ (by omega), shl_split v (n := cl m) (by omega)]
  have := sgn_core v (n := cl m) (s := 64 - cl m) (by omega) h1
  unfold icv
  rw [this]
theorem sgn_range {n : Nat} (h1 : 1 ≤ n) (h2 : n ≤ 64) (v : Int) : -9223372036854775808 ≤ sgn n v ∧ sgn n v ≤ 9223372036854775807 ∧ -(2 ^ (n - 1)) ≤ sgn n v ∧ sgn n v < 2 ^ (n - 1) := by
  have p1 := pow_pos n
  have r0 := Int.emod_nonneg v (Int.ne_of_gt p1)
  have r1 := Int.emod_lt_of_pos v p1
  have e : (2 : Int) ^ n = 2 * 2 ^ (n - 1) := by rw [show n = (n - 1) + 1 from by omega, Int.pow_succ]; simp; omega
  have : (2 : Int) ^ (n - 1) ≤ 2 ^ 63 := pow2_le (by omega)
  unfold sgn
  split <;> omega
theorem sign3_ok (k : Nat) (v m : Int) : ref1_Sign.f (k + 1) v m = some (sgn (cl m) v) := by
  obtain ⟨h1, h2, _, h4⟩ := cl_range m
  have hc : icv .u64 (cl m : Int) = (cl m : Int) := icvu64 (by omega) (by omega)
  have hs : isub .u64 64 (cl m : Int) = ((64 - cl m : Nat) : Int) := by
    unfold isub; rw [wrapU]; omega
  simp only [ref1_Sign.f]
  rw [h4, hc, hs, if_pos (by omega), if_pos (by omega), shl_u v (by omega), shl_split v (n := cl m) (by omega)]
  rw [shr_u _ (by omega), show (63 : Int) = ((63 : Nat) : Int) from rfl, shr_u _ (by omega)]
  generalize hn : cl m = n at h1 h2
  have hs64 : n + (64 - n) = 64 := by omega
  generalize hss : 64 - n = s at hs64
  have p1 := pow_pos n
  have p2 := pow_pos s
  have r0 := Int.emod_nonneg v (Int.ne_of_gt p1)
  have r1 := Int.emod_lt_of_pos v p1
  have e64 : (18446744073709551616 : Int) = 2 ^ n * 2 ^ s := by rw [← Int.pow_add, hs64]; rfl
  have e63 : (9223372036854775808 : Int) = 2 ^ (n - 1) * 2 ^ s := by rw [← Int.pow_add, show n - 1 + s = 63 from by omega]; rfl
  have e : (2 : Int) ^ n = 2 * 2 ^ (n - 1) := by rw [show n = (n - 1) + 1 from by omega, Int.pow_succ]; simp; omega
  have q : (2 : Int) ^ (n - 1) ≤ 2 ^ 63 := pow2_le (by omega)
  unfold sgn
  generalize v % 2 ^ n = r at r0 r1
  have y0 : 0 ≤ r * 2 ^ s := Int.mul_nonneg r0 (Int.le_of_lt p2)
  have y1 : r * 2 ^ s < 18446744073709551616 := by rw [e64]; exact Int.mul_lt_mul_of_pos_right r1 p2
  rw [Int.mul_ediv_cancel _ (Int.ne_of_gt p2)]
  have hy : (r * 2 ^ s ≥ 9223372036854775808) ↔ r ≥ 2 ^ (n - 1) := by
    rw [e63]
    exact ⟨fun h => Int.le_of_mul_le_mul_right h p2, fun h => Int.mul_le_mul_of_nonneg_right h (Int.le_of_lt p2)⟩
  have e2 : (2 : Int) ^ 63 = 9223372036854775808 := rfl
  rw [e2]
  by_cases h64 : n = 64
  · subst h64
    rw [if_neg (by omega)]
    unfold icv
    rw [wrapI]
    by_cases hr : r ≥ 2 ^ (64 - 1)
    · rw [if_pos hr]; congr 1; omega
    · rw [if_neg hr]; congr 1; omega
  · rw [if_pos (by omega)]
    have q2 : (2 : Int) ^ n ≤ 2 ^ 63 := pow2_le (by omega)
    by_cases hr : r ≥ 2 ^ (n - 1)
    · rw [if_pos hr, if_pos (by have := hy.2 hr; omega), if_pos (by omega)]
      have hl : ishl .i64 1 (n : Int) = IntKind.i64.wrap (2 ^ n) := by
        unfold ishl
        rw [Int.toNat_natCast, Nat.min_eq_left (by simpa [IntKind.bits] using h2), Int.one_mul]
      rw [hl]
      unfold isub icv
      rw [wrapI, wrapI, wrapI]
      congr 1
      omega
    · rw [if_neg hr, if_neg (by have := mt hy.1 hr; omega)]
      unfold icv
      rw [wrapI]
      congr 1
      omega
theorem cut_ok (k : Nat) (v : Int) : ints_cut.f (k + 1) v 32 = some (v % 4294967296) := by
  simp only [ints_cut.f]
  rw [isub64 (by omega) (by omega), if_pos (by omega), if_pos (by omega), show (64 : Int) - 32 = ((32 : Nat) : Int) from rfl, shl_u v (by omega), shr_u _ (by omega), shl_split v (n := 32) (by omega), Int.mul_ediv_cancel _ (Int.ne_of_gt (pow_pos 32))]
  rfl
theorem and_low (v : Int) : iand .u64 v 4294967295 = v % 4294967296 := by
  have := iand_mask (k := .u64) (n := v) (m := 4294967295) (j := 32) (by decide) (by decide)
  rw [this]; rfl
end Go.R2D
