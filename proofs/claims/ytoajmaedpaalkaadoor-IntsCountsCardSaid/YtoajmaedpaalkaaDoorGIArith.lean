/- Ints: each op as the document has it. -/
import Derived.Test.YtoajmaedpaalkaaDoorGISame
set_option linter.all false
namespace Go.R2D
open Go Go.Ev
set_option maxRecDepth 100000

theorem by3_ok {b n : Int} (h0 : 0 ≤ b) (hn : 0 < n) (hn2 : n ≤ 64) : irem .u64 b (icv .u64 n) = b % n := by
  rw [icvu64 (a := n) (by omega) (by omega), irem_ok h0]
theorem ior_zero {a : Int} (h0 : 0 ≤ a) (h1 : a < 18446744073709551616) : ior .u64 a 0 = a := by
  unfold ior
  have e1 : (BitVec.ofInt IntKind.u64.bits a).toNat = a.toNat := bv64 h0 h1
  have e2 : (BitVec.ofInt IntKind.u64.bits 0).toNat = 0 := by decide
  rw [BitVec.toNat_or, e1, e2, Nat.or_zero, wrapU]
  omega
theorem ior_low {a h : Int} (a0 : 0 ≤ a) (a1 : a < 4294967296) (h0 : 0 ≤ h) (h1 : h < 4294967296) : ior .u64 a (h * 4294967296) % 4294967296 = a := by
  rw [ior_comm, show (4294967296 : Int) = 2 ^ 32 from rfl, ior_add h0 a0 (by rw [two_32]; exact a1) (by rw [two_32]; omega), two_32]
  omega

theorem ra32_0 (k : Nat) (a b : Int) : ref1_arith.f (k + 1) 0 a b 32 = (ref1_counts.f k 0 a 32).bind fun r => some (r, 0) := by kernel_rfl
theorem ka32_0 (k : Nat) (a b : Int) : ints_reckoned.f (k + 1) 0 a b 32 = (ints_counted.f k 0 a 32).bind fun r => some (r, 0) := by kernel_rfl
theorem ra32_1 (k : Nat) (a b : Int) : ref1_arith.f (k + 1) 1 a b 32 = (ref1_counts.f k 1 a 32).bind fun r => some (r, 0) := by kernel_rfl
theorem ka32_1 (k : Nat) (a b : Int) : ints_reckoned.f (k + 1) 1 a b 32 = (ints_counted.f k 1 a 32).bind fun r => some (r, 0) := by kernel_rfl
theorem ra32_2 (k : Nat) (a b : Int) : ref1_arith.f (k + 1) 2 a b 32 = (ref1_counts.f k 2 a 32).bind fun r => some (r, 0) := by kernel_rfl
theorem ka32_2 (k : Nat) (a b : Int) : ints_reckoned.f (k + 1) 2 a b 32 = (ints_counted.f k 2 a 32).bind fun r => some (r, 0) := by kernel_rfl
theorem as32_0 (k : Nat) {a b : Int} (h0 : 0 ≤ a) (h1 : a < 4294967296) : ∃ v, ints_reckoned.f (k + 80) 0 a b 32 = some v ∧ ref1_arith.f (k + 80) 0 a b 32 = some v := by
  obtain ⟨r, e, g1, g2, g3⟩ := cn_0 (k + 76) w32 (x := a) h0 h1
  have e' : ints_counted.f (k + 79) 0 a 32 = _ := e
  have f : ref1_counts.f (k + 79) 0 a 32 = _ := rc_0 (k := k + 78) (by omega) w32 h0 g1 g2 g3
  rw [ka32_0, ra32_0, e', f]
  exact ⟨_, rfl, rfl⟩
theorem as32_1 (k : Nat) {a b : Int} (h0 : 0 ≤ a) (h1 : a < 4294967296) : ∃ v, ints_reckoned.f (k + 80) 1 a b 32 = some v ∧ ref1_arith.f (k + 80) 1 a b 32 = some v := by
  obtain ⟨c, e, g1, g2, g3⟩ := cn_1 (k + 77) w32 (x := a) h0 h1
  have e' : ints_counted.f (k + 79) 1 a 32 = _ := e
  have f : ref1_counts.f (k + 79) 1 a 32 = _ := rc_1 (k := k + 78) (by omega) w32 g1 g2 g3
  rw [ka32_1, ra32_1, e', f]
  exact ⟨_, rfl, rfl⟩
theorem as32_2 (k : Nat) {a b : Int} (h0 : 0 ≤ a) (h1 : a < 4294967296) : ∃ v, ints_reckoned.f (k + 80) 2 a b 32 = some v ∧ ref1_arith.f (k + 80) 2 a b 32 = some v := by
  have e : ints_counted.f (k + 79) 2 a 32 = _ := cn_2 (k + 77) h0 (by omega)
  have f : ref1_counts.f (k + 79) 2 ((a.toNat : Nat) : Int) 32 = _ := rc_2 (k := k + 78) (by omega) w32 a.toNat
  rw [Int.toNat_of_nonneg h0] at f
  rw [ka32_2, ra32_2, e, f, pc_wide (W := 32) (by decide) (by omega)]
  exact ⟨_, rfl, rfl⟩
theorem as32_3 (k : Nat) (a b : Int) : ∃ v, ints_reckoned.f (k + 80) 3 a b 32 = some v ∧ ref1_arith.f (k + 80) 3 a b 32 = some v :=
  ⟨(iadd .u64 a b, 0), by kernel_rfl, by kernel_rfl⟩
theorem as32_4 (k : Nat) (a b : Int) : ∃ v, ints_reckoned.f (k + 80) 4 a b 32 = some v ∧ ref1_arith.f (k + 80) 4 a b 32 = some v :=
  ⟨(isub .u64 a b, 0), by kernel_rfl, by kernel_rfl⟩
theorem as32_5 (k : Nat) (a b : Int) : ∃ v, ints_reckoned.f (k + 80) 5 a b 32 = some v ∧ ref1_arith.f (k + 80) 5 a b 32 = some v :=
  ⟨(imul .u64 a b, 0), by kernel_rfl, by kernel_rfl⟩
theorem as32_10 (k : Nat) (a b : Int) : ∃ v, ints_reckoned.f (k + 80) 10 a b 32 = some v ∧ ref1_arith.f (k + 80) 10 a b 32 = some v :=
  ⟨(iand .u64 a b, 0), by kernel_rfl, by kernel_rfl⟩
theorem as32_11 (k : Nat) (a b : Int) : ∃ v, ints_reckoned.f (k + 80) 11 a b 32 = some v ∧ ref1_arith.f (k + 80) 11 a b 32 = some v :=
  ⟨(ior .u64 a b, 0), by kernel_rfl, by kernel_rfl⟩
theorem as32_12 (k : Nat) (a b : Int) : ∃ v, ints_reckoned.f (k + 80) 12 a b 32 = some v ∧ ref1_arith.f (k + 80) 12 a b 32 = some v :=
  ⟨(ixor .u64 a b, 0), by kernel_rfl, by kernel_rfl⟩
theorem as32_6 (k : Nat) {a b : Int} (h0 : 0 ≤ b) (h1 : b < 4294967296) : ∃ v, ints_reckoned.f (k + 80) 6 a b 32 = some v ∧ ref1_arith.f (k + 80) 6 a b 32 = some v := by
  have e : ints_quotient.f (k + 79) 6 a b 32 = some (quoS 32 a b) := quo_6 bits32 (k + 77) h0 h1
  have f : ref1_divide.f (k + 79) 0 a b 32 = some (quoS 32 a b) := div_0 bits32 (by decide) (k + 77) h0 h1
  have g : ref1_arith.f (k + 80) 6 a b 32 = (ref1_divide.f (k + 79) 0 a b 32).bind fun p => some (p.1, p.2) := by kernel_rfl
  rw [rk_6, g, pair_id, e, f]
  exact ⟨_, rfl, rfl⟩
theorem as32_7 (k : Nat) {a b : Int} (h0 : 0 ≤ b) (h1 : b < 4294967296) : ∃ v, ints_reckoned.f (k + 80) 7 a b 32 = some v ∧ ref1_arith.f (k + 80) 7 a b 32 = some v := by
  have e : ints_quotient.f (k + 79) 7 a b 32 = some (quoU a b) := quo_7 bits32 (k + 77) _ _
  have f : ref1_divide.f (k + 79) 1 a b 32 = some (quoU a b) := div_1 bits32 (by decide) (k + 77) _ _
  have g : ref1_arith.f (k + 80) 7 a b 32 = (ref1_divide.f (k + 79) 1 a b 32).bind fun p => some (p.1, p.2) := by kernel_rfl
  rw [rk_7, g, pair_id, e, f]
  exact ⟨_, rfl, rfl⟩
theorem as32_8 (k : Nat) {a b : Int} (h0 : 0 ≤ b) (h1 : b < 4294967296) : ∃ v, ints_reckoned.f (k + 80) 8 a b 32 = some v ∧ ref1_arith.f (k + 80) 8 a b 32 = some v := by
  have e : ints_quotient.f (k + 79) 8 a b 32 = some (remS 32 a b) := quo_8 bits32 (k + 77) h0 h1
  have f : ref1_divide.f (k + 79) 2 a b 32 = some (remS 32 a b) := div_2 bits32 (by decide) (k + 77) h0 h1
  have g : ref1_arith.f (k + 80) 8 a b 32 = (ref1_divide.f (k + 79) 2 a b 32).bind fun p => some (p.1, p.2) := by kernel_rfl
  rw [rk_8, g, pair_id, e, f]
  exact ⟨_, rfl, rfl⟩
theorem as32_9 (k : Nat) {a b : Int} (h0 : 0 ≤ b) (h1 : b < 4294967296) : ∃ v, ints_reckoned.f (k + 80) 9 a b 32 = some v ∧ ref1_arith.f (k + 80) 9 a b 32 = some v := by
  have e : ints_quotient.f (k + 79) 9 a b 32 = some (remU a b) := quo_9 bits32 (k + 77) _ _
  have f : ref1_divide.f (k + 79) 3 a b 32 = some (remU a b) := div_3 bits32 (by decide) (k + 77) _ _
  have g : ref1_arith.f (k + 80) 9 a b 32 = (ref1_divide.f (k + 79) 3 a b 32).bind fun p => some (p.1, p.2) := by kernel_rfl
  rw [rk_9, g, pair_id, e, f]
  exact ⟨_, rfl, rfl⟩
theorem as32_13 (k : Nat) {a b : Int} (h0 : 0 ≤ b) : ∃ v, ints_reckoned.f (k + 80) 13 a b 32 = some v ∧ ref1_arith.f (k + 80) 13 a b 32 = some v := by
  obtain ⟨e1, e2, e3, e4⟩ := by_ok (n := 32) h0 (by decide) (by decide)
  have g1 : ints_reckoned.f (k + 80) 13 a b 32 = (if (0 : Int) ≤ (icv .i64 (irem .u64 b (icv .u64 32))) then (some (ishl .u64 a (icv .i64 (irem .u64 b (icv .u64 32))))) else none).bind fun r => some (r, 0) := by kernel_rfl
  have g2 : ref1_arith.f (k + 80) 13 a b 32 = (if (0 : Int) ≤ (irem .u64 b (icv .u64 32)) then (some ((ishl .u64 a (irem .u64 b (icv .u64 32))), (0 : Int))) else none) := by kernel_rfl
  rw [g1, g2, e2, by3_ok (n := 32) h0 (by decide) (by decide), if_pos e3, if_pos e3]
  exact ⟨_, rfl, rfl⟩
theorem as32_14 (k : Nat) {a b : Int} (h0 : 0 ≤ b) : ∃ v, ints_reckoned.f (k + 80) 14 a b 32 = some v ∧ ref1_arith.f (k + 80) 14 a b 32 = some v := by
  obtain ⟨e1, e2, e3, e4⟩ := by_ok (n := 32) h0 (by decide) (by decide)
  have g1 : ints_reckoned.f (k + 80) 14 a b 32 = ((ints_Sign.f (k + 78) a 32).bind fun r28 => (if (0 : Int) ≤ (icv .i64 (irem .u64 b (icv .u64 32))) then (some (icv .u64 (ishr .i64 r28 (icv .i64 (irem .u64 b (icv .u64 32)))))) else none)).bind fun r => some (r, 0) := by kernel_rfl
  have g2 : ref1_arith.f (k + 80) 14 a b 32 = (ref1_Sign.f (k + 79) a 32).bind fun r57 => (if (0 : Int) ≤ (irem .u64 b (icv .u64 32)) then (some ((icv .u64 (ishr .i64 r57 (irem .u64 b (icv .u64 32)))), (0 : Int))) else none) := by kernel_rfl
  rw [g1, g2, e2, by3_ok (n := 32) h0 (by decide) (by decide), sign_ok, sign3_ok]
  simp only [Option.bind_some]
  rw [if_pos e3, if_pos e3]
  exact ⟨_, rfl, rfl⟩
theorem as32_15 (k : Nat) {a b : Int} (h0 : 0 ≤ b) : ∃ v, ints_reckoned.f (k + 80) 15 a b 32 = some v ∧ ref1_arith.f (k + 80) 15 a b 32 = some v := by
  obtain ⟨e1, e2, e3, e4⟩ := by_ok (n := 32) h0 (by decide) (by decide)
  have g1 : ints_reckoned.f (k + 80) 15 a b 32 = (if (0 : Int) ≤ (icv .i64 (irem .u64 b (icv .u64 32))) then (some (ishr .u64 a (icv .i64 (irem .u64 b (icv .u64 32))))) else none).bind fun r => some (r, 0) := by kernel_rfl
  have g2 : ref1_arith.f (k + 80) 15 a b 32 = (if (0 : Int) ≤ (irem .u64 b (icv .u64 32)) then (some ((ishr .u64 a (irem .u64 b (icv .u64 32))), (0 : Int))) else none) := by kernel_rfl
  rw [g1, g2, e2, by3_ok (n := 32) h0 (by decide) (by decide), if_pos e3, if_pos e3]
  exact ⟨_, rfl, rfl⟩
theorem ra32_16 (k : Nat) {a b : Int} (h0 : 0 ≤ b) : ref1_arith.f (k + 80) 16 a b 32 = some (ior .u64 (ishl .u64 a (b % 32)) (ishr .u64 a (32 - b % 32)), 0) := by
  obtain ⟨e1, e2, e3, e4⟩ := by_ok (n := 32) h0 (by decide) (by decide)
  have g2 : ref1_arith.f (k + 80) 16 a b 32 = (if (0 : Int) ≤ (irem .u64 b (icv .u64 32)) then (if (0 : Int) ≤ (isub .u64 (icv .u64 32) (irem .u64 b (icv .u64 32))) then (let y59 : Int := (ishr .u64 a (isub .u64 (icv .u64 32) (irem .u64 b (icv .u64 32)))); (some ((ior .u64 (ishl .u64 a (irem .u64 b (icv .u64 32))) y59), (0 : Int)))) else none) else none) := by kernel_rfl
  have hs : isub .u64 32 (b % 32) = 32 - b % 32 := by unfold isub; rw [wrapU]; omega
  rw [g2, by3_ok (n := 32) h0 (by decide) (by decide), e1, if_pos e3, hs, if_pos (by omega)]
theorem ra32_17 (k : Nat) {a b : Int} (h0 : 0 ≤ b) : ref1_arith.f (k + 80) 17 a b 32 = some (ior .u64 (ishr .u64 a (b % 32)) (ishl .u64 a (32 - b % 32)), 0) := by
  obtain ⟨e1, e2, e3, e4⟩ := by_ok (n := 32) h0 (by decide) (by decide)
  have g2 : ref1_arith.f (k + 80) 17 a b 32 = (if (0 : Int) ≤ (irem .u64 b (icv .u64 32)) then (if (0 : Int) ≤ (isub .u64 (icv .u64 32) (irem .u64 b (icv .u64 32))) then (let y61 : Int := (ishl .u64 a (isub .u64 (icv .u64 32) (irem .u64 b (icv .u64 32)))); (some ((ior .u64 (ishr .u64 a (irem .u64 b (icv .u64 32))) y61), (0 : Int)))) else none) else none) := by kernel_rfl
  have hs : isub .u64 32 (b % 32) = 32 - b % 32 := by unfold isub; rw [wrapU]; omega
  rw [g2, by3_ok (n := 32) h0 (by decide) (by decide), e1, if_pos e3, hs, if_pos (by omega)]
theorem tn32 (k : Nat) (a : Int) {s : Int} (h0 : 0 < s) (h1 : s < 32) : ints_turned.f (k + 1) a s 32 = some (ior .u64 (ishl .u64 a s) (ishr .u64 a (32 - s))) := by
  simp only [ints_turned.f]
  rw [if_neg (by omega), isub64 (by omega) (by omega), if_pos (by omega), if_pos (by omega)]
theorem tz32 (k : Nat) (a : Int) : ints_turned.f (k + 1) a 0 32 = some a := by kernel_rfl
theorem as32_16 (k : Nat) {a b : Int} (a0 : 0 ≤ a) (a1 : a < 4294967296) (h0 : 0 ≤ b) : ∃ v, ints_reckoned.f (k + 80) 16 a b 32 = some v ∧ ref1_arith.f (k + 80) 16 a b 32 = some v := by
  have e3 := Int.emod_nonneg b (b := 32) (by decide)
  have e4 := Int.emod_lt_of_pos b (b := 32) (by decide)
  rw [rk_16, mv_16 _ h0 (by decide) (by decide), ra32_16 k h0]
  by_cases hz : b % 32 = 0
  · rw [hz, tz32]
    refine ⟨(a, 0), rfl, ?_⟩
    have s0 : ishl .u64 a 0 = a := by rw [show (0 : Int) = ((0 : Nat) : Int) from rfl, shl_u _ (by decide)]; simp; omega
    have s1 : ishr .u64 a (32 - 0) = 0 := by rw [show (32 : Int) - 0 = ((32 : Nat) : Int) from rfl, shr_u _ (by decide)]; exact Int.ediv_eq_zero_of_lt a0 a1
    rw [s0, s1, ior_zero a0 (by omega)]
  · rw [tn32 _ a (by omega) e4]
    exact ⟨_, rfl, rfl⟩
theorem as32_17 (k : Nat) {a b : Int} (a0 : 0 ≤ a) (a1 : a < 4294967296) (h0 : 0 ≤ b) : ∃ v w, ints_reckoned.f (k + 80) 17 a b 32 = some (v, 0) ∧ ref1_arith.f (k + 80) 17 a b 32 = some (w, 0) ∧ v % 4294967296 = w % 4294967296 ∧ (32 = 64 → v = w) := by
  have e3 := Int.emod_nonneg b (b := 32) (by decide)
  have e4 := Int.emod_lt_of_pos b (b := 32) (by decide)
  rw [rk_17, mv_17 _ h0 (by decide) (by decide), ra32_17 k h0]
  by_cases hz : b % 32 = 0
  · rw [hz, show ((32 : Int) - 0) % 32 = 0 from rfl, tz32]
    have s0 : ishr .u64 a 0 = a := by rw [show (0 : Int) = ((0 : Nat) : Int) from rfl, shr_u _ (by decide)]; simp
    have s1 : ishl .u64 a (32 - 0) = (a * 2 ^ 32) % 18446744073709551616 := by rw [show (32 : Int) - 0 = ((32 : Nat) : Int) from rfl, shl_u _ (by decide)]
    rw [s0, s1]
    refine ⟨_, _, rfl, rfl, ?_, fun h => ?_⟩
    · have e : (a * 2 ^ 32) % 18446744073709551616 = a * 4294967296 := by rw [two_32]; omega
      rw [e, ior_low a0 a1 a0 a1]; omega
    · omega
  · rw [Int.emod_eq_of_lt (by omega) (by omega), tn32 _ a (by omega) (by omega), show (32 : Int) - (32 - b % 32) = b % 32 from by omega]
    refine ⟨_, _, rfl, rfl, ?_, fun _ => ?_⟩
    · rw [ior_comm]
    · rw [ior_comm]
theorem ra64_0 (k : Nat) (a b : Int) : ref1_arith.f (k + 1) 0 a b 64 = (ref1_counts.f k 0 a 64).bind fun r => some (r, 0) := by kernel_rfl
theorem ka64_0 (k : Nat) (a b : Int) : ints_reckoned.f (k + 1) 0 a b 64 = (ints_counted.f k 0 a 64).bind fun r => some (r, 0) := by kernel_rfl
theorem ra64_1 (k : Nat) (a b : Int) : ref1_arith.f (k + 1) 1 a b 64 = (ref1_counts.f k 1 a 64).bind fun r => some (r, 0) := by kernel_rfl
theorem ka64_1 (k : Nat) (a b : Int) : ints_reckoned.f (k + 1) 1 a b 64 = (ints_counted.f k 1 a 64).bind fun r => some (r, 0) := by kernel_rfl
theorem ra64_2 (k : Nat) (a b : Int) : ref1_arith.f (k + 1) 2 a b 64 = (ref1_counts.f k 2 a 64).bind fun r => some (r, 0) := by kernel_rfl
theorem ka64_2 (k : Nat) (a b : Int) : ints_reckoned.f (k + 1) 2 a b 64 = (ints_counted.f k 2 a 64).bind fun r => some (r, 0) := by kernel_rfl
theorem as64_0 (k : Nat) {a b : Int} (h0 : 0 ≤ a) (h1 : a < 18446744073709551616) : ∃ v, ints_reckoned.f (k + 80) 0 a b 64 = some v ∧ ref1_arith.f (k + 80) 0 a b 64 = some v := by
  obtain ⟨r, e, g1, g2, g3⟩ := cn_0 (k + 76) w64 (x := a) h0 h1
  have e' : ints_counted.f (k + 79) 0 a 64 = _ := e
  have f : ref1_counts.f (k + 79) 0 a 64 = _ := rc_0 (k := k + 78) (by omega) w64 h0 g1 g2 g3
  rw [ka64_0, ra64_0, e', f]
  exact ⟨_, rfl, rfl⟩
theorem as64_1 (k : Nat) {a b : Int} (h0 : 0 ≤ a) (h1 : a < 18446744073709551616) : ∃ v, ints_reckoned.f (k + 80) 1 a b 64 = some v ∧ ref1_arith.f (k + 80) 1 a b 64 = some v := by
  obtain ⟨c, e, g1, g2, g3⟩ := cn_1 (k + 77) w64 (x := a) h0 h1
  have e' : ints_counted.f (k + 79) 1 a 64 = _ := e
  have f : ref1_counts.f (k + 79) 1 a 64 = _ := rc_1 (k := k + 78) (by omega) w64 g1 g2 g3
  rw [ka64_1, ra64_1, e', f]
  exact ⟨_, rfl, rfl⟩
theorem as64_2 (k : Nat) {a b : Int} (h0 : 0 ≤ a) (h1 : a < 18446744073709551616) : ∃ v, ints_reckoned.f (k + 80) 2 a b 64 = some v ∧ ref1_arith.f (k + 80) 2 a b 64 = some v := by
  have e : ints_counted.f (k + 79) 2 a 64 = _ := cn_2 (k + 77) h0 (by omega)
  have f : ref1_counts.f (k + 79) 2 ((a.toNat : Nat) : Int) 64 = _ := rc_2 (k := k + 78) (by omega) w64 a.toNat
  rw [Int.toNat_of_nonneg h0] at f
  rw [ka64_2, ra64_2, e, f, pc_wide (W := 64) (by decide) (by omega)]
  exact ⟨_, rfl, rfl⟩
theorem as64_3 (k : Nat) (a b : Int) : ∃ v, ints_reckoned.f (k + 80) 3 a b 64 = some v ∧ ref1_arith.f (k + 80) 3 a b 64 = some v :=
  ⟨(iadd .u64 a b, 0), by kernel_rfl, by kernel_rfl⟩
theorem as64_4 (k : Nat) (a b : Int) : ∃ v, ints_reckoned.f (k + 80) 4 a b 64 = some v ∧ ref1_arith.f (k + 80) 4 a b 64 = some v :=
  ⟨(isub .u64 a b, 0), by kernel_rfl, by kernel_rfl⟩
theorem as64_5 (k : Nat) (a b : Int) : ∃ v, ints_reckoned.f (k + 80) 5 a b 64 = some v ∧ ref1_arith.f (k + 80) 5 a b 64 = some v :=
  ⟨(imul .u64 a b, 0), by kernel_rfl, by kernel_rfl⟩
theorem as64_10 (k : Nat) (a b : Int) : ∃ v, ints_reckoned.f (k + 80) 10 a b 64 = some v ∧ ref1_arith.f (k + 80) 10 a b 64 = some v :=
  ⟨(iand .u64 a b, 0), by kernel_rfl, by kernel_rfl⟩
theorem as64_11 (k : Nat) (a b : Int) : ∃ v, ints_reckoned.f (k + 80) 11 a b 64 = some v ∧ ref1_arith.f (k + 80) 11 a b 64 = some v :=
  ⟨(ior .u64 a b, 0), by kernel_rfl, by kernel_rfl⟩
theorem as64_12 (k : Nat) (a b : Int) : ∃ v, ints_reckoned.f (k + 80) 12 a b 64 = some v ∧ ref1_arith.f (k + 80) 12 a b 64 = some v :=
  ⟨(ixor .u64 a b, 0), by kernel_rfl, by kernel_rfl⟩
theorem as64_6 (k : Nat) {a b : Int} (h0 : 0 ≤ b) (h1 : b < 18446744073709551616) : ∃ v, ints_reckoned.f (k + 80) 6 a b 64 = some v ∧ ref1_arith.f (k + 80) 6 a b 64 = some v := by
  have e : ints_quotient.f (k + 79) 6 a b 64 = some (quoS 64 a b) := quo_6 bits64 (k + 77) h0 h1
  have f : ref1_divide.f (k + 79) 0 a b 64 = some (quoS 64 a b) := div_0 bits64 (by decide) (k + 77) h0 h1
  have g : ref1_arith.f (k + 80) 6 a b 64 = (ref1_divide.f (k + 79) 0 a b 64).bind fun p => some (p.1, p.2) := by kernel_rfl
  rw [rk_6, g, pair_id, e, f]
  exact ⟨_, rfl, rfl⟩
theorem as64_7 (k : Nat) {a b : Int} (h0 : 0 ≤ b) (h1 : b < 18446744073709551616) : ∃ v, ints_reckoned.f (k + 80) 7 a b 64 = some v ∧ ref1_arith.f (k + 80) 7 a b 64 = some v := by
  have e : ints_quotient.f (k + 79) 7 a b 64 = some (quoU a b) := quo_7 bits64 (k + 77) _ _
  have f : ref1_divide.f (k + 79) 1 a b 64 = some (quoU a b) := div_1 bits64 (by decide) (k + 77) _ _
  have g : ref1_arith.f (k + 80) 7 a b 64 = (ref1_divide.f (k + 79) 1 a b 64).bind fun p => some (p.1, p.2) := by kernel_rfl
  rw [rk_7, g, pair_id, e, f]
  exact ⟨_, rfl, rfl⟩
theorem as64_8 (k : Nat) {a b : Int} (h0 : 0 ≤ b) (h1 : b < 18446744073709551616) : ∃ v, ints_reckoned.f (k + 80) 8 a b 64 = some v ∧ ref1_arith.f (k + 80) 8 a b 64 = some v := by
  have e : ints_quotient.f (k + 79) 8 a b 64 = some (remS 64 a b) := quo_8 bits64 (k + 77) h0 h1
  have f : ref1_divide.f (k + 79) 2 a b 64 = some (remS 64 a b) := div_2 bits64 (by decide) (k + 77) h0 h1
  have g : ref1_arith.f (k + 80) 8 a b 64 = (ref1_divide.f (k + 79) 2 a b 64).bind fun p => some (p.1, p.2) := by kernel_rfl
  rw [rk_8, g, pair_id, e, f]
  exact ⟨_, rfl, rfl⟩
theorem as64_9 (k : Nat) {a b : Int} (h0 : 0 ≤ b) (h1 : b < 18446744073709551616) : ∃ v, ints_reckoned.f (k + 80) 9 a b 64 = some v ∧ ref1_arith.f (k + 80) 9 a b 64 = some v := by
  have e : ints_quotient.f (k + 79) 9 a b 64 = some (remU a b) := quo_9 bits64 (k + 77) _ _
  have f : ref1_divide.f (k + 79) 3 a b 64 = some (remU a b) := div_3 bits64 (by decide) (k + 77) _ _
  have g : ref1_arith.f (k + 80) 9 a b 64 = (ref1_divide.f (k + 79) 3 a b 64).bind fun p => some (p.1, p.2) := by kernel_rfl
  rw [rk_9, g, pair_id, e, f]
  exact ⟨_, rfl, rfl⟩
theorem as64_13 (k : Nat) {a b : Int} (h0 : 0 ≤ b) : ∃ v, ints_reckoned.f (k + 80) 13 a b 64 = some v ∧ ref1_arith.f (k + 80) 13 a b 64 = some v := by
  obtain ⟨e1, e2, e3, e4⟩ := by_ok (n := 64) h0 (by decide) (by decide)
  have g1 : ints_reckoned.f (k + 80) 13 a b 64 = (if (0 : Int) ≤ (icv .i64 (irem .u64 b (icv .u64 64))) then (some (ishl .u64 a (icv .i64 (irem .u64 b (icv .u64 64))))) else none).bind fun r => some (r, 0) := by kernel_rfl
  have g2 : ref1_arith.f (k + 80) 13 a b 64 = (if (0 : Int) ≤ (irem .u64 b (icv .u64 64)) then (some ((ishl .u64 a (irem .u64 b (icv .u64 64))), (0 : Int))) else none) := by kernel_rfl
  rw [g1, g2, e2, by3_ok (n := 64) h0 (by decide) (by decide), if_pos e3, if_pos e3]
  exact ⟨_, rfl, rfl⟩
theorem as64_14 (k : Nat) {a b : Int} (h0 : 0 ≤ b) : ∃ v, ints_reckoned.f (k + 80) 14 a b 64 = some v ∧ ref1_arith.f (k + 80) 14 a b 64 = some v := by
  obtain ⟨e1, e2, e3, e4⟩ := by_ok (n := 64) h0 (by decide) (by decide)
  have g1 : ints_reckoned.f (k + 80) 14 a b 64 = ((ints_Sign.f (k + 78) a 64).bind fun r28 => (if (0 : Int) ≤ (icv .i64 (irem .u64 b (icv .u64 64))) then (some (icv .u64 (ishr .i64 r28 (icv .i64 (irem .u64 b (icv .u64 64)))))) else none)).bind fun r => some (r, 0) := by kernel_rfl
  have g2 : ref1_arith.f (k + 80) 14 a b 64 = (ref1_Sign.f (k + 79) a 64).bind fun r57 => (if (0 : Int) ≤ (irem .u64 b (icv .u64 64)) then (some ((icv .u64 (ishr .i64 r57 (irem .u64 b (icv .u64 64)))), (0 : Int))) else none) := by kernel_rfl
  rw [g1, g2, e2, by3_ok (n := 64) h0 (by decide) (by decide), sign_ok, sign3_ok]
  simp only [Option.bind_some]
  rw [if_pos e3, if_pos e3]
  exact ⟨_, rfl, rfl⟩
theorem as64_15 (k : Nat) {a b : Int} (h0 : 0 ≤ b) : ∃ v, ints_reckoned.f (k + 80) 15 a b 64 = some v ∧ ref1_arith.f (k + 80) 15 a b 64 = some v := by
  obtain ⟨e1, e2, e3, e4⟩ := by_ok (n := 64) h0 (by decide) (by decide)
  have g1 : ints_reckoned.f (k + 80) 15 a b 64 = (if (0 : Int) ≤ (icv .i64 (irem .u64 b (icv .u64 64))) then (some (ishr .u64 a (icv .i64 (irem .u64 b (icv .u64 64))))) else none).bind fun r => some (r, 0) := by kernel_rfl
  have g2 : ref1_arith.f (k + 80) 15 a b 64 = (if (0 : Int) ≤ (irem .u64 b (icv .u64 64)) then (some ((ishr .u64 a (irem .u64 b (icv .u64 64))), (0 : Int))) else none) := by kernel_rfl
  rw [g1, g2, e2, by3_ok (n := 64) h0 (by decide) (by decide), if_pos e3, if_pos e3]
  exact ⟨_, rfl, rfl⟩
theorem ra64_16 (k : Nat) {a b : Int} (h0 : 0 ≤ b) : ref1_arith.f (k + 80) 16 a b 64 = some (ior .u64 (ishl .u64 a (b % 64)) (ishr .u64 a (64 - b % 64)), 0) := by
  obtain ⟨e1, e2, e3, e4⟩ := by_ok (n := 64) h0 (by decide) (by decide)
  have g2 : ref1_arith.f (k + 80) 16 a b 64 = (if (0 : Int) ≤ (irem .u64 b (icv .u64 64)) then (if (0 : Int) ≤ (isub .u64 (icv .u64 64) (irem .u64 b (icv .u64 64))) then (let y59 : Int := (ishr .u64 a (isub .u64 (icv .u64 64) (irem .u64 b (icv .u64 64)))); (some ((ior .u64 (ishl .u64 a (irem .u64 b (icv .u64 64))) y59), (0 : Int)))) else none) else none) := by kernel_rfl
  have hs : isub .u64 64 (b % 64) = 64 - b % 64 := by unfold isub; rw [wrapU]; omega
  rw [g2, by3_ok (n := 64) h0 (by decide) (by decide), e1, if_pos e3, hs, if_pos (by omega)]
theorem ra64_17 (k : Nat) {a b : Int} (h0 : 0 ≤ b) : ref1_arith.f (k + 80) 17 a b 64 = some (ior .u64 (ishr .u64 a (b % 64)) (ishl .u64 a (64 - b % 64)), 0) := by
  obtain ⟨e1, e2, e3, e4⟩ := by_ok (n := 64) h0 (by decide) (by decide)
  have g2 : ref1_arith.f (k + 80) 17 a b 64 = (if (0 : Int) ≤ (irem .u64 b (icv .u64 64)) then (if (0 : Int) ≤ (isub .u64 (icv .u64 64) (irem .u64 b (icv .u64 64))) then (let y61 : Int := (ishl .u64 a (isub .u64 (icv .u64 64) (irem .u64 b (icv .u64 64)))); (some ((ior .u64 (ishr .u64 a (irem .u64 b (icv .u64 64))) y61), (0 : Int)))) else none) else none) := by kernel_rfl
  have hs : isub .u64 64 (b % 64) = 64 - b % 64 := by unfold isub; rw [wrapU]; omega
  rw [g2, by3_ok (n := 64) h0 (by decide) (by decide), e1, if_pos e3, hs, if_pos (by omega)]
theorem tn64 (k : Nat) (a : Int) {s : Int} (h0 : 0 < s) (h1 : s < 64) : ints_turned.f (k + 1) a s 64 = some (ior .u64 (ishl .u64 a s) (ishr .u64 a (64 - s))) := by
  simp only [ints_turned.f]
  rw [if_neg (by omega), isub64 (by omega) (by omega), if_pos (by omega), if_pos (by omega)]
theorem tz64 (k : Nat) (a : Int) : ints_turned.f (k + 1) a 0 64 = some a := by kernel_rfl
theorem as64_16 (k : Nat) {a b : Int} (a0 : 0 ≤ a) (a1 : a < 18446744073709551616) (h0 : 0 ≤ b) : ∃ v, ints_reckoned.f (k + 80) 16 a b 64 = some v ∧ ref1_arith.f (k + 80) 16 a b 64 = some v := by
  have e3 := Int.emod_nonneg b (b := 64) (by decide)
  have e4 := Int.emod_lt_of_pos b (b := 64) (by decide)
  rw [rk_16, mv_16 _ h0 (by decide) (by decide), ra64_16 k h0]
  by_cases hz : b % 64 = 0
  · rw [hz, tz64]
    refine ⟨(a, 0), rfl, ?_⟩
    have s0 : ishl .u64 a 0 = a := by rw [show (0 : Int) = ((0 : Nat) : Int) from rfl, shl_u _ (by decide)]; simp; omega
    have s1 : ishr .u64 a (64 - 0) = 0 := by rw [show (64 : Int) - 0 = ((64 : Nat) : Int) from rfl, shr_u _ (by decide)]; exact Int.ediv_eq_zero_of_lt a0 a1
    rw [s0, s1, ior_zero a0 (by omega)]
  · rw [tn64 _ a (by omega) e4]
    exact ⟨_, rfl, rfl⟩
theorem as64_17 (k : Nat) {a b : Int} (a0 : 0 ≤ a) (a1 : a < 18446744073709551616) (h0 : 0 ≤ b) : ∃ v w, ints_reckoned.f (k + 80) 17 a b 64 = some (v, 0) ∧ ref1_arith.f (k + 80) 17 a b 64 = some (w, 0) ∧ v % 18446744073709551616 = w % 18446744073709551616 ∧ (64 = 64 → v = w) := by
  have e3 := Int.emod_nonneg b (b := 64) (by decide)
  have e4 := Int.emod_lt_of_pos b (b := 64) (by decide)
  rw [rk_17, mv_17 _ h0 (by decide) (by decide), ra64_17 k h0]
  by_cases hz : b % 64 = 0
  · rw [hz, show ((64 : Int) - 0) % 64 = 0 from rfl, tz64]
    have s0 : ishr .u64 a 0 = a := by rw [show (0 : Int) = ((0 : Nat) : Int) from rfl, shr_u _ (by decide)]; simp
    have s1 : ishl .u64 a (64 - 0) = (a * 2 ^ 64) % 18446744073709551616 := by rw [show (64 : Int) - 0 = ((64 : Nat) : Int) from rfl, shl_u _ (by decide)]
    rw [s0, s1]
    refine ⟨_, _, rfl, rfl, ?_, fun h => ?_⟩
    · have e : (a * 2 ^ 64) % 18446744073709551616 = 0 := by rw [two_64]; omega
      rw [e, ior_zero a0 a1]
    · have e : (a * 2 ^ 64) % 18446744073709551616 = 0 := by rw [two_64]; omega
      rw [e, ior_zero a0 a1]
  · rw [Int.emod_eq_of_lt (by omega) (by omega), tn64 _ a (by omega) (by omega), show (64 : Int) - (64 - b % 64) = b % 64 from by omega]
    refine ⟨_, _, rfl, rfl, ?_, fun _ => ?_⟩
    · rw [ior_comm]
    · rw [ior_comm]
end Go.R2D
