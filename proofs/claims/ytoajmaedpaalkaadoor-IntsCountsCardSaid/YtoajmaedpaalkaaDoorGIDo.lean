/- Ints: what the ops are, one by one. -/
import Derived.Test.YtoajmaedpaalkaaDoorGIBase
set_option linter.all false
namespace Go.R2D
open Go Go.Ev
set_option maxRecDepth 100000

theorem within_ok (k : Nat) (op a b : Int) : ints_within.f (k + 1) op a b = some (decide (a ≤ op ∧ op ≤ b)) := by
  simp only [ints_within.f]
  by_cases h : op ≥ a
  · rw [if_pos h]; congr 1; simp [h]
  · rw [if_neg h]; congr 1; simp; omega
theorem known_ok (j : Nat) : law1_known.f (j + 20) = some true := by kernel_rfl
theorem do_lo (k : Nat) {op : Int} (a b : Int) (h1 : 103 ≤ op) (h2 : op ≤ 120) : ints_Do.f (k + 6) op a b = (ints_reckoned.f (k + 5) (op - 103) (a % 4294967296) (b % 4294967296) 32).bind fun p => some (p.1 % 4294967296, p.2) := by
  simp only [ints_Do.f, cut_ok, within_ok, Option.bind_some]
  rw [decide_eq_false (by omega), decide_eq_false (by omega), decide_eq_true (by omega), isub64 (a := op) (b := 103) (by omega) (by omega)]
  simp only [Bool.false_eq_true, if_false, if_true]
theorem do_hi (k : Nat) {op : Int} (a b : Int) (h1 : 121 ≤ op) (h2 : op ≤ 138) : ints_Do.f (k + 6) op a b = ints_reckoned.f (k + 5) (op - 121) a b 64 := by
  simp only [ints_Do.f, cut_ok, within_ok, Option.bind_some]
  rw [decide_eq_false (by omega), decide_eq_false (by omega), decide_eq_false (by omega), decide_eq_true (by omega), isub64 (a := op) (b := 121) (by omega) (by omega)]
  simp only [Bool.false_eq_true, if_false, if_true]
  cases ints_reckoned.f (k + 5) (op - 121) a b 64 <;> rfl
theorem truth_ok (k : Nat) (b : Bool) : ints_truth.f (k + 1) b = some (if b = true then 1 else 0) := by
  simp only [ints_truth.f]; cases b <;> rfl
theorem do_cmp_lo (k : Nat) {op : Int} (a b : Int) (h1 : 69 ≤ op) (h2 : op ≤ 79) : ints_Do.f (k + 6) op a b = (ints_compared.f (k + 5) (op - 69) (a % 4294967296) (b % 4294967296) 32).bind fun r => some (if r = true then 1 else 0, 0) := by
  simp only [ints_Do.f, cut_ok, within_ok, Option.bind_some, truth_ok]
  rw [decide_eq_true (by omega), isub64 (a := op) (b := 69) (by omega) (by omega)]
  simp only [if_true]
theorem do_cmp_hi (k : Nat) {op : Int} (a b : Int) (h1 : 80 ≤ op) (h2 : op ≤ 90) : ints_Do.f (k + 6) op a b = (ints_compared.f (k + 5) (op - 80) a b 64).bind fun r => some (if r = true then 1 else 0, 0) := by
  simp only [ints_Do.f, cut_ok, within_ok, Option.bind_some, truth_ok]
  rw [decide_eq_false (by omega), decide_eq_true (by omega), isub64 (a := op) (b := 80) (by omega) (by omega)]
  simp only [Bool.false_eq_true, if_false, if_true]
theorem cl32 : cl 32 = 32 := by decide
theorem cl64 : cl 64 = 64 := by decide
theorem do_172 (k : Nat) (a b : Int) : ints_Do.f (k + 6) 172 a b = some (icv .u64 (sgn 32 a), 0) := by
  have : ints_Do.f (k + 6) 172 a b = (ints_Sign.f (k + 5) a 32).bind fun r => some (icv .u64 r, 0) := by kernel_rfl
  rw [this, sign_ok, cl32]; rfl
theorem do_196 (k : Nat) (a b : Int) : ints_Do.f (k + 6) 196 a b = some (icv .u64 (sgn 32 a), 0) := by
  have : ints_Do.f (k + 6) 196 a b = (ints_Sign.f (k + 4) a 32).bind fun r => some (icv .u64 r, 0) := by kernel_rfl
  rw [this, sign_ok, cl32]; rfl
theorem do_173 (k : Nat) (a b : Int) : ints_Do.f (k + 6) 173 a b = some (a % 4294967296, 0) := by
  have : ints_Do.f (k + 6) 173 a b = (ints_cut.f (k + 5) a 32).bind fun r => some (r, 0) := by kernel_rfl
  rw [this, cut_ok]; rfl
theorem do_167 (k : Nat) (a b : Int) : ints_Do.f (k + 6) 167 a b = some (a % 4294967296, 0) := by
  have : ints_Do.f (k + 6) 167 a b = (ints_cut.f (k + 5) a 32).bind fun r => some (r, 0) := by kernel_rfl
  rw [this, cut_ok]; rfl
/-! signs -/
theorem sgn_mod {n : Nat} (v w : Int) (h : v % 2 ^ n = w % 2 ^ n) : sgn n v = sgn n w := by unfold sgn; rw [h]
theorem sgn_self_mod (n : Nat) (v : Int) : sgn n v % 2 ^ n = v % 2 ^ n := by
  unfold sgn
  split
  · rw [Int.sub_emod_right, Int.emod_emod]
  · rw [Int.emod_emod]
theorem icv_mod {n : Nat} (h : n ≤ 64) (v : Int) : icv .u64 v % 2 ^ n = v % 2 ^ n := by
  unfold icv
  rw [wrapU]
  exact Int.emod_emod_of_dvd _ ⟨2 ^ (64 - n), by rw [← Int.pow_add, show n + (64 - n) = 64 from by omega]; rfl⟩
theorem sgn_again {n : Nat} (h : n ≤ 64) (v : Int) : sgn n (icv .u64 (sgn n v)) = sgn n v := sgn_mod _ _ (by rw [icv_mod h, sgn_self_mod])
theorem icv_back {n : Nat} (h1 : 1 ≤ n) (h2 : n ≤ 64) (v : Int) : icv .i64 (icv .u64 (sgn n v)) = sgn n v := by
  obtain ⟨g1, g2, _⟩ := sgn_range h1 h2 v
  unfold icv
  rw [wrapU, wrapI]
  omega
/-- The law IntsSigns. -/
theorem signs_ok (j : Nat) (a n : Int) : law1_IntsSigns.f (j + 31) a n = some true := by
  have hm : ∃ m : Nat, 1 ≤ m ∧ m ≤ 64 ∧ iadd .i64 1 (irem .i64 (iadd .i64 (irem .i64 n 64) 64) 64) = (m : Int) := by
    have e1 : -64 < irem .i64 n 64 := by unfold irem; exact Int.lt_tmod_of_pos _ (by decide)
    have e2 : irem .i64 n 64 < 64 := by unfold irem; exact Int.tmod_lt_of_pos _ (by decide)
    generalize irem .i64 n 64 = z at e1 e2
    rw [iadd64 (a := z) (by omega) (by omega), irem_ok (by omega), iadd64 (by omega) (by omega)]
    exact ⟨(1 + (z + 64) % 64).toNat, by omega, by omega, by omega⟩
  obtain ⟨m, h1, h2, hm⟩ := hm
  have hcl : cl (m : Int) = m := by unfold cl imax imin; split <;> split <;> (try split) <;> omega
  obtain ⟨g1, g2, g3, g4⟩ := sgn_range h1 h2 a
  simp only [law1_IntsSigns.f]
  rw [hm, sign_ok, hcl]
  simp only [Option.bind_some]
  rw [sign_ok, hcl, sgn_again h2]
  simp only [Option.bind_some, if_true]
  refine segB_to (o := ()) ?_ ?_
  · by_cases h64 : (m : Int) < 64
    · have hl : ishl .i64 1 ((m - 1 : Nat) : Int) = 2 ^ (m - 1) := by
        have q : (2 : Int) ^ (m - 1) ≤ 2 ^ 62 := pow2_le (by omega)
        have p := pow_pos (m - 1)
        have := ishl_ok (k := .i64) (a := 1) (j := m - 1) (by simp only [IntKind.bits]; omega) (by rw [Int.one_mul]; exact ⟨by omega, by omega⟩)
        rw [this, Int.one_mul]
      have hn : ineg .i64 (2 ^ (m - 1)) = -(2 ^ (m - 1)) := by
        have q : (2 : Int) ^ (m - 1) ≤ 2 ^ 62 := pow2_le (by omega)
        have p := pow_pos (m - 1)
        rw [ineg_ok (k := .i64) (a := 2 ^ (m - 1)) ⟨by omega, by omega⟩]; omega
      rw [if_pos h64, isub64 (by omega) (by omega), show (m : Int) - 1 = ((m - 1 : Nat) : Int) from by omega, icvu64 (by omega) (by omega), if_pos (by omega), hl, hn, if_neg (by omega), if_pos (by omega), if_neg (by omega)]
    · rw [if_neg h64]
  · rw [do_172, do_196, do_173, do_167]
    simp only [Option.bind_some, if_true]
    rw [if_pos (and_low a).symm, sign_ok, cl32]
    simp only [Option.bind_some]
    rw [if_pos (icv_back (by omega) (by omega) a), known_ok]
    rfl
theorem IntsSigns {a n : Int} (_ : inR .u64 a) (_ : inR .i64 n) : ∃ k, law1_IntsSigns.f k a n = some true := ⟨_, signs_ok 0 a n⟩
end Go.R2D
