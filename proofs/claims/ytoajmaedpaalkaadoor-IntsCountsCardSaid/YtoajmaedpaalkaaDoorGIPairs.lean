/- IntsPairs. -/
import Derived.Test.YtoajmaedpaalkaaDoorGIQuo
set_option linter.all false
namespace Go.R2D
open Go Go.Ev
set_option maxRecDepth 100000

theorem mod_mod (x : Int) : (x % 18446744073709551616) % 4294967296 = x % 4294967296 := Int.emod_emod_of_dvd _ ⟨4294967296, rfl⟩
theorem rk_3 (k : Nat) (a b n : Int) : ints_reckoned.f (k + 1) 3 a b n = some (iadd .u64 a b, 0) := by kernel_rfl
theorem rk_4 (k : Nat) (a b n : Int) : ints_reckoned.f (k + 1) 4 a b n = some (isub .u64 a b, 0) := by kernel_rfl
theorem rk_5 (k : Nat) (a b n : Int) : ints_reckoned.f (k + 1) 5 a b n = some (imul .u64 a b, 0) := by kernel_rfl
theorem pair_id (x : Option (Int × Int)) : (x.bind fun p => some (p.1, p.2)) = x := by cases x <;> rfl
theorem rk_6 (k : Nat) (a b n : Int) : ints_reckoned.f (k + 1) 6 a b n = ints_quotient.f k 6 a b n := by
  rw [← pair_id (ints_quotient.f k 6 a b n)]; kernel_rfl
theorem rk_7 (k : Nat) (a b n : Int) : ints_reckoned.f (k + 1) 7 a b n = ints_quotient.f k 7 a b n := by
  rw [← pair_id (ints_quotient.f k 7 a b n)]; kernel_rfl
theorem rk_8 (k : Nat) (a b n : Int) : ints_reckoned.f (k + 1) 8 a b n = ints_quotient.f k 8 a b n := by
  rw [← pair_id (ints_quotient.f k 8 a b n)]; kernel_rfl
theorem rk_9 (k : Nat) (a b n : Int) : ints_reckoned.f (k + 1) 9 a b n = ints_quotient.f k 9 a b n := by
  rw [← pair_id (ints_quotient.f k 9 a b n)]; kernel_rfl
theorem rk_16 (k : Nat) (a b n : Int) : ints_reckoned.f (k + 1) 16 a b n = (ints_moved.f k 16 a b n).bind fun r => some (r, 0) := by kernel_rfl
theorem rk_17 (k : Nat) (a b n : Int) : ints_reckoned.f (k + 1) 17 a b n = (ints_moved.f k 17 a b n).bind fun r => some (r, 0) := by kernel_rfl
theorem one_id {β : Type} (x : Option β) : (x.bind fun p => some p) = x := by cases x <;> rfl
theorem by_ok {b n : Int} (h0 : 0 ≤ b) (hn : 0 < n) (hn2 : n ≤ 64) : icv .u64 n = n ∧ icv .i64 (irem .u64 b (icv .u64 n)) = b % n ∧ 0 ≤ b % n ∧ b % n < n := by
  have e : icv .u64 n = n := icvu64 (by omega) (by omega)
  have r0 := Int.emod_nonneg b (b := n) (by omega)
  have r1 := Int.emod_lt_of_pos b hn
  refine ⟨e, ?_, r0, r1⟩
  rw [e, irem_ok h0, icv64 (by omega) (by omega)]
theorem mv_16 (k : Nat) {a b n : Int} (h0 : 0 ≤ b) (hn : 0 < n) (hn2 : n ≤ 64) : ints_moved.f (k + 1) 16 a b n = ints_turned.f k a (b % n) n := by
  obtain ⟨e1, e2, e3, e4⟩ := by_ok h0 hn hn2
  have : ints_moved.f (k + 1) 16 a b n = if icv .u64 n ≠ 0 then ((ints_turned.f k a (icv .i64 (irem .u64 b (icv .u64 n))) n).bind fun r => some r) else none := by kernel_rfl
  rw [this, one_id, e2, e1, if_pos (by omega)]
theorem mv_17 (k : Nat) {a b n : Int} (h0 : 0 ≤ b) (hn : 0 < n) (hn2 : n ≤ 64) : ints_moved.f (k + 1) 17 a b n = ints_turned.f k a ((n - b % n) % n) n := by
  obtain ⟨e1, e2, e3, e4⟩ := by_ok h0 hn hn2
  have : ints_moved.f (k + 1) 17 a b n = if icv .u64 n ≠ 0 then (if n ≠ 0 then ((ints_turned.f k a (irem .i64 (isub .i64 n (icv .i64 (irem .u64 b (icv .u64 n)))) n) n).bind fun r => some r) else none) else none := by kernel_rfl
  rw [this, one_id, e2, e1, if_pos (by omega), if_pos (by omega), isub64 (by omega) (by omega), irem_ok (by omega)]
/-! the ops of 32 bits -/
theorem add32 (k : Nat) (x y : Int) : ints_Do.f (k + 6) 106 x y = some ((x + y) % 4294967296, 0) := by
  rw [do_lo k x y (by decide) (by decide), show (106 : Int) - 103 = 3 from rfl, rk_3]
  simp only [Option.bind_some, iadd, wrapU, mod_mod, ← Int.add_emod]
theorem sub32 (k : Nat) (x y : Int) : ints_Do.f (k + 6) 107 x y = some ((x - y) % 4294967296, 0) := by
  rw [do_lo k x y (by decide) (by decide), show (107 : Int) - 103 = 4 from rfl, rk_4]
  simp only [Option.bind_some, isub, wrapU, mod_mod, ← Int.sub_emod]
theorem mul32 (k : Nat) (x y : Int) : ints_Do.f (k + 6) 108 x y = some ((x * y) % 4294967296, 0) := by
  rw [do_lo k x y (by decide) (by decide), show (108 : Int) - 103 = 5 from rfl, rk_5]
  simp only [Option.bind_some, imul, wrapU, mod_mod, ← Int.mul_emod]
theorem low_range (y : Int) : 0 ≤ y % 4294967296 ∧ y % 4294967296 < 2 ^ 32 := ⟨Int.emod_nonneg _ (by decide), Int.emod_lt_of_pos _ (by decide)⟩
theorem ds32 (k : Nat) (x y : Int) : ints_Do.f (k + 7) 109 x y = some ((quoS 32 (x % 4294967296) (y % 4294967296)).1 % 4294967296, (quoS 32 (x % 4294967296) (y % 4294967296)).2) := by
  have hq : ints_quotient.f (k + 5) 6 (x % 4294967296) (y % 4294967296) 32 = some (quoS 32 (x % 4294967296) (y % 4294967296)) := quo_6 bits32 (k + 3) (low_range y).1 (low_range y).2
  rw [do_lo (k + 1) x y (by decide) (by decide), show (109 : Int) - 103 = 6 from rfl, rk_6, hq]; rfl
theorem du32 (k : Nat) (x y : Int) : ints_Do.f (k + 7) 110 x y = some ((quoU (x % 4294967296) (y % 4294967296)).1 % 4294967296, (quoU (x % 4294967296) (y % 4294967296)).2) := by
  have hq : ints_quotient.f (k + 5) 7 (x % 4294967296) (y % 4294967296) 32 = some (quoU (x % 4294967296) (y % 4294967296)) := quo_7 bits32 (k + 3) _ _
  rw [do_lo (k + 1) x y (by decide) (by decide), show (110 : Int) - 103 = 7 from rfl, rk_7, hq]; rfl
theorem rs32 (k : Nat) (x y : Int) : ints_Do.f (k + 7) 111 x y = some ((remS 32 (x % 4294967296) (y % 4294967296)).1 % 4294967296, (remS 32 (x % 4294967296) (y % 4294967296)).2) := by
  have hq : ints_quotient.f (k + 5) 8 (x % 4294967296) (y % 4294967296) 32 = some (remS 32 (x % 4294967296) (y % 4294967296)) := quo_8 bits32 (k + 3) (low_range y).1 (low_range y).2
  rw [do_lo (k + 1) x y (by decide) (by decide), show (111 : Int) - 103 = 8 from rfl, rk_8, hq]; rfl
theorem ru32 (k : Nat) (x y : Int) : ints_Do.f (k + 7) 112 x y = some ((remU (x % 4294967296) (y % 4294967296)).1 % 4294967296, (remU (x % 4294967296) (y % 4294967296)).2) := by
  have hq : ints_quotient.f (k + 5) 9 (x % 4294967296) (y % 4294967296) 32 = some (remU (x % 4294967296) (y % 4294967296)) := quo_9 bits32 (k + 3) _ _
  rw [do_lo (k + 1) x y (by decide) (by decide), show (112 : Int) - 103 = 9 from rfl, rk_9, hq]; rfl
theorem rl32 (k : Nat) (x y : Int) : ints_Do.f (k + 8) 119 x y = some (rot 32 ((y % 4294967296) % 32).toNat (x % 4294967296), 0) := by
  rw [do_lo (k + 2) x y (by decide) (by decide), show (119 : Int) - 103 = 16 from rfl, rk_16, mv_16 _ (low_range y).1 (by decide) (by decide)]
  have r0 := Int.emod_nonneg (y % 4294967296) (b := 32) (by decide)
  have r1 := Int.emod_lt_of_pos (y % 4294967296) (b := 32) (by decide)
  obtain ⟨r, h1, _, _, h4⟩ := turned32 (k + 4) (s := ((y % 4294967296) % 32).toNat) (by omega) (low_range x).1 (low_range x).2
  rw [Int.toNat_of_nonneg r0] at h1
  rw [h1]
  simp only [Option.bind_some, h4]
theorem rr32 (k : Nat) (x y : Int) : ints_Do.f (k + 8) 120 x y = some (rot 32 ((32 - (y % 4294967296) % 32) % 32).toNat (x % 4294967296), 0) := by
  rw [do_lo (k + 2) x y (by decide) (by decide), show (120 : Int) - 103 = 17 from rfl, rk_17, mv_17 _ (low_range y).1 (by decide) (by decide)]
  have r0 := Int.emod_nonneg (32 - (y % 4294967296) % 32) (b := 32) (by decide)
  have r1 := Int.emod_lt_of_pos (32 - (y % 4294967296) % 32) (b := 32) (by decide)
  obtain ⟨r, h1, _, _, h4⟩ := turned32 (k + 4) (s := ((32 - (y % 4294967296) % 32) % 32).toNat) (by omega) (low_range x).1 (low_range x).2
  rw [Int.toNat_of_nonneg r0] at h1
  rw [h1]
  simp only [Option.bind_some, h4]
/-! the ops of 64 bits -/
theorem add64 (k : Nat) (x y : Int) : ints_Do.f (k + 6) 124 x y = some ((x + y) % 18446744073709551616, 0) := by
  rw [do_hi k x y (by decide) (by decide), show (124 : Int) - 121 = 3 from rfl, rk_3]
  simp only [iadd, wrapU]
theorem sub64 (k : Nat) (x y : Int) : ints_Do.f (k + 6) 125 x y = some ((x - y) % 18446744073709551616, 0) := by
  rw [do_hi k x y (by decide) (by decide), show (125 : Int) - 121 = 4 from rfl, rk_4]
  simp only [isub, wrapU]
theorem mul64 (k : Nat) (x y : Int) : ints_Do.f (k + 6) 126 x y = some ((x * y) % 18446744073709551616, 0) := by
  rw [do_hi k x y (by decide) (by decide), show (126 : Int) - 121 = 5 from rfl, rk_5]
  simp only [imul, wrapU]
theorem ds64 (k : Nat) (x : Int) {y : Int} (h0 : 0 ≤ y) (h1 : y < 18446744073709551616) : ints_Do.f (k + 7) 127 x y = some (quoS 64 x y) := by
  rw [do_hi (k + 1) x y (by decide) (by decide), show (127 : Int) - 121 = 6 from rfl, rk_6]; exact quo_6 bits64 (k + 3) h0 h1
theorem du64 (k : Nat) (x y : Int) : ints_Do.f (k + 7) 128 x y = some (quoU x y) := by
  rw [do_hi (k + 1) x y (by decide) (by decide), show (128 : Int) - 121 = 7 from rfl, rk_7]; exact quo_7 bits64 (k + 3) _ _
theorem rs64 (k : Nat) (x : Int) {y : Int} (h0 : 0 ≤ y) (h1 : y < 18446744073709551616) : ints_Do.f (k + 7) 129 x y = some (remS 64 x y) := by
  rw [do_hi (k + 1) x y (by decide) (by decide), show (129 : Int) - 121 = 8 from rfl, rk_8]; exact quo_8 bits64 (k + 3) h0 h1
theorem ru64 (k : Nat) (x y : Int) : ints_Do.f (k + 7) 130 x y = some (remU x y) := by
  rw [do_hi (k + 1) x y (by decide) (by decide), show (130 : Int) - 121 = 9 from rfl, rk_9]; exact quo_9 bits64 (k + 3) _ _
theorem rl64 (k : Nat) {x y : Int} (hx0 : 0 ≤ x) (hx1 : x < 18446744073709551616) (hy : 0 ≤ y) : ints_Do.f (k + 8) 137 x y = some (rot 64 (y % 64).toNat x, 0) := by
  rw [do_hi (k + 2) x y (by decide) (by decide), show (137 : Int) - 121 = 16 from rfl, rk_16, mv_16 _ hy (by decide) (by decide)]
  have r0 := Int.emod_nonneg y (b := 64) (by decide)
  have r1 := Int.emod_lt_of_pos y (b := 64) (by decide)
  have := turned64 (k + 4) (s := (y % 64).toNat) (by omega) hx0 hx1
  rw [Int.toNat_of_nonneg r0] at this
  rw [this]; rfl
theorem rr64 (k : Nat) {x y : Int} (hx0 : 0 ≤ x) (hx1 : x < 18446744073709551616) (hy : 0 ≤ y) : ints_Do.f (k + 8) 138 x y = some (rot 64 ((64 - y % 64) % 64).toNat x, 0) := by
  rw [do_hi (k + 2) x y (by decide) (by decide), show (138 : Int) - 121 = 17 from rfl, rk_17, mv_17 _ hy (by decide) (by decide)]
  have r0 := Int.emod_nonneg (64 - y % 64) (b := 64) (by decide)
  have r1 := Int.emod_lt_of_pos (64 - y % 64) (b := 64) (by decide)
  have := turned64 (k + 4) (s := ((64 - y % 64) % 64).toNat) (by omega) hx0 hx1
  rw [Int.toNat_of_nonneg r0] at this
  rw [this]; rfl
/-- What is turned there and back. -/
theorem rot_there {W : Nat} {x s : Int} (h0 : 0 ≤ x) (h1 : x < 2 ^ W) (s0 : 0 ≤ s) (s1 : s < W) : rot W (((W : Int) - s) % (W : Int)).toNat (rot W s.toNat x) = x := by
  by_cases hs : s = 0
  · subst hs
    rw [Int.sub_zero, Int.emod_self]
    show rot W 0 (rot W 0 x) = x
    rw [rot_zero h0 h1, rot_zero h0 h1]
  · rw [Int.emod_eq_of_lt (by omega) (by omega), show ((W : Int) - s).toNat = W - s.toNat from by omega]
    exact rot_back (by omega) h0 h1
/-! a quotient and its remainder -/
theorem parts_back {M x y q m X Y Q R : Int} (hx0 : 0 ≤ x) (hx1 : x < M) (hX : X % M = x % M) (hY : Y % M = y % M) (hq : q % M = Q % M) (hm : m % M = R % M) (h : Q * Y + R = X) : ((q * y) % M + m) % M = x := by
  rw [Int.add_emod, Int.emod_emod, Int.mul_emod, hq, hm, ← hY, ← Int.mul_emod, ← Int.add_emod, h, hX, Int.emod_eq_of_lt hx0 hx1]
theorem quoS_iff {n : Nat} {a b : Int} : ((quoS n a b).2 = 2 ↔ b = 0) ∧ ((remS n a b).2 = 2 ↔ b = 0) ∧ ((quoU a b).2 = 2 ↔ b = 0) ∧ ((remU a b).2 = 2 ↔ b = 0) := by
  unfold quoS remS quoU remU
  refine ⟨?_, ?_, ?_, ?_⟩
  · split
    · simp_all
    · split <;> simp_all
  · split
    · simp_all
    · split <;> simp_all
  · split <;> simp_all
  · split <;> simp_all
theorem wrapI_mod {n : Nat} (h : n ≤ 64) (v : Int) : IntKind.i64.wrap v % 2 ^ n = v % 2 ^ n := by
  rw [wrapI]
  have e : (18446744073709551616 : Int) = 2 ^ n * 2 ^ (64 - n) := by rw [← Int.pow_add, show n + (64 - n) = 64 from by omega]; rfl
  have h2 : (v + 9223372036854775808) % 18446744073709551616 - 9223372036854775808 = v - 18446744073709551616 * ((v + 9223372036854775808) / 18446744073709551616) := by omega
  rw [h2, e, Int.mul_assoc, Int.sub_mul_emod_self_left]
theorem signed_back {n : Nat} (hn1 : 1 ≤ n) (h : n ≤ 64) {x y : Int} (hx0 : 0 ≤ x) (hx1 : x < 2 ^ n) (q m : Int) (hq : q % 2 ^ n = (quoS n x y).1 % 2 ^ n) (hm : m % 2 ^ n = (remS n x y).1 % 2 ^ n) (h1 : (quoS n x y).2 = 0) (h2 : (remS n x y).2 = 0) :
    ((q * y) % 2 ^ n + m) % 2 ^ n = x := by
  have hb : y ≠ 0 := by
    intro hb
    rw [hb] at h1; simp [quoS] at h1
  have e1 : (quoS n x y).1 = icv .u64 (iquo .i64 (sgn n x) (sgn n y)) := by
    unfold quoS at h1 ⊢
    rw [if_neg hb] at h1 ⊢
    split at h1
    · simp at h1
    · rename_i hc; rw [if_neg hc]
  rw [e1, icv_mod h] at hq
  unfold iquo at hq
  rw [wrapI_mod h] at hq
  refine parts_back hx0 hx1 (X := sgn n x) (Y := sgn n y) (Q := (sgn n x).tdiv (sgn n y)) (R := (sgn n x).tmod (sgn n y)) (sgn_self_mod n x) (sgn_self_mod n y) hq ?_ ?_
  · rw [hm]
    unfold remS
    rw [if_neg hb]
    split
    · rename_i hy
      rw [hy]
      simp [Int.tmod_neg]
    · simp only
      rw [icv_mod h]
      rfl
  · rw [Int.mul_comm]; exact Int.mul_tdiv_add_tmod _ _
theorem unsigned_back {M x y : Int} (hx0 : 0 ≤ x) (hx1 : x < M) (hM : M ≤ 18446744073709551616) (hy0 : 0 ≤ y) (q m : Int) (hq : q % M = (quoU x y).1 % M) (hm : m % M = (remU x y).1 % M) (h1 : (quoU x y).2 = 0) : ((q * y) % M + m) % M = x := by
  have hb : y ≠ 0 := by
    intro hb
    rw [hb] at h1; simp [quoU] at h1
  have d0 := Int.ediv_nonneg hx0 hy0
  have d1 := Int.ediv_le_self y hx0
  have e1 : (quoU x y).1 = x / y := by
    unfold quoU iquo
    rw [if_neg hb, wrapU]
    simp only
    rw [Int.tdiv_eq_ediv_of_nonneg hx0, Int.emod_eq_of_lt d0 (by omega)]
  have e2 : (remU x y).1 = x % y := by
    unfold remU
    rw [if_neg hb]
    exact irem_ok (k := .u64) hx0
  refine parts_back hx0 hx1 rfl rfl (hq.trans (by rw [e1])) (hm.trans (by rw [e2])) ?_
  rw [Int.mul_comm]; exact Int.mul_ediv_add_emod x y
end Go.R2D
