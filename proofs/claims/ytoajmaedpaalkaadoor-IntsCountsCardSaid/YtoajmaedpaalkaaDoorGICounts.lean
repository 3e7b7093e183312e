/- IntsCounts. -/
import Derived.Test.YtoajmaedpaalkaaDoorGITells
set_option linter.all false
namespace Go.R2D
open Go Go.Ev
set_option maxRecDepth 100000

/-! the loop that adds up -/
theorem sum_loop (k : Nat) {W : Nat} (hW : Width W) (x : Nat) (hk : 100 ≤ k) : loopS (law1_IntsCounts.b14 k (W : Int) (x : Int)) k ((0 : Int), (0 : Int)) = some ((pc W x : Nat) : Int) := by
  have hm := hW.m
  refine loopS_count (f := law1_IntsCounts.b14 k (W : Int) (x : Int)) (fun i : Nat => (((pc i x : Nat) : Int), (i : Int))) W ((pc W x : Nat) : Int) ?_ (fun i hi => ?_) W 0 k (by omega) (by omega)
  · simp only [law1_IntsCounts.b14]
    rw [if_neg (by omega)]
  · have p := pc_le i x
    have q : x / 2 ^ i % 2 < 2 := Nat.mod_lt _ (by decide)
    simp only [law1_IntsCounts.b14]
    rw [if_pos (by omega), if_pos (by omega), bit_ok _ (by omega), bitN, iaddN (a := pc i x) (b := x / 2 ^ i % 2) (by omega), pc_snoc]
    have : iadd .u64 (i : Int) 1 = ((i + 1 : Nat) : Int) := iaddN (a := i) (b := 1) (by omega)
    rw [this]
/-- What is turned has as many ones. -/
theorem pc_rot {W s : Nat} (hs : s ≤ W) {x : Int} (h0 : 0 ≤ x) (h1 : x < 2 ^ W) : pc W (rot W s x).toNat = pc W x.toNat := by
  obtain ⟨g1, g2, g3, g4⟩ := rot_parts hs h0 h1
  have e1 : ((x.toNat % 2 ^ (W - s) : Nat) : Int) = x % 2 ^ (W - s) := by push_cast; rw [Int.toNat_of_nonneg h0]
  have e2 : ((x.toNat / 2 ^ (W - s) : Nat) : Int) = x / 2 ^ (W - s) := by push_cast; rw [Int.toNat_of_nonneg h0]
  have er : (rot W s x).toNat = x.toNat / 2 ^ (W - s) + 2 ^ s * (x.toNat % 2 ^ (W - s)) := by
    have : (rot W s x) = ((x.toNat / 2 ^ (W - s) + 2 ^ s * (x.toNat % 2 ^ (W - s)) : Nat) : Int) := by
      unfold rot
      rw [← e1, ← e2]
      push_cast
      rw [Int.mul_comm, Int.add_comm]
    rw [this, Int.toNat_natCast]
  have hv : x.toNat / 2 ^ (W - s) < 2 ^ s := by
    have : ((x.toNat / 2 ^ (W - s) : Nat) : Int) < ((2 ^ s : Nat) : Int) := by rw [e2]; push_cast; exact g4
    exact_mod_cast this
  rw [er]
  generalize x.toNat = X at hv
  generalize hvv : X / 2 ^ (W - s) = v at hv
  generalize huu : X % 2 ^ (W - s) = u
  have p := Nat.two_pow_pos s
  have l1 : pc W (v + 2 ^ s * u) = pc s v + pc (W - s) u := by
    conv => lhs; rw [show W = s + (W - s) from by omega, pc_add]
    rw [← pc_mod s (v + 2 ^ s * u), Nat.add_mul_mod_self_left, Nat.mod_eq_of_lt hv, Nat.add_mul_div_left _ _ p, Nat.div_eq_of_lt hv, Nat.zero_add]
  have l2 : pc W X = pc (W - s) u + pc s v := by
    conv => lhs; rw [show W = (W - s) + s from by omega, pc_add]
    rw [← pc_mod (W - s) X, huu, hvv]
  rw [l1, l2, Nat.add_comm]
/-- What is known of the counts. -/
structure Counts (W : Nat) (x : Int) (r c : Nat) : Prop where
  w : Width W
  x0 : 0 ≤ x
  xr : x < 2 ^ r
  rW : r ≤ W
  rl : 0 < r → 2 ^ (r - 1) ≤ x
  cW : c ≤ W
  cz : x = 0 → c = W
  cn : x ≠ 0 → c < W ∧ ∃ m : Int, 0 ≤ m ∧ x = 2 ^ c * (2 * m + 1)
def midE (W : Nat) (x z t : Int) : Option (Unit ⊕ (Int ⊕ (Unit ⊕ Unit))) := (if z > (W : Int) then (some (.inr (.inr (.inr ())))) else (if t > (W : Int) then (some (.inr (.inr (.inr ())))) else (if x = 0 then (if x = 0 then (if z = (W : Int) then (if t = (W : Int) then (some (.inl ())) else (some (.inr (.inr (.inr ()))))) else (some (.inr (.inr (.inr ()))))) else (some (.inl ()))) else (if (0 : Int) ≤ (isub .u64 (isub .u64 (W : Int) 1) z) then (if (ishr .u64 x (isub .u64 (isub .u64 (W : Int) 1) z)) = 1 then (if (0 : Int) ≤ t then (if (iand .u64 (ishr .u64 x t) 1) = 1 then (if (0 : Int) ≤ (isub .u64 64 t) then (if (ishr .u64 (ishl .u64 x (isub .u64 64 t)) 1) = 0 then (if x = 0 then (if z = (W : Int) then (if t = (W : Int) then (some (.inl ())) else (some (.inr (.inr (.inr ()))))) else (some (.inr (.inr (.inr ()))))) else (some (.inl ()))) else (if t > 0 then (some (.inr (.inr (.inr ())))) else (if x = 0 then (if z = (W : Int) then (if t = (W : Int) then (some (.inl ())) else (some (.inr (.inr (.inr ()))))) else (some (.inr (.inr (.inr ()))))) else (some (.inl ()))))) else none) else (some (.inr (.inr (.inr ()))))) else none) else (some (.inr (.inr (.inr ()))))) else none))))
theorem mid_ok {W : Nat} {x : Int} {r c : Nat} (h : Counts W x r c) : midE W x ((W - r : Nat) : Int) (c : Int) = some (.inl ()) := by
  have hp := h.w.p
  have hm := h.w.m
  have rW := h.rW
  have cW := h.cW
  unfold midE
  rw [if_neg (by omega), if_neg (by omega)]
  by_cases hx : x = 0
  · have hr : r = 0 := by
      rcases Nat.eq_zero_or_pos r with hr | hr
      · exact hr
      · have := h.rl hr
        have p := pow_pos (r - 1)
        omega
    have hc := h.cz hx
    subst hr
    rw [if_pos hx, if_pos hx, if_pos (by omega), if_pos (by omega)]
  · obtain ⟨hcW, m, m0, e⟩ := h.cn hx
    have hr : 0 < r := by
      rcases Nat.eq_zero_or_pos r with hr | hr
      · have := h.xr
        have x0 := h.x0
        rw [hr] at this
        simp at this
        omega
      · exact hr
    have s1 : isub .u64 (isub .u64 (W : Int) 1) ((W - r : Nat) : Int) = ((r - 1 : Nat) : Int) := by
      unfold isub; rw [wrapU, wrapU]; omega
    have p := pow_pos (r - 1)
    have er : (2 : Int) ^ r = 2 * 2 ^ (r - 1) := by rw [show r = (r - 1) + 1 from by omega, Int.pow_succ]; simp; omega
    have xr := h.xr
    have rl := h.rl hr
    have top : ishr .u64 x ((r - 1 : Nat) : Int) = 1 := by
      rw [shr_u _ (by omega)]
      have a1 : x / 2 ^ (r - 1) < 2 := (Int.ediv_lt_iff_lt_mul p).2 (by omega)
      have a2 : 1 ≤ x / 2 ^ (r - 1) := (Int.le_ediv_iff_mul_le p).2 (by omega)
      omega
    have low : iand .u64 (ishr .u64 x (c : Int)) 1 = 1 := by rw [bit_ok _ (by omega), e]; exact bit_odd
    have s2 : isub .u64 64 (c : Int) = ((64 - c : Nat) : Int) := by unfold isub; rw [wrapU]; omega
    have up : ishr .u64 (ishl .u64 x ((64 - c : Nat) : Int)) 1 = 0 := by
      rw [shl_u _ (by omega), show (1 : Int) = ((1 : Nat) : Int) from rfl, shr_u _ (by decide)]
      have e2 : x * 2 ^ (64 - c) = 18446744073709551616 * (2 * m + 1) := by
        rw [e, Int.mul_right_comm, ← Int.pow_add, show c + (64 - c) = 64 from by omega, two_64]
      rw [e2, Int.mul_emod_right]; rfl
    rw [if_neg hx, s1, if_pos (by omega), if_pos top, if_pos (by omega), if_pos low, s2, if_pos (by omega), if_pos up, if_neg hx]
theorem k13 (k : Nat) (a b n : Int) : ints_reckoned.f (k + 2) 13 a b n = (if icv .u64 n ≠ 0 then (if (0 : Int) ≤ (icv .i64 (irem .u64 b (icv .u64 n))) then (some (ishl .u64 a (icv .i64 (irem .u64 b (icv .u64 n))))) else none) else none).bind fun r => some (r, 0) := by kernel_rfl
theorem k15 (k : Nat) (a b n : Int) : ints_reckoned.f (k + 2) 15 a b n = (if icv .u64 n ≠ 0 then (if (0 : Int) ≤ (icv .i64 (irem .u64 b (icv .u64 n))) then (some (ishr .u64 a (icv .i64 (irem .u64 b (icv .u64 n))))) else none) else none).bind fun r => some (r, 0) := by kernel_rfl
/-! 32 bits -/
theorem counts32 (j : Nat) {x : Int} (h0 : 0 ≤ x) (h1 : x < 4294967296) : ∃ r c, Counts 32 x r c ∧ ints_Do.f (j + 100) 103 x 0 = some (((32 - r : Nat) : Int), 0) ∧ ints_Do.f (j + 100) 104 x 0 = some ((c : Int), 0) := by
  obtain ⟨r, e, g1, g2, g3⟩ := cn_0 (j + 95) w32 (x := x) h0 (by rw [two_32]; exact h1)
  obtain ⟨c, f, q1, q2, q3⟩ := cn_1 (j + 96) w32 (x := x) h0 (by rw [two_32]; exact h1)
  have ex : x % 4294967296 = x := Int.emod_eq_of_lt h0 h1
  refine ⟨r, c, ⟨w32, h0, g2, g1, g3, q1, q2, q3⟩, ?_, ?_⟩
  · have e1 : ints_reckoned.f (j + 94 + 5) (103 - 103) x (0 % 4294967296) 32 = (ints_counted.f (j + 98) 0 x 32).bind fun r => some (r, 0) := ka32_0 (j + 98) x 0
    have e2 : ints_counted.f (j + 98) 0 x 32 = _ := e
    rw [do_lo (j + 94) x 0 (by decide) (by decide), ex, e1, e2]
    simp only [Option.bind_some]
    congr 2
    omega
  · have e1 : ints_reckoned.f (j + 94 + 5) (104 - 103) x (0 % 4294967296) 32 = (ints_counted.f (j + 98) 1 x 32).bind fun r => some (r, 0) := ka32_1 (j + 98) x 0
    have e2 : ints_counted.f (j + 98) 1 x 32 = _ := f
    rw [do_lo (j + 94) x 0 (by decide) (by decide), ex, e1, e2]
    simp only [Option.bind_some]
    congr 2
    omega
theorem ones32 (j : Nat) {x : Int} (h0 : 0 ≤ x) (h1 : x < 4294967296) : ints_Do.f (j + 100) 105 x 0 = some (((pc 32 x.toNat : Nat) : Int), 0) := by
  have ex : x % 4294967296 = x := Int.emod_eq_of_lt h0 h1
  have e1 : ints_reckoned.f (j + 94 + 5) (105 - 103) x (0 % 4294967296) 32 = (ints_counted.f (j + 98) 2 x 32).bind fun r => some (r, 0) := ka32_2 (j + 98) x 0
  have e2 : ints_counted.f (j + 98) 2 x 32 = _ := cn_2 (j + 96) h0 (by omega)
  have := pc_le 32 x.toNat
  have e3 : (((pc 32 x.toNat : Nat) : Int)) % 4294967296 = ((pc 32 x.toNat : Nat) : Int) := by
    generalize pc 32 x.toNat = q at this
    omega
  rw [do_lo (j + 94) x 0 (by decide) (by decide), ex, e1, e2, pc_wide (W := 32) (by decide) (by omega)]
  simp only [Option.bind_some]
  rw [e3]
theorem mod32 (n : Int) : (n % 4294967296) % 32 = n % 32 := Int.emod_emod_of_dvd _ ⟨134217728, rfl⟩
theorem sl32 (j : Nat) {x n : Int} (h0 : 0 ≤ x) (h1 : x < 4294967296) : ints_Do.f (j + 100) 116 x n = some ((ishl .u64 x (n % 32)) % 4294967296, 0) := by
  have ex : x % 4294967296 = x := Int.emod_eq_of_lt h0 h1
  obtain ⟨b1, b2, b3, b4⟩ := by_ok (b := n % 4294967296) (n := 32) (low_range n).1 (by decide) (by decide)
  rw [mod32] at b2 b3 b4
  have e1 : ints_reckoned.f (j + 94 + 5) (116 - 103) x (n % 4294967296) 32 = _ := k13 (j + 97) x (n % 4294967296) 32
  rw [do_lo (j + 94) x n (by decide) (by decide), ex, e1, b2, b1, if_pos (by decide), if_pos b3]
  rfl
theorem sr32 (j : Nat) {x n : Int} (h0 : 0 ≤ x) (h1 : x < 4294967296) : ints_Do.f (j + 100) 118 x n = some ((ishr .u64 x (n % 32)) % 4294967296, 0) := by
  have ex : x % 4294967296 = x := Int.emod_eq_of_lt h0 h1
  obtain ⟨b1, b2, b3, b4⟩ := by_ok (b := n % 4294967296) (n := 32) (low_range n).1 (by decide) (by decide)
  rw [mod32] at b2 b3 b4
  have e1 : ints_reckoned.f (j + 94 + 5) (118 - 103) x (n % 4294967296) 32 = _ := k15 (j + 97) x (n % 4294967296) 32
  rw [do_lo (j + 94) x n (by decide) (by decide), ex, e1, b2, b1, if_pos (by decide), if_pos b3]
  rfl
theorem round0 (j : Nat) (a : Int) {n : Int} (n0 : 0 ≤ n) : law1_IntsCounts.b2 (j + 100) a n 0 = some (.inl 1) := by
  obtain ⟨x0, x1⟩ := low_range a
  rw [two_32] at x1
  simp only [law1_IntsCounts.b2]
  rw [if_pos (by decide), if_pos (by decide)]
  refine bindO (o := (103 : Int)) rfl ?_
  refine segB_to (o := (32, a % 4294967296)) (by rw [if_neg (by decide), and_low]) ?_
  dsimp only
  generalize a % 4294967296 = x at x0 x1
  obtain ⟨r, c, h, e0, e1⟩ := counts32 j x0 x1
  have e2 := ones32 j x0 x1
  have s0 := Int.emod_nonneg n (b := 32) (by decide)
  have s1 := Int.emod_lt_of_pos n (b := 32) (by decide)
  have x2 : x < 2 ^ 32 := by rw [two_32]; exact x1
  have rr := rot_range (W := 32) (s := (n % 32).toNat) (by omega) x0 x2
  rw [two_32] at rr
  have e3 := rl32 (j + 92) x n
  rw [mod32, Int.emod_eq_of_lt x0 x1] at e3
  have e4 := ones32 j rr.1 rr.2
  rw [pc_rot (W := 32) (by omega) x0 x2] at e4
  refine bindO e0 ?_
  dsimp only
  refine bindO e1 ?_
  dsimp only
  refine bindO e2 ?_
  dsimp only
  refine bindO e3 ?_
  dsimp only
  refine bindO e4 ?_
  dsimp only
  have e5 := sum_loop (j + 100) w32 x.toNat (by omega)
  rw [Int.toNat_of_nonneg x0] at e5
  refine bindO e5 ?_
  refine segB_to (o := ()) (by rw [if_pos rfl, if_pos rfl]; exact mid_ok h) ?_
  have l0 := Int.emod_nonneg (ishl .u64 x (n % 32)) (b := 4294967296) (by decide)
  have l1 := Int.emod_lt_of_pos (ishl .u64 x (n % 32)) (b := 4294967296) (by decide)
  refine bindO (sl32 j (n := n) x0 x1) ?_
  dsimp only
  refine bindO (sr32 j (n := n) l0 l1) ?_
  dsimp only
  have hi : irem .u64 n 32 = n % 32 := irem_ok n0
  rw [if_pos (by decide), hi, if_pos s0]
  refine segB_to (o := (ishl .u64 x (n % 32)) % 4294967296) (by rw [if_pos rfl, and_low]) ?_
  rw [if_pos rfl, if_pos s0]
  generalize (ishl .u64 x (n % 32)) % 4294967296 = l at l0 l1
  have hs : n % 32 = (((n % 32).toNat : Nat) : Int) := by omega
  have sh : ishr .u64 l (n % 32) % 4294967296 = ishr .u64 l (n % 32) := by
    rw [hs, shr_u _ (by omega)]
    have p := pow_pos (n % 32).toNat
    have d0 := Int.ediv_nonneg l0 (Int.le_of_lt p)
    have d1 := Int.ediv_le_self (2 ^ (n % 32).toNat) l0
    exact Int.emod_eq_of_lt d0 (by omega)
  rw [sh, if_pos rfl]
  rfl
/-! 64 bits -/
theorem counts64 (j : Nat) {x : Int} (h0 : 0 ≤ x) (h1 : x < 18446744073709551616) : ∃ r c, Counts 64 x r c ∧ ints_Do.f (j + 100) 121 x 0 = some (((64 - r : Nat) : Int), 0) ∧ ints_Do.f (j + 100) 122 x 0 = some ((c : Int), 0) := by
  obtain ⟨r, e, g1, g2, g3⟩ := cn_0 (j + 95) w64 (x := x) h0 (by rw [two_64]; exact h1)
  obtain ⟨c, f, q1, q2, q3⟩ := cn_1 (j + 96) w64 (x := x) h0 (by rw [two_64]; exact h1)
  refine ⟨r, c, ⟨w64, h0, g2, g1, g3, q1, q2, q3⟩, ?_, ?_⟩
  · have e1 : ints_reckoned.f (j + 94 + 5) (121 - 121) x 0 64 = (ints_counted.f (j + 98) 0 x 64).bind fun r => some (r, 0) := ka64_0 (j + 98) x 0
    have e2 : ints_counted.f (j + 98) 0 x 64 = _ := e
    rw [do_hi (j + 94) x 0 (by decide) (by decide), e1, e2]
    rfl
  · have e1 : ints_reckoned.f (j + 94 + 5) (122 - 121) x 0 64 = (ints_counted.f (j + 98) 1 x 64).bind fun r => some (r, 0) := ka64_1 (j + 98) x 0
    have e2 : ints_counted.f (j + 98) 1 x 64 = _ := f
    rw [do_hi (j + 94) x 0 (by decide) (by decide), e1, e2]
    rfl
theorem ones64 (j : Nat) {x : Int} (h0 : 0 ≤ x) (h1 : x < 18446744073709551616) : ints_Do.f (j + 100) 123 x 0 = some (((pc 64 x.toNat : Nat) : Int), 0) := by
  have e1 : ints_reckoned.f (j + 94 + 5) (123 - 121) x 0 64 = (ints_counted.f (j + 98) 2 x 64).bind fun r => some (r, 0) := ka64_2 (j + 98) x 0
  have e2 : ints_counted.f (j + 98) 2 x 64 = _ := cn_2 (j + 96) h0 h1
  rw [do_hi (j + 94) x 0 (by decide) (by decide), e1, e2]
  rfl
theorem sl64 (j : Nat) {x n : Int} (n0 : 0 ≤ n) : ints_Do.f (j + 100) 134 x n = some (ishl .u64 x (n % 64), 0) := by
  obtain ⟨b1, b2, b3, b4⟩ := by_ok (b := n) (n := 64) n0 (by decide) (by decide)
  have e1 : ints_reckoned.f (j + 94 + 5) (134 - 121) x n 64 = _ := k13 (j + 97) x n 64
  rw [do_hi (j + 94) x n (by decide) (by decide), e1, b2, b1, if_pos (by decide), if_pos b3]
  rfl
theorem sr64 (j : Nat) {x n : Int} (n0 : 0 ≤ n) : ints_Do.f (j + 100) 136 x n = some (ishr .u64 x (n % 64), 0) := by
  obtain ⟨b1, b2, b3, b4⟩ := by_ok (b := n) (n := 64) n0 (by decide) (by decide)
  have e1 : ints_reckoned.f (j + 94 + 5) (136 - 121) x n 64 = _ := k15 (j + 97) x n 64
  rw [do_hi (j + 94) x n (by decide) (by decide), e1, b2, b1, if_pos (by decide), if_pos b3]
  rfl
theorem round1 (j : Nat) {x n : Int} (x0 : 0 ≤ x) (x1 : x < 18446744073709551616) (n0 : 0 ≤ n) : law1_IntsCounts.b2 (j + 100) x n 1 = some (.inl 2) := by
  simp only [law1_IntsCounts.b2]
  rw [if_pos (by decide), if_pos (by decide)]
  refine bindO (o := (121 : Int)) rfl ?_
  refine segB_to (o := (64, x)) (by rw [if_pos rfl]) ?_
  dsimp only
  obtain ⟨r, c, h, e0, e1⟩ := counts64 j x0 x1
  have e2 := ones64 j x0 x1
  have s0 := Int.emod_nonneg n (b := 64) (by decide)
  have s1 := Int.emod_lt_of_pos n (b := 64) (by decide)
  have x2 : x < 2 ^ 64 := by rw [two_64]; exact x1
  have rr := rot_range (W := 64) (s := (n % 64).toNat) (by omega) x0 x2
  rw [two_64] at rr
  have e3 := rl64 (j + 92) x0 x1 n0
  have e4 := ones64 j rr.1 rr.2
  rw [pc_rot (W := 64) (by omega) x0 x2] at e4
  refine bindO e0 ?_
  dsimp only
  refine bindO e1 ?_
  dsimp only
  refine bindO e2 ?_
  dsimp only
  refine bindO e3 ?_
  dsimp only
  refine bindO e4 ?_
  dsimp only
  have e5 := sum_loop (j + 100) w64 x.toNat (by omega)
  rw [Int.toNat_of_nonneg x0] at e5
  refine bindO e5 ?_
  refine segB_to (o := ()) (by rw [if_pos rfl, if_pos rfl]; exact mid_ok h) ?_
  refine bindO (sl64 j n0) ?_
  dsimp only
  refine bindO (sr64 j n0) ?_
  dsimp only
  have hi : irem .u64 n 64 = n % 64 := irem_ok n0
  rw [if_pos (by decide), hi, if_pos s0]
  refine segB_to (o := ishl .u64 x (n % 64)) (by rw [if_neg (by decide)]) ?_
  rw [if_pos rfl, if_pos s0, if_pos rfl]
  rfl
theorem counts_ok (j : Nat) {a n : Int} (a0 : 0 ≤ a) (a1 : a < 18446744073709551616) (n0 : 0 ≤ n) : law1_IntsCounts.f (j + 101) a n = some true := by
  simp only [law1_IntsCounts.f]
  have hl : loopS (law1_IntsCounts.b2 (j + 100) a n) (j + 100) (0 : Int) = some (.inl ()) := by
    rw [loopS_next (round0 j a n0), loopS_next (round1 j a0 a1 n0)]
    exact loopS_last (by simp only [law1_IntsCounts.b2]; rw [if_neg (by decide)])
  rw [hl]
  simp only [altB]
  rw [known_ok]
  rfl
theorem IntsCounts {a n : Int} (ha : inR .u64 a) (hn : inR .u64 n) : ∃ k, law1_IntsCounts.f k a n = some true := by
  obtain ⟨a0, a1⟩ := ha
  obtain ⟨n0, n1⟩ := hn
  exact ⟨_, counts_ok 0 a0 (by omega) n0⟩
end Go.R2D
