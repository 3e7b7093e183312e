/- IntsPairs: the law. -/
import Derived.Test.YtoajmaedpaalkaaDoorGIPairs
set_option linter.all false
namespace Go.R2D
open Go Go.Ev
set_option maxRecDepth 100000

theorem b14_ok {k : Nat} {e x y i q t m u p p2 z z2 : Int} (h1 : ints_Do.f k (iadd .i64 e i) x y = some (q, t)) (h2 : ints_Do.f k (iadd .i64 (iadd .i64 e i) 2) x y = some (m, u))
    (h3 : ints_Do.f k (iadd .i64 e 2) q y = some (p, p2)) (h4 : ints_Do.f k e p m = some (z, z2)) (g1 : t = 0 → u = 0 → z = x) (g2 : t = 2 ↔ y = 0) (g3 : u = 2 ↔ y = 0) (i0 : 0 ≤ i) (i1 : i ≤ 4) :
    law1_IntsPairs.b14 k e x y i = some (.inl (i + 1)) := by
  simp only [law1_IntsPairs.b14]
  rw [if_pos i1, h1, h2]
  simp only [Option.bind_some]
  rw [h3]
  simp only [Option.bind_some]
  rw [h4]
  simp only [Option.bind_some]
  have d1 : decide (t = 2) = decide (y = 0) := decide_eq_decide.2 g2
  have d2 : decide (u = 2) = decide (y = 0) := decide_eq_decide.2 g3
  refine segB_to (o := ()) ?_ ?_
  · simp only [d1, d2, beq_self_eq_true, Bool.not_true, Bool.false_eq_true, if_false]
    by_cases ht : t = 0
    · rw [if_pos ht]
      by_cases hu : u = 0
      · rw [if_pos hu, if_pos (g1 ht hu)]
      · rw [if_neg hu]
    · rw [if_neg ht]
  · rw [iadd64 (by omega) (by omega)]
theorem b14_end {k : Nat} {e x y : Int} : law1_IntsPairs.b14 k e x y 5 = some (.inr (.inl ())) := by
  simp only [law1_IntsPairs.b14]
  rw [if_neg (by omega)]
theorem inner_ok {k : Nat} {e x y : Int} (h3 : law1_IntsPairs.b14 (k + 3) e x y 3 = some (.inl 4)) (h4 : law1_IntsPairs.b14 (k + 3) e x y 4 = some (.inl 5)) : loopS (law1_IntsPairs.b14 (k + 3) e x y) (k + 3) (3 : Int) = some (.inl ()) := by
  rw [loopS_next h3, loopS_next h4]
  exact loopS_last b14_end
theorem two_32 : (2 : Int) ^ 32 = 4294967296 := rfl
theorem two_64 : (2 : Int) ^ 64 = 18446744073709551616 := rfl
/-- 32 bits. -/
theorem lo_ok (j : Nat) {x y : Int} (hx0 : 0 ≤ x) (hx1 : x < 4294967296) (hy0 : 0 ≤ y) (hy1 : y < 4294967296) : loopS (law1_IntsPairs.b14 (j + 20) 106 x y) (j + 20) (3 : Int) = some (.inl ()) := by
  have ex : x % 4294967296 = x := Int.emod_eq_of_lt hx0 hx1
  have ey : y % 4294967296 = y := Int.emod_eq_of_lt hy0 hy1
  obtain ⟨f1, f2, f3, f4⟩ := quoS_iff (n := 32) (a := x) (b := y)
  refine inner_ok (k := j + 17) ?_ ?_
  · have h1 := ds32 (j + 13) x y
    have h2 := rs32 (j + 13) x y
    rw [ex, ey] at h1 h2
    refine b14_ok (i := 3) h1 h2 (mul32 (j + 14) _ _) (add32 (j + 14) _ _) (fun t u => ?_) f1 f2 (by decide) (by decide)
    have := signed_back (n := 32) (by decide) (by decide) (x := x) (y := y) hx0 (by rw [two_32]; exact hx1) ((quoS 32 x y).1 % 4294967296) ((remS 32 x y).1 % 4294967296) (by rw [two_32, Int.emod_emod]) (by rw [two_32, Int.emod_emod]) t u
    rw [two_32] at this
    exact this
  · have h1 := du32 (j + 13) x y
    have h2 := ru32 (j + 13) x y
    rw [ex, ey] at h1 h2
    refine b14_ok (i := 4) h1 h2 (mul32 (j + 14) _ _) (add32 (j + 14) _ _) (fun t u => ?_) f3 f4 (by decide) (by decide)
    exact unsigned_back hx0 hx1 (by decide) hy0 _ _ (by rw [Int.emod_emod]) (by rw [Int.emod_emod]) t
/-- 64 bits. -/
theorem hi_ok (j : Nat) {x y : Int} (hx0 : 0 ≤ x) (hx1 : x < 18446744073709551616) (hy0 : 0 ≤ y) (hy1 : y < 18446744073709551616) : loopS (law1_IntsPairs.b14 (j + 20) 124 x y) (j + 20) (3 : Int) = some (.inl ()) := by
  obtain ⟨f1, f2, f3, f4⟩ := quoS_iff (n := 64) (a := x) (b := y)
  refine inner_ok (k := j + 17) ?_ ?_
  · refine b14_ok (i := 3) (ds64 (j + 13) x hy0 hy1) (rs64 (j + 13) x hy0 hy1) (mul64 (j + 14) _ _) (add64 (j + 14) _ _) (fun t u => ?_) f1 f2 (by decide) (by decide)
    have := signed_back (n := 64) (by decide) (by decide) (x := x) (y := y) hx0 (by rw [two_64]; exact hx1) (quoS 64 x y).1 (remS 64 x y).1 rfl rfl t u
    rw [two_64] at this
    exact this
  · refine b14_ok (i := 4) (du64 (j + 13) x y) (ru64 (j + 13) x y) (mul64 (j + 14) _ _) (add64 (j + 14) _ _) (fun t u => ?_) f3 f4 (by decide) (by decide)
    exact unsigned_back hx0 hx1 (by decide) hy0 _ _ rfl rfl t
theorem bindO {α β : Type} {x : Option α} {f : α → Option β} {o : α} {r : Option β} (h : x = some o) (h2 : f o = r) : x.bind f = r := by rw [h]; exact h2
theorem outer0 (j : Nat) {a b : Int} : law1_IntsPairs.b2 (j + 20) a b 0 = some (.inl 1) := by
  obtain ⟨x0, x1⟩ := low_range a
  obtain ⟨y0, y1⟩ := low_range b
  simp only [law1_IntsPairs.b2]
  rw [if_pos (by decide), if_pos (by decide)]
  refine bindO (o := (106 : Int)) rfl ?_
  refine segB_to (o := (a % 4294967296, b % 4294967296)) (by rw [if_pos rfl, and_low, and_low]) ?_
  dsimp only
  have e1 : (a % 4294967296) % 4294967296 = a % 4294967296 := Int.emod_emod _ _
  have e2 : (b % 4294967296) % 4294967296 = b % 4294967296 := Int.emod_emod _ _
  generalize a % 4294967296 = x at x0 x1 e1
  generalize b % 4294967296 = y at y0 y1 e2
  have s0 := Int.emod_nonneg y (b := 32) (by decide)
  have s1 := Int.emod_lt_of_pos y (b := 32) (by decide)
  have rr := rot_range (W := 32) (s := (y % 32).toNat) (by omega) x0 x1
  have rt : rot 32 ((32 - y % 32) % 32).toNat (rot 32 (y % 32).toNat x) = x := rot_there (W := 32) (s := y % 32) x0 x1 s0 s1
  have h1 := add32 (j + 14) x y
  have h2 := sub32 (j + 14) ((x + y) % 4294967296) y
  have h3 := rl32 (j + 12) x y
  have h4 := rr32 (j + 12) (rot 32 (y % 32).toNat x) y
  rw [e1, e2] at h3
  rw [two_32] at rr x1
  rw [e2, Int.emod_eq_of_lt rr.1 rr.2, rt] at h4
  rw [h1]
  simp only [Option.bind_some]
  rw [show iadd .i64 106 1 = 107 from rfl, h2]
  simp only [Option.bind_some]
  rw [show iadd .i64 106 13 = 119 from rfl, h3]
  simp only [Option.bind_some]
  rw [show iadd .i64 106 14 = 120 from rfl, h4]
  simp only [Option.bind_some]
  have hs : ((x + y) % 4294967296 - y) % 4294967296 = x := by omega
  rw [if_pos hs, if_pos trivial, lo_ok j x0 x1 y0 (by rw [two_32] at y1; exact y1)]
  rfl
theorem outer1 (j : Nat) {x y : Int} (x0 : 0 ≤ x) (x1 : x < 18446744073709551616) (y0 : 0 ≤ y) (y1 : y < 18446744073709551616) : law1_IntsPairs.b2 (j + 20) x y 1 = some (.inl 2) := by
  simp only [law1_IntsPairs.b2]
  rw [if_pos (by decide), if_pos (by decide)]
  rw [show ([(106 : Int), (124 : Int)] : List Int)[(1 : Int).toNat]? = some 124 from rfl]
  simp only [Option.bind_some]
  refine segB_to (o := (x, y)) (by rw [if_neg (by decide)]) ?_
  simp only
  have s0 := Int.emod_nonneg y (b := 64) (by decide)
  have s1 := Int.emod_lt_of_pos y (b := 64) (by decide)
  have rr := rot_range (W := 64) (s := (y % 64).toNat) (by omega) x0 x1
  have rt : rot 64 ((64 - y % 64) % 64).toNat (rot 64 (y % 64).toNat x) = x := rot_there (W := 64) (s := y % 64) x0 x1 s0 s1
  have h1 := add64 (j + 14) x y
  have h2 := sub64 (j + 14) ((x + y) % 18446744073709551616) y
  have h3 := rl64 (j + 12) x0 x1 y0
  have h4 := rr64 (j + 12) rr.1 rr.2 y0
  rw [rt] at h4
  rw [h1]
  simp only [Option.bind_some]
  rw [show iadd .i64 124 1 = 125 from rfl, h2]
  simp only [Option.bind_some]
  rw [show iadd .i64 124 13 = 137 from rfl, h3]
  simp only [Option.bind_some]
  rw [show iadd .i64 124 14 = 138 from rfl, h4]
  simp only [Option.bind_some]
  have hs : ((x + y) % 18446744073709551616 - y) % 18446744073709551616 = x := by omega
  rw [if_pos hs, if_pos trivial, hi_ok j x0 x1 y0 y1]
  rfl
theorem do_83 (k : Nat) (a b : Int) : ints_Do.f (k + 7) 83 a b = some (if sgn 64 a < sgn 64 b then 1 else 0, 0) := by
  have : ints_compared.f (k + 6) 3 a b 64 = (ints_Sign.f (k + 5) a 64).bind fun r => (ints_Sign.f (k + 5) b 64).bind fun q => some (decide (r < q)) := by kernel_rfl
  rw [do_cmp_hi (k + 1) a b (by decide) (by decide), show (83 : Int) - 80 = 3 from rfl, this, sign_ok, sign_ok, cl64]
  simp
theorem do_89 (k : Nat) (a b : Int) : ints_Do.f (k + 7) 89 a b = some (if sgn 64 a ≥ sgn 64 b then 1 else 0, 0) := by
  have : ints_compared.f (k + 6) 9 a b 64 = (ints_Sign.f (k + 5) a 64).bind fun r => (ints_Sign.f (k + 5) b 64).bind fun q => some (decide (r ≥ q)) := by kernel_rfl
  rw [do_cmp_hi (k + 1) a b (by decide) (by decide), show (89 : Int) - 80 = 9 from rfl, this, sign_ok, sign_ok, cl64]
  simp
theorem do_90 (k : Nat) (a b : Int) : ints_Do.f (k + 7) 90 a b = some (if a ≥ b then 1 else 0, 0) := by
  have : ints_compared.f (k + 6) 10 a b 64 = (ints_Sign.f (k + 5) a 64).bind fun _ => (ints_Sign.f (k + 5) b 64).bind fun _ => some (decide (a ≥ b)) := by kernel_rfl
  rw [do_cmp_hi (k + 1) a b (by decide) (by decide), show (90 : Int) - 80 = 10 from rfl, this, sign_ok, sign_ok, cl64]
  simp
theorem do_84 (k : Nat) (a b : Int) : ints_Do.f (k + 7) 84 a b = some (if a < b then 1 else 0, 0) := by
  have : ints_compared.f (k + 6) 4 a b 64 = (ints_Sign.f (k + 5) a 64).bind fun _ => (ints_Sign.f (k + 5) b 64).bind fun _ => some (decide (a < b)) := by kernel_rfl
  rw [do_cmp_hi (k + 1) a b (by decide) (by decide), show (84 : Int) - 80 = 4 from rfl, this, sign_ok, sign_ok, cl64]
  simp
theorem one_of {p q : Prop} [Decidable p] [Decidable q] (h : q ↔ ¬ p) : iadd .u64 (if p then 1 else 0) (if q then 1 else 0) = 1 := by
  by_cases hp : p
  · rw [if_pos hp, if_neg (by rw [h]; exact fun h => h hp)]; rfl
  · rw [if_neg hp, if_pos (h.2 hp)]; rfl
theorem pairs_all (j : Nat) {a b : Int} (a0 : 0 ≤ a) (a1 : a < 18446744073709551616) (b0 : 0 ≤ b) (b1 : b < 18446744073709551616) : law1_IntsPairs.f (j + 21) a b = some true := by
  simp only [law1_IntsPairs.f]
  have hl : loopS (law1_IntsPairs.b2 (j + 20) a b) (j + 20) (0 : Int) = some (.inl ()) := by
    rw [loopS_next (outer0 j), loopS_next (outer1 j a0 a1 b0 b1)]
    exact loopS_last (by simp only [law1_IntsPairs.b2]; rw [if_neg (by decide)])
  rw [hl]
  simp only [altB]
  rw [do_83 (j + 13), do_89 (j + 13), do_90 (j + 13), do_84 (j + 13)]
  simp only [Option.bind_some]
  rw [if_pos (one_of (by omega)), if_pos (one_of (by omega)), known_ok]
  rfl
theorem IntsPairs {a b : Int} (ha : inR .u64 a) (hb : inR .u64 b) : ∃ k, law1_IntsPairs.f k a b = some true := by
  obtain ⟨a0, a1⟩ := ha
  obtain ⟨b0, b1⟩ := hb
  exact ⟨_, pairs_all 0 a0 (by omega) b0 (by omega)⟩
end Go.R2D
