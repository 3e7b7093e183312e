/- Ints: how many ones: OnesCount64. -/
import Derived.Test.YtoajmaedpaalkaaDoorGIBase
set_option linter.all false
namespace Go.R2D
open Go Go.Ev
set_option maxRecDepth 100000

/-- How many of the lowest bits are ones. -/
def pc : Nat → Nat → Nat
  | 0, _ => 0
  | w + 1, x => x % 2 + pc w (x / 2)
theorem pc_add : ∀ (a b x : Nat), pc (a + b) x = pc a x + pc b (x / 2 ^ a)
  | 0, b, x => by simp [pc]
  | a + 1, b, x => by
    rw [show a + 1 + b = (a + b) + 1 from by omega]
    simp only [pc]
    rw [pc_add a b (x / 2), Nat.div_div_eq_div_mul, show 2 * 2 ^ a = 2 ^ (a + 1) from by rw [Nat.pow_succ, Nat.mul_comm]]
    omega
theorem pc_mod : ∀ (w x : Nat), pc w (x % 2 ^ w) = pc w x
  | 0, x => rfl
  | w + 1, x => by
    simp only [pc]
    have h1 : x % 2 ^ (w + 1) % 2 = x % 2 := by rw [Nat.pow_succ, Nat.mul_comm]; exact Nat.mod_mul_right_mod x 2 (2 ^ w)
    have h2 : x % 2 ^ (w + 1) / 2 = x / 2 % 2 ^ w := by rw [Nat.pow_succ, Nat.mul_comm, Nat.mod_mul_right_div_self]
    rw [h1, h2, pc_mod w (x / 2)]
theorem pc_le : ∀ (w x : Nat), pc w x ≤ w
  | 0, x => Nat.le_refl _
  | w + 1, x => by
    simp only [pc]
    have := pc_le w (x / 2)
    omega
theorem and_split {a b r s : Nat} (hr : r < 256) (hs : s < 256) : (r + 256 * a) &&& (s + 256 * b) = (r &&& s) + 256 * (a &&& b) := by
  have h1 : ((r + 256 * a) &&& (s + 256 * b)) % 2 ^ 8 = r &&& s := by
    rw [Nat.and_mod_two_pow, show (r + 256 * a) % 2 ^ 8 = r from by omega, show (s + 256 * b) % 2 ^ 8 = s from by omega]
  have h2 : ((r + 256 * a) &&& (s + 256 * b)) / 2 ^ 8 = a &&& b := by
    rw [Nat.and_div_two_pow, show (r + 256 * a) / 2 ^ 8 = a from by omega, show (s + 256 * b) / 2 ^ 8 = b from by omega]
  omega
/-- A byte, so many times. -/
def mk8 (m : Nat) : Nat → Nat
  | 0 => 0
  | w + 1 => m + 256 * mk8 m w
def s1 (w x : Nat) : Nat := ((x / 2) &&& mk8 0x55 w) + (x &&& mk8 0x55 w)
def s2 (w x : Nat) : Nat := ((x / 4) &&& mk8 0x33 w) + (x &&& mk8 0x33 w)
def s3 (w x : Nat) : Nat := (x / 16 + x) &&& mk8 0x0f w
def f1 (l : Nat) : Nat := ((l / 2) &&& 0x55) + (l &&& 0x55)
def f2 (l : Nat) : Nat := ((l / 4) &&& 0x33) + (l &&& 0x33)
theorem and_55 : (List.range 128).all (fun l => (List.range 2).all fun b => ((l + 128 * b) &&& 0x55) == (l &&& 0x55)) = true := by kernel_rfl
theorem and_33 : (List.range 64).all (fun l => (List.range 4).all fun b => ((l + 64 * b) &&& 0x33) == (l &&& 0x33)) = true := by kernel_rfl
theorem and55 {l b : Nat} (hl : l < 128) (hb : b < 2) : (l + 128 * b) &&& 0x55 = l &&& 0x55 := by
  simpa using List.all_eq_true.1 (List.all_eq_true.1 and_55 l (by simpa using hl)) b (by simpa using hb)
theorem and33 {l b : Nat} (hl : l < 64) (hb : b < 4) : (l + 64 * b) &&& 0x33 = l &&& 0x33 := by
  simpa using List.all_eq_true.1 (List.all_eq_true.1 and_33 l (by simpa using hl)) b (by simpa using hb)
theorem s1_step (w l h : Nat) (hl : l < 256) : s1 (w + 1) (l + 256 * h) = f1 l + 256 * s1 w h := by
  unfold s1 f1
  simp only [mk8]
  have e : (l + 256 * h) / 2 = (l / 2 + 128 * (h % 2)) + 256 * (h / 2) := by omega
  rw [e, and_split (by omega) (by decide), and_split hl (by decide), and55 (by omega) (by omega)]
  omega
theorem s2_step (w y g : Nat) (hy : y < 256) : s2 (w + 1) (y + 256 * g) = f2 y + 256 * s2 w g := by
  unfold s2 f2
  simp only [mk8]
  have e : (y + 256 * g) / 4 = (y / 4 + 64 * (g % 4)) + 256 * (g / 4) := by omega
  rw [e, and_split (by omega) (by decide), and_split hy (by decide), and33 (by omega) (by omega)]
  omega
theorem s3_step (w z f : Nat) (hz : z ≤ 68) (hf : f % 16 ≤ 4) : s3 (w + 1) (z + 256 * f) = (z / 16 + z) % 16 + 256 * s3 w f := by
  unfold s3
  simp only [mk8]
  have e : (z + 256 * f) / 16 + (z + 256 * f) = (z / 16 + z + 16 * (f % 16)) + 256 * (f / 16 + f) := by omega
  rw [e, and_split (by omega) (by decide)]
  have e2 : (z / 16 + z + 16 * (f % 16)) &&& 15 = (z / 16 + z + 16 * (f % 16)) % 16 := Nat.and_two_pow_sub_one_eq_mod _ 4
  rw [e2]
  omega
theorem byte_all : (List.range 256).all (fun l => decide (f1 l ≤ 170) && (decide (f2 (f1 l) ≤ 68) && (decide (f2 (f1 l) % 16 ≤ 4) && ((f2 (f1 l) / 16 + f2 (f1 l)) % 16 == pc 8 l)))) = true := by kernel_rfl
theorem byte_ok {l : Nat} (hl : l < 256) : f1 l ≤ 170 ∧ f2 (f1 l) ≤ 68 ∧ f2 (f1 l) % 16 ≤ 4 ∧ (f2 (f1 l) / 16 + f2 (f1 l)) % 16 = pc 8 l := by
  simpa using List.all_eq_true.1 byte_all l (by simpa using hl)
theorem split256 (x : Nat) : x = x % 256 + 256 * (x / 256) := by omega
theorem low4 : ∀ (w x : Nat), s2 w (s1 w x) % 16 ≤ 4 ∧ s1 w x ≤ mk8 170 w ∧ s2 w (s1 w x) ≤ mk8 68 w
  | 0, x => by simp [s2, s1, mk8]
  | w + 1, x => by
    obtain ⟨b1, b2, b3, b4⟩ := byte_ok (l := x % 256) (by omega)
    obtain ⟨g1, g2, g3⟩ := low4 w (x / 256)
    rw [split256 x, s1_step w _ _ (by omega), s2_step w _ _ (by omega)]
    simp only [mk8]
    omega
theorem t_step (w l h : Nat) (hl : l < 256) : s3 (w + 1) (s2 (w + 1) (s1 (w + 1) (l + 256 * h))) = pc 8 l + 256 * s3 w (s2 w (s1 w h)) := by
  obtain ⟨b1, b2, b3, b4⟩ := byte_ok hl
  rw [s1_step w _ _ hl, s2_step w _ _ (by omega), s3_step w _ _ b2 (low4 w h).1, b4]
theorem t_all (x : Nat) (hx : x < 2 ^ 64) : ∃ c0 c1 c2 c3 c4 c5 c6 c7 : Nat, c0 ≤ 8 ∧ c1 ≤ 8 ∧ c2 ≤ 8 ∧ c3 ≤ 8 ∧ c4 ≤ 8 ∧ c5 ≤ 8 ∧ c6 ≤ 8 ∧ c7 ≤ 8 ∧
    s3 8 (s2 8 (s1 8 x)) = c0 + 256 * (c1 + 256 * (c2 + 256 * (c3 + 256 * (c4 + 256 * (c5 + 256 * (c6 + 256 * c7)))))) ∧ pc 64 x = c0 + c1 + c2 + c3 + c4 + c5 + c6 + c7 := by
  have step : ∀ (w y : Nat), s3 (w + 1) (s2 (w + 1) (s1 (w + 1) y)) = pc 8 y + 256 * s3 w (s2 w (s1 w (y / 256))) := by
    intro w y
    have := t_step w (y % 256) (y / 256) (by omega)
    rw [← split256 y] at this
    rw [this, ← pc_mod 8 y]
  have cut : ∀ (w y : Nat), pc (8 + w) y = pc 8 y + pc w (y / 256) := fun w y => pc_add 8 w y
  have z : ∀ y, s3 0 (s2 0 (s1 0 y)) = 0 := fun y => by simp [s3, mk8]
  refine ⟨_, _, _, _, _, _, _, _, pc_le 8 x, pc_le 8 (x / 256), pc_le 8 (x / 256 / 256), pc_le 8 (x / 256 / 256 / 256), pc_le 8 (x / 256 / 256 / 256 / 256), pc_le 8 (x / 256 / 256 / 256 / 256 / 256), pc_le 8 (x / 256 / 256 / 256 / 256 / 256 / 256), pc_le 8 (x / 256 / 256 / 256 / 256 / 256 / 256 / 256), ?_, ?_⟩
  · rw [step 7, step 6, step 5, step 4, step 3, step 2, step 1, step 0, z, Nat.mul_zero, Nat.add_zero]
  · rw [show (64 : Nat) = 8 + (8 + (8 + (8 + (8 + (8 + (8 + (8 + 0))))))) from rfl, cut, cut, cut, cut, cut, cut, cut, cut]
    simp only [pc, Nat.add_zero]
    omega
theorem iandN {a b : Nat} (ha : a < 18446744073709551616) (hb : b < 18446744073709551616) : iand .u64 (a : Int) (b : Int) = ((a &&& b : Nat) : Int) := by
  unfold iand
  have e1 : (BitVec.ofInt IntKind.u64.bits (a : Int)).toNat = a := by rw [show IntKind.u64.bits = 64 from rfl, bv64 (by omega) (by omega)]; rfl
  have e2 : (BitVec.ofInt IntKind.u64.bits (b : Int)).toNat = b := by rw [show IntKind.u64.bits = 64 from rfl, bv64 (by omega) (by omega)]; rfl
  rw [BitVec.toNat_and, e1, e2, wrapU]
  have : a &&& b ≤ a := Nat.and_le_left
  omega
theorem iaddN {a b : Nat} (h : a + b < 18446744073709551616) : iadd .u64 (a : Int) (b : Int) = ((a + b : Nat) : Int) := by
  unfold iadd
  rw [wrapU]; omega
theorem shrN (a : Nat) {s : Nat} (h : s ≤ 64) : ishr .u64 (a : Int) (s : Int) = ((a / 2 ^ s : Nat) : Int) := by
  rw [shr_u _ h]; push_cast; rfl
theorem m55 : (6148914691236517205 : Int) = ((mk8 0x55 8 : Nat) : Int) := by decide
theorem m33 : (3689348814741910323 : Int) = ((mk8 0x33 8 : Nat) : Int) := by decide
theorem m0f : (1085102592571150095 : Int) = ((mk8 0x0f 8 : Nat) : Int) := by decide
theorem sum_ok {t c0 c1 c2 c3 c4 c5 c6 c7 : Nat} (h0 : c0 ≤ 8) (h1 : c1 ≤ 8) (h2 : c2 ≤ 8) (h3 : c3 ≤ 8) (h4 : c4 ≤ 8) (h5 : c5 ≤ 8) (h6 : c6 ≤ 8) (h7 : c7 ≤ 8)
    (ht : t = c0 + 256 * (c1 + 256 * (c2 + 256 * (c3 + 256 * (c4 + 256 * (c5 + 256 * (c6 + 256 * c7))))))) : t < 2 ^ 60 ∧
    t + t / 2 ^ 8 = (c0 + c1) + 256 * ((c1 + c2) + 256 * ((c2 + c3) + 256 * ((c3 + c4) + 256 * ((c4 + c5) + 256 * ((c5 + c6) + 256 * ((c6 + c7) + 256 * c7)))))) := by omega
theorem sum_ok2 {u c0 c1 c2 c3 c4 c5 c6 c7 : Nat} (h0 : c0 ≤ 8) (h1 : c1 ≤ 8) (h2 : c2 ≤ 8) (h3 : c3 ≤ 8) (h4 : c4 ≤ 8) (h5 : c5 ≤ 8) (h6 : c6 ≤ 8) (h7 : c7 ≤ 8)
    (hu : u = (c0 + c1) + 256 * ((c1 + c2) + 256 * ((c2 + c3) + 256 * ((c3 + c4) + 256 * ((c4 + c5) + 256 * ((c5 + c6) + 256 * ((c6 + c7) + 256 * c7))))))) :
    u + u / 2 ^ 16 = (c0 + c1 + c2 + c3) + 256 * ((c1 + c2 + c3 + c4) + 256 * ((c2 + c3 + c4 + c5) + 256 * ((c3 + c4 + c5 + c6) + 256 * ((c4 + c5 + c6 + c7) + 256 * ((c5 + c6 + c7) + 256 * ((c6 + c7) + 256 * c7)))))) := by omega
theorem sum_ok3 {v c0 c1 c2 c3 c4 c5 c6 c7 : Nat} (h0 : c0 ≤ 8) (h1 : c1 ≤ 8) (h2 : c2 ≤ 8) (h3 : c3 ≤ 8) (h4 : c4 ≤ 8) (h5 : c5 ≤ 8) (h6 : c6 ≤ 8) (h7 : c7 ≤ 8)
    (hv : v = (c0 + c1 + c2 + c3) + 256 * ((c1 + c2 + c3 + c4) + 256 * ((c2 + c3 + c4 + c5) + 256 * ((c3 + c4 + c5 + c6) + 256 * ((c4 + c5 + c6 + c7) + 256 * ((c5 + c6 + c7) + 256 * ((c6 + c7) + 256 * c7))))))) :
    v < 2 ^ 62 ∧ (v + v / 2 ^ 32) % 128 = c0 + c1 + c2 + c3 + c4 + c5 + c6 + c7 := by
  have hA : (c0 + c1 + c2 + c3) + 256 * ((c1 + c2 + c3 + c4) + 256 * ((c2 + c3 + c4 + c5) + 256 * (c3 + c4 + c5 + c6))) < 4294967296 := by omega
  have hB : v / 2 ^ 32 = (c4 + c5 + c6 + c7) + 256 * ((c5 + c6 + c7) + 256 * ((c6 + c7) + 256 * c7)) := by
    have e : v = ((c0 + c1 + c2 + c3) + 256 * ((c1 + c2 + c3 + c4) + 256 * ((c2 + c3 + c4 + c5) + 256 * (c3 + c4 + c5 + c6)))) + 4294967296 * ((c4 + c5 + c6 + c7) + 256 * ((c5 + c6 + c7) + 256 * ((c6 + c7) + 256 * c7))) := by omega
    generalize (c0 + c1 + c2 + c3) + 256 * ((c1 + c2 + c3 + c4) + 256 * ((c2 + c3 + c4 + c5) + 256 * (c3 + c4 + c5 + c6))) = A at hA e
    generalize (c4 + c5 + c6 + c7) + 256 * ((c5 + c6 + c7) + 256 * ((c6 + c7) + 256 * c7)) = B at e
    omega
  refine ⟨by omega, ?_⟩
  rw [hB]
  omega
theorem s1_ok {x : Nat} (hx : x < 18446744073709551616) : iadd .u64 (iand .u64 (ishr .u64 (x : Int) 1) 6148914691236517205) (iand .u64 (x : Int) 6148914691236517205) = ((s1 8 x : Nat) : Int) := by
  obtain ⟨_, g2, _⟩ := low4 8 x
  have q1 : mk8 170 8 < 18446744073709551616 := by decide
  rw [show (1 : Int) = ((1 : Nat) : Int) from rfl, shrN _ (by decide), show (2 : Nat) ^ 1 = 2 from rfl, m55, iandN (by omega) (by decide), iandN hx (by decide)]
  exact iaddN (Nat.lt_of_le_of_lt g2 q1)
theorem s2_ok {x : Nat} : iadd .u64 (iand .u64 (ishr .u64 ((s1 8 x : Nat) : Int) 2) 3689348814741910323) (iand .u64 ((s1 8 x : Nat) : Int) 3689348814741910323) = ((s2 8 (s1 8 x) : Nat) : Int) := by
  obtain ⟨_, g2, g3⟩ := low4 8 x
  have q1 : mk8 170 8 < 18446744073709551616 := by decide
  have q2 : mk8 68 8 < 18446744073709551616 := by decide
  rw [show (2 : Int) = ((2 : Nat) : Int) from rfl, shrN _ (by decide), show (2 : Nat) ^ 2 = 4 from rfl, m33, iandN (by omega) (by decide), iandN (by omega) (by decide)]
  exact iaddN (Nat.lt_of_le_of_lt g3 q2)
theorem s3_ok {x : Nat} : iand .u64 (iadd .u64 (ishr .u64 ((s2 8 (s1 8 x) : Nat) : Int) 4) ((s2 8 (s1 8 x) : Nat) : Int)) 1085102592571150095 = ((s3 8 (s2 8 (s1 8 x)) : Nat) : Int) := by
  obtain ⟨_, g2, g3⟩ := low4 8 x
  have q2 : mk8 68 8 * 17 < 18446744073709551616 * 16 := by decide
  generalize s2 8 (s1 8 x) = z at g3
  rw [show (4 : Int) = ((4 : Nat) : Int) from rfl, shrN _ (by decide), show (2 : Nat) ^ 4 = 16 from rfl, m0f, iaddN (by omega), iandN (by omega) (by decide)]
  rfl
theorem ones_ok (k : Nat) {x : Nat} (hx : x < 18446744073709551616) : math_bits_OnesCount64.f (k + 1) (x : Int) = some ((pc 64 x : Nat) : Int) := by
  obtain ⟨c0, c1, c2, c3, c4, c5, c6, c7, h0, h1, h2, h3, h4, h5, h6, h7, ht, hp⟩ := t_all x hx
  simp only [math_bits_OnesCount64.f]
  rw [s1_ok hx, s2_ok, s3_ok]
  generalize s3 8 (s2 8 (s1 8 x)) = t at ht
  obtain ⟨t1, t2⟩ := sum_ok h0 h1 h2 h3 h4 h5 h6 h7 ht
  clear ht
  rw [show (8 : Int) = ((8 : Nat) : Int) from rfl, shrN t (by decide), iaddN (a := t) (b := t / 2 ^ 8) (by omega)]
  generalize t + t / 2 ^ 8 = u at t2
  have u2 := sum_ok2 h0 h1 h2 h3 h4 h5 h6 h7 t2
  have u1 : u < 2 ^ 62 := by omega
  clear t2
  rw [show (16 : Int) = ((16 : Nat) : Int) from rfl, shrN u (by decide), iaddN (a := u) (b := u / 2 ^ 16) (by omega)]
  generalize u + u / 2 ^ 16 = v at u2
  obtain ⟨v1, v2⟩ := sum_ok3 h0 h1 h2 h3 h4 h5 h6 h7 u2
  clear u2
  rw [show (32 : Int) = ((32 : Nat) : Int) from rfl, shrN v (by decide), iaddN (a := v) (b := v / 2 ^ 32) (by omega)]
  rw [icv64 (by omega) (by omega)]
  have := iand_mask (k := .i64) (n := ((v + v / 2 ^ 32 : Nat) : Int)) (m := 127) (j := 7) (by decide) (by decide)
  rw [this, hp, ← v2]
  rfl
end Go.R2D
