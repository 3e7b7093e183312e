/- Ints: zeros ahead, zeros behind, ones. -/
import Derived.Test.YtoajmaedpaalkaaDoorGIPop
import Derived.Test.YtoajmaedpaalkaaDoorGIPairs2
set_option linter.all false
namespace Go.R2D
open Go Go.Ev
set_option maxRecDepth 100000

/-! Len64 -/
def tabB (n : Nat) : Option Int → Bool
  | some l => decide (0 ≤ l) && (decide (l ≤ 8) && (decide (n < 2 ^ l.toNat) && (decide (l = 0) || decide (2 ^ (l.toNat - 1) ≤ n))))
  | none => false
theorem tab_all : (List.range 256).all (fun n => tabB n (strAt (⟨#[0, 1, 2, 2, 3, 3, 3, 3, 4, 4, 4, 4, 4, 4, 4, 4, 5, 5, 5, 5, 5, 5, 5, 5, 5, 5, 5, 5, 5, 5, 5, 5, 6, 6, 6, 6, 6, 6, 6, 6, 6, 6, 6, 6, 6, 6, 6, 6, 6, 6, 6, 6, 6, 6, 6, 6, 6, 6, 6, 6, 6, 6, 6, 6, 7, 7, 7, 7, 7, 7, 7, 7, 7, 7, 7, 7, 7, 7, 7, 7, 7, 7, 7, 7, 7, 7, 7, 7, 7, 7, 7, 7, 7, 7, 7, 7, 7, 7, 7, 7, 7, 7, 7, 7, 7, 7, 7, 7, 7, 7, 7, 7, 7, 7, 7, 7, 7, 7, 7, 7, 7, 7, 7, 7, 7, 7, 7, 7, 8, 8, 8, 8, 8, 8, 8, 8, 8, 8, 8, 8, 8, 8, 8, 8, 8, 8, 8, 8, 8, 8, 8, 8, 8, 8, 8, 8, 8, 8, 8, 8, 8, 8, 8, 8, 8, 8, 8, 8, 8, 8, 8, 8, 8, 8, 8, 8, 8, 8, 8, 8, 8, 8, 8, 8, 8, 8, 8, 8, 8, 8, 8, 8, 8, 8, 8, 8, 8, 8, 8, 8, 8, 8, 8, 8, 8, 8, 8, 8, 8, 8, 8, 8, 8, 8, 8, 8, 8, 8, 8, 8, 8, 8, 8, 8, 8, 8, 8, 8, 8, 8, 8, 8, 8, 8, 8, 8, 8, 8, 8, 8, 8, 8, 8, 8, 8, 8, 8, 8, 8, 8, 8, 8, 8, 8, 8, 8]⟩ : ByteArray) (n : Int))) = true := by kernel_rfl
theorem tab_ok {y : Int} (h0 : 0 ≤ y) (h1 : y < 256) : ∃ l : Nat, strAt (⟨#[0, 1, 2, 2, 3, 3, 3, 3, 4, 4, 4, 4, 4, 4, 4, 4, 5, 5, 5, 5, 5, 5, 5, 5, 5, 5, 5, 5, 5, 5, 5, 5, 6, 6, 6, 6, 6, 6, 6, 6, 6, 6, 6, 6, 6, 6, 6, 6, 6, 6, 6, 6, 6, 6, 6, 6, 6, 6, 6, 6, 6, 6, 6, 6, 7, 7, 7, 7, 7, 7, 7, 7, 7, 7, 7, 7, 7, 7, 7, 7, 7, 7, 7, 7, 7, 7, 7, 7, 7, 7, 7, 7, 7, 7, 7, 7, 7, 7, 7, 7, 7, 7, 7, 7, 7, 7, 7, 7, 7, 7, 7, 7, 7, 7, 7, 7, 7, 7, 7, 7, 7, 7, 7, 7, 7, 7, 7, 7, 8, 8, 8, 8, 8, 8, 8, 8, 8, 8, 8, 8, 8, 8, 8, 8, 8, 8, 8, 8, 8, 8, 8, 8, 8, 8, 8, 8, 8, 8, 8, 8, 8, 8, 8, 8, 8, 8, 8, 8, 8, 8, 8, 8, 8, 8, 8, 8, 8, 8, 8, 8, 8, 8, 8, 8, 8, 8, 8, 8, 8, 8, 8, 8, 8, 8, 8, 8, 8, 8, 8, 8, 8, 8, 8, 8, 8, 8, 8, 8, 8, 8, 8, 8, 8, 8, 8, 8, 8, 8, 8, 8, 8, 8, 8, 8, 8, 8, 8, 8, 8, 8, 8, 8, 8, 8, 8, 8, 8, 8, 8, 8, 8, 8, 8, 8, 8, 8, 8, 8, 8, 8, 8, 8, 8, 8, 8, 8]⟩ : ByteArray) y = some (l : Int) ∧ l ≤ 8 ∧ y < 2 ^ l ∧ (0 < l → 2 ^ (l - 1) ≤ y) := by
  have h := List.all_eq_true.1 tab_all y.toNat (by simp; omega)
  rw [Int.toNat_of_nonneg h0] at h
  generalize strAt _ y = z at h ⊢
  cases z with
  | none => cases h
  | some l =>
    simp only [tabB, Bool.and_eq_true, Bool.or_eq_true, decide_eq_true_eq] at h
    obtain ⟨g1, g2, g3, g4⟩ := h
    have e : ((y.toNat : Nat) : Int) < ((2 ^ l.toNat : Nat) : Int) := by exact_mod_cast g3
    refine ⟨l.toNat, by rw [Int.toNat_of_nonneg g1], by omega, by push_cast at e; omega, fun hl => ?_⟩
    rcases g4 with g4 | g4
    · omega
    · have e2 : ((2 ^ (l.toNat - 1) : Nat) : Int) ≤ ((y.toNat : Nat) : Int) := by exact_mod_cast g4
      push_cast at e2
      omega
/-- Where the halving stands. -/
structure At (X x : Int) (n b : Nat) : Prop where
  e : x = X / 2 ^ n
  p : n = 0 ∨ 1 ≤ x
  l : x < 2 ^ b
  z : 0 ≤ x
theorem At.half {X x : Int} {n b s : Nat} (h : At X x n b) (hs : s ≤ b) (hx : x ≥ 2 ^ s) : At X (x / 2 ^ s) (n + s) (b - s) where
  e := by rw [h.e, Int.ediv_ediv_of_nonneg (Int.le_of_lt (pow_pos n)), ← Int.pow_add]
  p := .inr ((Int.le_ediv_iff_mul_le (pow_pos s)).2 (by omega))
  l := (Int.ediv_lt_iff_lt_mul (pow_pos s)).2 (by rw [← Int.pow_add, show b - s + s = b from by omega]; exact h.l)
  z := Int.ediv_nonneg h.z (Int.le_of_lt (pow_pos s))
theorem len_ok (k : Nat) {X : Int} (h0 : 0 ≤ X) (h1 : X < 18446744073709551616) : ∃ r : Nat, math_bits_Len64.f (k + 1) X = some (r : Int) ∧ r ≤ 64 ∧ X < 2 ^ r ∧ (0 < r → 2 ^ (r - 1) ≤ X) := by
  have a0 : At X X 0 64 := ⟨by simp, .inl rfl, by rw [two_64]; exact h1, h0⟩
  have st1 : ∃ (x : Int) (n : Nat), (if X ≥ 4294967296 then (some (.inl ((ishr .u64 X 32), (32 : Int)))) else (some (.inl (X, (0 : Int)))) : Option ((Int × Int) ⊕ Int)) = some (.inl (x, (n : Int))) ∧ n ≤ 32 ∧ At X x n 32 := by
    by_cases h : X ≥ 4294967296
    · rw [if_pos h, show (32 : Int) = ((32 : Nat) : Int) from rfl, shr_u _ (by omega)]
      exact ⟨_, 32, rfl, by omega, a0.half (s := 32) (by omega) (by rw [two_32]; omega)⟩
    · rw [if_neg h]
      exact ⟨X, 0, rfl, by omega, a0.e, a0.p, by rw [two_32]; omega, h0⟩
  obtain ⟨x1, n1, e1, m1, a1⟩ := st1
  have st2 : ∃ (x : Int) (n : Nat), (if x1 ≥ 65536 then (some (.inl ((ishr .u64 x1 16), (iadd .i64 (n1 : Int) 16)))) else (some (.inl (x1, (n1 : Int)))) : Option ((Int × Int) ⊕ Int)) = some (.inl (x, (n : Int))) ∧ n ≤ 48 ∧ At X x n 16 := by
    by_cases h : x1 ≥ 65536
    · rw [if_pos h, show (16 : Int) = ((16 : Nat) : Int) from rfl, shr_u _ (by omega), iadd64 (by omega) (by omega)]
      exact ⟨_, n1 + 16, by rw [show (n1 : Int) + ((16 : Nat) : Int) = ((n1 + 16 : Nat) : Int) from by omega], by omega, a1.half (s := 16) (by omega) h⟩
    · rw [if_neg h]
      exact ⟨x1, n1, rfl, by omega, a1.e, a1.p, by rw [show (2 : Int) ^ 16 = 65536 from rfl]; omega, a1.z⟩
  obtain ⟨x2, n2, e2, m2, a2⟩ := st2
  have st3 : ∃ (x : Int) (n : Nat), (if x2 ≥ 256 then (some (.inl ((ishr .u64 x2 8), (iadd .i64 (n2 : Int) 8)))) else (some (.inl (x2, (n2 : Int)))) : Option ((Int × Int) ⊕ Int)) = some (.inl (x, (n : Int))) ∧ n ≤ 56 ∧ At X x n 8 := by
    by_cases h : x2 ≥ 256
    · rw [if_pos h, show (8 : Int) = ((8 : Nat) : Int) from rfl, shr_u _ (by omega), iadd64 (by omega) (by omega)]
      exact ⟨_, n2 + 8, by rw [show (n2 : Int) + ((8 : Nat) : Int) = ((n2 + 8 : Nat) : Int) from by omega], by omega, a2.half (s := 8) (by omega) h⟩
    · rw [if_neg h]
      exact ⟨x2, n2, rfl, by omega, a2.e, a2.p, by rw [show (2 : Int) ^ 8 = 256 from rfl]; omega, a2.z⟩
  obtain ⟨x3, n3, e3, m3, a3⟩ := st3
  have l3 : x3 < 256 := a3.l
  obtain ⟨l, t1, t2, t3, t4⟩ := tab_ok a3.z l3
  have pn := pow_pos n3
  refine ⟨n3 + l, ?_, by omega, ?_, fun hr => ?_⟩
  · simp only [math_bits_Len64.f]
    refine segB_to e1 ?_
    refine segB_to e2 ?_
    refine segB_to e3 ?_
    dsimp only
    rw [icvu8 a3.z (by omega), t1]
    simp only [Option.bind_some]
    rw [icv64 (by omega) (by omega), iadd64 (by omega) (by omega)]
    congr 1
  · have := (Int.ediv_lt_iff_lt_mul pn).1 (by rw [← a3.e]; exact t3)
    rw [← Int.pow_add, Nat.add_comm] at this
    exact this
  · have hl : 0 < l := by
      rcases Nat.eq_zero_or_pos l with hl | hl
      · exfalso
        subst hl
        have : x3 < 1 := by simpa using t3
        rcases a3.p with h | h <;> omega
      · exact hl
    have := (Int.le_ediv_iff_mul_le pn).1 (by rw [← a3.e]; exact t4 hl)
    rw [← Int.pow_add, show l - 1 + n3 = n3 + l - 1 from by omega] at this
    exact this
/-! what is counted -/
structure Width (W : Nat) : Prop where
  p : 0 < W
  m : W ≤ 64
theorem cn_0 (k : Nat) {W : Nat} (hW : Width W) {x : Int} (h0 : 0 ≤ x) (h1 : x < 2 ^ W) : ∃ r : Nat, ints_counted.f (k + 3) 0 x (W : Int) = some ((W - r : Nat) : Int) ∧ r ≤ W ∧ x < 2 ^ r ∧ (0 < r → 2 ^ (r - 1) ≤ x) := by
  have hb : (2 : Int) ^ W ≤ 2 ^ 64 := pow2_le hW.m
  rw [two_64] at hb
  obtain ⟨r, e, g1, g2, g3⟩ := len_ok k h0 (by omega)
  have hr : r ≤ W := by
    rcases Nat.lt_or_ge W r with h | h
    · have := g3 (by omega)
      have q : (2 : Int) ^ W ≤ 2 ^ (r - 1) := pow2_le (by omega)
      omega
    · exact h
  refine ⟨r, ?_, hr, g2, g3⟩
  have hp := hW.p
  have hm := hW.m
  have : ints_counted.f (k + 3) 0 x (W : Int) = (math_bits_LeadingZeros64.f (k + 2) x).bind fun r13 => some (icv .u64 (isub .i64 r13 (isub .i64 64 (W : Int)))) := by kernel_rfl
  rw [this]
  simp only [math_bits_LeadingZeros64.f]
  rw [e]
  simp only [Option.bind_some]
  rw [isub64 (a := 64) (b := (r : Int)) (by omega) (by omega), isub64 (a := 64) (b := (W : Int)) (by omega) (by omega), isub64 (by omega) (by omega), icvu64 (by omega) (by omega)]
  congr 1
  omega
theorem cn_1 (k : Nat) {W : Nat} (hW : Width W) {x : Int} (h0 : 0 ≤ x) (h1 : x < 2 ^ W) : ∃ c : Nat, ints_counted.f (k + 2) 1 x (W : Int) = some (c : Int) ∧ c ≤ W ∧ (x = 0 → c = W) ∧ (x ≠ 0 → c < W ∧ ∃ m : Int, 0 ≤ m ∧ x = 2 ^ c * (2 * m + 1)) := by
  have hb : (2 : Int) ^ W ≤ 2 ^ 64 := pow2_le hW.m
  rw [two_64] at hb
  have hp := hW.p
  have hm := hW.m
  have this : ints_counted.f (k + 2) 1 x (W : Int) = (tzO x (k + 1)).bind fun _ => some (icv .u64 (imin (ctzI x) (W : Int))) := by kernel_rfl
  rw [this]
  simp only [tzO]
  rw [if_pos ⟨h0, by omega⟩]
  simp only [Option.bind_some]
  by_cases hx : x = 0
  · subst hx
    refine ⟨W, ?_, Nat.le_refl _, fun _ => rfl, fun h => absurd rfl h⟩
    have : ctzI 0 = 64 := by decide
    rw [this]
    congr 1
    unfold imin
    split
    · exact icvu64 (by omega) (by omega)
    · rw [show (64 : Int) = (W : Int) from by omega]; exact icvu64 (by omega) (by omega)
  · have hn : x.toNat ≠ 0 := by omega
    obtain ⟨m, e, hc⟩ := Lib.ctzFrom_spec 64 x.toNat (by omega) (by omega)
    have ec : ctzI x = ((Lib.ctzFrom 64 x.toNat : Nat) : Int) := by unfold ctzI Lib.ctz; rw [if_neg hn]
    rw [ec]
    generalize Lib.ctzFrom 64 x.toNat = c at e hc
    have ex : x = 2 ^ c * (2 * (m : Int) + 1) := by
      have : ((x.toNat : Nat) : Int) = ((2 ^ c * (2 * m + 1) : Nat) : Int) := by rw [← e]
      push_cast at this
      omega
    have pc' := pow_pos c
    have hcW : c < W := by
      rcases Nat.lt_or_ge c W with h | h
      · exact h
      · exfalso
        have q : (2 : Int) ^ W ≤ 2 ^ c := pow2_le h
        have : (2 : Int) ^ c * 1 ≤ 2 ^ c * (2 * (m : Int) + 1) := Int.mul_le_mul_of_nonneg_left (by omega) (Int.le_of_lt pc')
        omega
    refine ⟨c, ?_, by omega, fun h => absurd h hx, fun _ => ⟨hcW, m, by omega, ex⟩⟩
    unfold imin
    rw [if_neg (by omega), icvu64 (by omega) (by omega)]
theorem cn_2 (k : Nat) {n x : Int} (h0 : 0 ≤ x) (h1 : x < 18446744073709551616) : ints_counted.f (k + 2) 2 x n = some ((pc 64 x.toNat : Nat) : Int) := by
  have this : ints_counted.f (k + 2) 2 x n = (math_bits_OnesCount64.f (k + 1) x).bind fun r => some (icv .u64 r) := by kernel_rfl
  have o := ones_ok k (x := x.toNat) (by omega)
  rw [Int.toNat_of_nonneg h0] at o
  have := pc_le 64 x.toNat
  rw [‹ints_counted.f (k + 2) 2 x n = _›, o]
  simp only [Option.bind_some]
  rw [icvu64 (by omega) (by omega)]
end Go.R2D
