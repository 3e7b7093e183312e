/- leb.U, leb.S: what they write. -/
import Derived.Test.YtdghpmnhlhhcnaaG1
import Derived.Test.YtdghpmnhlhhcnaaEvInt
set_option linter.all false
namespace Go.R1
open Go.Ev

/-! U -/
def runU : Nat → Int → List Int → Int × List Int
  | 0, n, l => (n, l)
  | f + 1, n, l => if n > 127 then runU f (n / 128) (l ++ [n % 128 + 128]) else (n, l)
def encU (n : Int) : List Int := (runU 10 n []).2 ++ [(runU 10 n []).1]
theorem room_small {n b : Nat} (h : n * b ≤ 140737488355328) (hn : n ≤ 140737488355328) : roomP n b := ⟨h, hn⟩
theorem u_step {n : Int} (h0 : 0 ≤ n) (h1 : n < 18446744073709551616) : ior .u8 (icv .u8 (iand .u64 n 127)) 128 = n % 128 + 128 ∧ ishr .u64 n 7 = n / 128 := by
  have e : iand .u64 n 127 = n % 128 := iand_mask (j := 7) (by decide) (by decide)
  refine ⟨?_, ishr_ok (k := .u64) (j := 7) (by decide)⟩
  rw [e, icvu8 (by omega) (by omega), ior128 (by omega) (by omega)]
theorem u_loop (k : Nat) : ∀ (f : Nat) (n : Int) (l : List Int) (m : Nat), 0 ≤ n → n < 18446744073709551616 → n < 128 ^ (f + 1) → l.length + f ≤ 1000 → f + 1 ≤ m → loopS (leb_U.b2 k) m (n, l) = some (runU f n l)
  | f, n, l, 0, _, _, _, _, h => by omega
  | 0, n, l, m + 1, h0, h1, h2, _, _ => by
    have h : ¬ n > 127 := by simp at h2; omega
    rw [loopS_last (o := (n, l)) (by simp only [leb_U.b2]; rw [if_neg h])]
    rfl
  | f + 1, n, l, m + 1, h0, h1, h2, h3, h4 => by
    by_cases hn : n > 127
    · have e : runU (f + 1) n l = runU f (n / 128) (l ++ [n % 128 + 128]) := by simp [runU, hn]
      obtain ⟨e1, e2⟩ := u_step h0 h1
      rw [e, loopS_next (v' := (n / 128, l ++ [n % 128 + 128])) (by simp only [leb_U.b2]; rw [if_pos hn, if_pos (room_small (by omega) (by omega)), e1, e2])]
      exact u_loop k f (n / 128) _ m (by omega) (by omega) (by rw [Int.pow_succ] at h2; omega) (by simp; omega) (by omega)
    · have e : runU (f + 1) n l = (n, l) := by simp [runU, hn]
      rw [e, loopS_last (by simp only [leb_U.b2]; rw [if_neg hn])]
theorem runU_low : ∀ (f : Nat) (n : Int) (l : List Int), 0 ≤ n → n < 128 ^ (f + 1) → 0 ≤ (runU f n l).1 ∧ (runU f n l).1 ≤ 127 ∧ (runU f n l).2.length ≤ l.length + f
  | 0, n, l, h0, h1 => by simp [runU]; simp at h1; omega
  | f + 1, n, l, h0, h1 => by
    by_cases hn : n > 127
    · have e : runU (f + 1) n l = runU f (n / 128) (l ++ [n % 128 + 128]) := by simp [runU, hn]
      rw [e]
      have := runU_low f (n / 128) (l ++ [n % 128 + 128]) (by omega) (by rw [Int.pow_succ] at h1; omega)
      simp at this
      omega
    · have e : runU (f + 1) n l = (n, l) := by simp [runU, hn]
      rw [e]; simp; omega
theorem u_ok {k : Nat} (hk : 20 ≤ k) {n : Int} (h0 : 0 ≤ n) (h1 : n < 18446744073709551616) : leb_U.f k n = some (encU n) := by
  obtain ⟨k, rfl⟩ : ∃ j, k = j + 1 := ⟨k - 1, by omega⟩
  obtain ⟨g1, g2, g3⟩ := runU_low 10 n [] h0 (by omega)
  simp only [leb_U.f]
  rw [u_loop k 10 n [] k h0 h1 (by omega) (by simp) (by omega)]
  simp only [Option.bind_some]
  rw [if_pos (room_small (by simp at g3; omega) (by simp at g3; omega)), icvu8 g1 (by omega)]
  rfl
/-! S -/
def runS : Nat → Int → List Int → Int × List Int
  | 0, n, l => (n, l)
  | f + 1, n, l => if n < -64 ∨ n ≥ 64 then runS f (n / 128) (l ++ [n % 128 + 128]) else (n, l)
def encS (n : Int) : List Int := (runS 9 n []).2 ++ [(runS 9 n []).1 % 128]
theorem s_step (n : Int) : ior .u8 (icv .u8 (iand .i64 n 127)) 128 = n % 128 + 128 ∧ ishr .i64 n 7 = n / 128 ∧ icv .u8 (iand .i64 n 127) = n % 128 := by
  have e : iand .i64 n 127 = n % 128 := iand_mask (j := 7) (by decide) (by decide)
  refine ⟨?_, ishr_ok (k := .i64) (j := 7) (by decide), ?_⟩
  · rw [e, icvu8 (by omega) (by omega), ior128 (by omega) (by omega)]
  · rw [e, icvu8 (by omega) (by omega)]
theorem s_round (k : Nat) {n : Int} {l : List Int} (hn : n < -64 ∨ n ≥ 64) (hl : l.length ≤ 1000) : leb_S.b2 k (n, l) = some (.inl (n / 128, l ++ [n % 128 + 128])) := by
  obtain ⟨e1, e2, _⟩ := s_step n
  simp only [leb_S.b2]
  have : (if n < (-64) then (some (.inl ()) : Option (Unit ⊕ ((Int × List Int) ⊕ (Int × List Int)))) else (if n ≥ 64 then (some (.inl ())) else (some (.inr (.inr (n, l)))))) = some (.inl ()) := by
    by_cases h : n < -64
    · rw [if_pos h]
    · rw [if_neg h, if_pos (by omega)]
  rw [this]
  simp only [segB]
  rw [if_pos (room_small (by omega) (by omega)), e1, e2]
theorem s_stop (k : Nat) {n : Int} {l : List Int} (hn : ¬ (n < -64 ∨ n ≥ 64)) : leb_S.b2 k (n, l) = some (.inr (n, l)) := by
  simp only [leb_S.b2]
  rw [if_neg (by omega), if_neg (by omega)]
  rfl
theorem s_loop (k : Nat) : ∀ (f : Nat) (n : Int) (l : List Int) (m : Nat), -(64 * 128 ^ f) ≤ n → n < 64 * 128 ^ f → l.length + f ≤ 1000 → f + 1 ≤ m → loopS (leb_S.b2 k) m (n, l) = some (runS f n l)
  | f, n, l, 0, _, _, _, h => by omega
  | 0, n, l, m + 1, h0, h1, _, _ => by
    rw [loopS_last (s_stop k (by simp at h0 h1; omega))]
    rfl
  | f + 1, n, l, m + 1, h0, h1, h3, h4 => by
    rw [Int.pow_succ] at h0 h1
    by_cases hn : n < -64 ∨ n ≥ 64
    · have e : runS (f + 1) n l = runS f (n / 128) (l ++ [n % 128 + 128]) := by simp only [runS]; rw [if_pos hn]
      rw [e, loopS_next (s_round k hn (by omega))]
      exact s_loop k f (n / 128) _ m (by omega) (by omega) (by simp; omega) (by omega)
    · have e : runS (f + 1) n l = (n, l) := by simp only [runS]; rw [if_neg hn]
      rw [e, loopS_last (s_stop k hn)]
theorem runS_low : ∀ (f : Nat) (n : Int) (l : List Int), -(64 * 128 ^ f) ≤ n → n < 64 * 128 ^ f → -64 ≤ (runS f n l).1 ∧ (runS f n l).1 < 64 ∧ (runS f n l).2.length ≤ l.length + f
  | 0, n, l, h0, h1 => by simp [runS]; simp at h0 h1; omega
  | f + 1, n, l, h0, h1 => by
    rw [Int.pow_succ] at h0 h1
    by_cases hn : n < -64 ∨ n ≥ 64
    · have e : runS (f + 1) n l = runS f (n / 128) (l ++ [n % 128 + 128]) := by simp only [runS]; rw [if_pos hn]
      rw [e]
      have := runS_low f (n / 128) (l ++ [n % 128 + 128]) (by omega) (by omega)
      simp at this
      omega
    · have e : runS (f + 1) n l = (n, l) := by simp only [runS]; rw [if_neg hn]
      rw [e]; simp; omega
theorem s_ok {k : Nat} (hk : 20 ≤ k) {n : Int} (h0 : -9223372036854775808 ≤ n) (h1 : n ≤ 9223372036854775807) : leb_S.f k n = some (encS n) := by
  obtain ⟨k, rfl⟩ : ∃ j, k = j + 1 := ⟨k - 1, by omega⟩
  obtain ⟨g1, g2, g3⟩ := runS_low 9 n [] (by omega) (by omega)
  simp only [leb_S.f]
  rw [s_loop k 9 n [] k (by omega) (by omega) (by simp) (by omega)]
  simp only [Option.bind_some]
  rw [if_pos (room_small (by simp at g3; omega) (by simp at g3; omega)), (s_step _).2.2]
  rfl
theorem known_leb (j : Nat) : law4_known.f (j + 40) = some true := by kernel_rfl
theorem known_ok {k : Nat} (hk : 40 ≤ k) : law4_known.f k = some true := by
  obtain ⟨j, rfl⟩ : ∃ j, k = j + 40 := ⟨k - 40, by omega⟩
  exact known_leb j
/-! how long the rows are -/
theorem pow7 (j : Nat) : (128 : Int) ^ j = 2 ^ (7 * j) := by
  rw [Int.pow_mul]; rfl
theorem div_pow_succ (n : Int) (j : Nat) : n / 128 / 128 ^ j = n / 128 ^ (j + 1) := by
  rw [Int.ediv_ediv_of_nonneg (by decide), Int.pow_succ, Int.mul_comm]
theorem runU_spec : ∀ (f : Nat) (n : Int) (l : List Int), 0 ≤ n → n < 128 ^ (f + 1) → ∃ (j : Nat) (xs : List Int), j ≤ f ∧ runU f n l = (n / 128 ^ j, l ++ xs) ∧ xs.length = j ∧ (∀ x ∈ xs, 128 ≤ x ∧ x < 256) ∧ 0 ≤ n / 128 ^ j ∧ n / 128 ^ j ≤ 127 ∧ (0 < j → n / 128 ^ j ≠ 0)
  | 0, n, l, h0, h1 => ⟨0, [], Nat.le_refl _, by simp [runU], rfl, by simp, by simpa using h0, by simp at h1 ⊢; omega, by simp⟩
  | f + 1, n, l, h0, h1 => by
    by_cases hn : n > 127
    · have e : runU (f + 1) n l = runU f (n / 128) (l ++ [n % 128 + 128]) := by simp [runU, hn]
      obtain ⟨j, xs, g1, g2, g3, g4, g5, g6, g7⟩ := runU_spec f (n / 128) (l ++ [n % 128 + 128]) (by omega) (by rw [Int.pow_succ] at h1; omega)
      rw [div_pow_succ] at g2 g5 g6 g7
      refine ⟨j + 1, (n % 128 + 128) :: xs, by omega, by rw [e, g2]; simp, by simp [g3], ?_, g5, g6, fun _ => ?_⟩
      · intro x hx
        rcases List.mem_cons.1 hx with rfl | hx
        · omega
        · exact g4 x hx
      · by_cases hj : 0 < j
        · exact g7 hj
        · have : j = 0 := by omega
          subst this
          simp only [Nat.zero_add, Int.pow_one]
          have : (128 : Int) ^ 1 = 128 := rfl
          omega
    · exact ⟨0, [], by omega, by simp [runU, hn], rfl, by simp, by simpa using h0, by simp; omega, by simp⟩
theorem runS_spec : ∀ (f : Nat) (n : Int) (l : List Int), -(64 * 128 ^ f) ≤ n → n < 64 * 128 ^ f → ∃ (j : Nat) (xs : List Int), j ≤ f ∧ runS f n l = (n / 128 ^ j, l ++ xs) ∧ xs.length = j ∧ (∀ x ∈ xs, 128 ≤ x ∧ x < 256) ∧ -64 ≤ n / 128 ^ j ∧ n / 128 ^ j < 64 ∧
    (∀ i, j = i + 1 → ¬(-64 ≤ n / 128 ^ i ∧ n / 128 ^ i < 64))
  | 0, n, l, h0, h1 => ⟨0, [], Nat.le_refl _, by simp [runS], rfl, by simp, by simp at h0 ⊢; omega, by simp at h1 ⊢; omega, fun i hi => by omega⟩
  | f + 1, n, l, h0, h1 => by
    by_cases hn : n < -64 ∨ n ≥ 64
    · have e : runS (f + 1) n l = runS f (n / 128) (l ++ [n % 128 + 128]) := by simp only [runS]; rw [if_pos hn]
      rw [Int.pow_succ] at h0 h1
      obtain ⟨j, xs, g1, g2, g3, g4, g5, g6, g7⟩ := runS_spec f (n / 128) (l ++ [n % 128 + 128]) (by omega) (by omega)
      rw [div_pow_succ] at g2 g5 g6
      refine ⟨j + 1, (n % 128 + 128) :: xs, by omega, by rw [e, g2]; simp, by simp [g3], ?_, g5, g6, fun i hi => ?_⟩
      · intro x hx
        rcases List.mem_cons.1 hx with rfl | hx
        · omega
        · exact g4 x hx
      · have : i = j := by omega
        subst this
        cases i with
        | zero => simp; omega
        | succ i =>
          have := g7 i rfl
          rw [div_pow_succ] at this
          exact this
    · refine ⟨0, [], by omega, by simp only [runS]; rw [if_neg hn]; simp, rfl, by simp, ?_, ?_, fun i hi => by omega⟩ <;> simp <;> omega

/-- What the law asks of U's row. -/
theorem encU_law {n : Int} (h0 : 0 ≤ n) (h1 : n < 18446744073709551616) : ∃ j : Nat, j ≤ 9 ∧ (encU n).length = j + 1 ∧ (∀ i x, (encU n)[i]? = some x → 0 ≤ x ∧ x < 256 ∧ (128 ≤ x ↔ i < j)) ∧ (0 < j → n / 2 ^ (7 * j) ≠ 0) ∧ n / 2 ^ (7 * (j + 1)) = 0 := by
  obtain ⟨j, xs, g1, g2, g3, g4, g5, g6, g7⟩ := runU_spec 10 n [] h0 (by omega)
  have hz : n / 2 ^ (7 * (j + 1)) = 0 := by
    rw [← pow7, Int.pow_succ, ← Int.ediv_ediv_of_nonneg (Int.pow_nonneg (by decide))]
    omega
  have hj : j ≤ 9 := by
    apply Classical.byContradiction
    intro hn
    have : j = 10 := by omega
    subst this
    have := g7 (by decide)
    apply this
    have : (128 : Int) ^ 10 = 1180591620717411303424 := rfl
    rw [this]; omega
  refine ⟨j, hj, by simp [encU, g2, g3], fun i x hx => ?_, fun hp => by rw [← pow7]; exact g7 hp, hz⟩
  simp only [encU, g2, List.nil_append] at hx
  by_cases hi : i < xs.length
  · rw [List.getElem?_append_left hi] at hx
    have := g4 x (List.mem_of_getElem? hx)
    omega
  · rw [List.getElem?_append_right (by omega)] at hx
    have : i - xs.length = 0 := by
      have := (List.getElem?_eq_some_iff.1 hx).1
      simp at this; omega
    rw [this] at hx
    simp only [List.getElem?_cons_zero, Option.some.injEq] at hx
    subst hx
    omega
theorem encS_law {n : Int} (h0 : -9223372036854775808 ≤ n) (h1 : n ≤ 9223372036854775807) : ∃ j : Nat, j ≤ 9 ∧ (encS n).length = j + 1 ∧ (∀ i x, (encS n)[i]? = some x → 0 ≤ x ∧ x < 256 ∧ (128 ≤ x ↔ i < j)) ∧
    (n / 2 ^ (7 * j + 6) = 0 ∨ n / 2 ^ (7 * j + 6) = -1) ∧ (∀ i, j = i + 1 → n / 2 ^ (7 * i + 6) ≠ 0 ∧ n / 2 ^ (7 * i + 6) ≠ -1) := by
  obtain ⟨j, xs, g1, g2, g3, g4, g5, g6, g7⟩ := runS_spec 9 n [] (by omega) (by omega)
  have e : ∀ i : Nat, n / 2 ^ (7 * i + 6) = n / 128 ^ i / 64 := by
    intro i
    rw [Int.pow_add, ← pow7, ← Int.ediv_ediv_of_nonneg (Int.pow_nonneg (by decide))]
    rfl
  refine ⟨j, g1, by simp [encS, g2, g3], fun i x hx => ?_, by rw [e]; omega, fun i hi => by rw [e]; have := g7 i hi; omega⟩
  simp only [encS, g2, List.nil_append] at hx
  by_cases hi : i < xs.length
  · rw [List.getElem?_append_left hi] at hx
    have := g4 x (List.mem_of_getElem? hx)
    omega
  · rw [List.getElem?_append_right (by omega)] at hx
    have : i - xs.length = 0 := by
      have := (List.getElem?_eq_some_iff.1 hx).1
      simp at this; omega
    rw [this] at hx
    simp only [List.getElem?_cons_zero, Option.some.injEq] at hx
    subst hx
    omega
theorem primsOk : PrimOk Go.Proofs.Try.prog prims := fun f p h => by cases h
end Go.R1
