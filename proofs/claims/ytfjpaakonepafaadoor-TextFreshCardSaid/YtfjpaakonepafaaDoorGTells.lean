/- Text: TextTells, TextNumbers. -/
import Derived.Test.YtfjpaakonepafaaDoorGText2
set_option linter.all false
namespace Go.R3D
open Go.Proofs Go.Ev
set_option maxRecDepth 100000

theorem strL_len (s : ByteArray) : (strL s).length = s.size := by simp [strL]
theorem strL_by (s : ByteArray) : By (strL s) := by
  intro y hy
  simp only [strL, List.mem_map] at hy
  obtain ⟨x, _, rfl⟩ := hy
  have := x.toNat_lt
  omega
theorem By.app {a b : List Int} (ha : By a) (hb : By b) : By (a ++ b) := by
  intro y hy
  rcases List.mem_append.1 hy with h | h
  · exact ha y h
  · exact hb y h
theorem extract_size (s : ByteArray) (i j : Nat) (h : j ≤ s.size) : (s.extract i j).size = j - i := by
  rw [ByteArray.size_extract]; omega
theorem tells_ok (j : Nat) {b : List Int} {s : ByteArray} (hB : By b) (hj : 200000 ≤ j) : law5_TextTells.f (j + 50) b s = some true := by
  simp only [law5_TextTells.f]
  have hb : ∃ b' : List Int, (if (b.length : Int) > 60 then (if 0 ≤ (60 : Int) ∧ 60 ≤ (b.length : Int) then (some (.inl (List.take 60 b))) else none) else (some (.inl b)) : Option (List Int ⊕ Bool)) = some (.inl b') ∧ By b' ∧ b'.length ≤ 60 := by
    by_cases h : (b.length : Int) > 60
    · exact ⟨List.take 60 b, by rw [if_pos h, if_pos ⟨by decide, by omega⟩], hB.take 60, by simp; omega⟩
    · exact ⟨b, by rw [if_neg h], hB, by omega⟩
  have hs : ∃ s' : ByteArray, (if (s.size : Int) > 60 then (if (0 : Int) ≤ 60 ∧ (0 : Nat) ≤ 60 ∧ (60 : Nat) ≤ s.size then (some (.inl (s.extract 0 60))) else none) else (some (.inl s)) : Option (ByteArray ⊕ Bool)) = some (.inl s') ∧ s'.size ≤ 60 := by
    by_cases h : (s.size : Int) > 60
    · exact ⟨s.extract 0 60, by rw [if_pos h, if_pos ⟨by decide, by decide, by omega⟩], by rw [extract_size _ _ _ (by omega)]; omega⟩
    · exact ⟨s, by rw [if_neg h], by omega⟩
  obtain ⟨b', e1, hB', hl'⟩ := hb
  obtain ⟨s', e2, hs'⟩ := hs
  refine segB_to e1 ?_
  refine segB_to e2 ?_
  refine bindO (same_ok (j + 46) hB' (by omega) (by omega)) ?_
  rw [if_pos rfl, if_pos (by omega)]
  have hL := strL_len s'
  refine bindO (same_ok (j + 46) (strL_by s') (by omega) (by omega)) ?_
  rw [if_pos rfl, if_pos (by omega), if_pos (room_small (by omega) (by omega))]
  refine bindO (same_ok (j + 46) ((strL_by s').app hB') (by simp only [List.length_append]; omega) (by omega)) ?_
  rw [if_pos rfl]
  exact bindO (known_ok (j + 9)) rfl
theorem TextTells {b : List Int} {s : ByteArray} (_ : b.length * 1 ≤ bigN) (hB : ∀ y ∈ b, inR .u8 y) (_ : s.size ≤ bigN) : ∃ k, law5_TextTells.f k b s = some true :=
  ⟨_, tells_ok 200000 hB (by omega)⟩
/-! TextNumbers -/
theorem icv8_by (x : Int) : 0 ≤ icv .u8 x ∧ icv .u8 x ≤ 255 := by
  have : icv .u8 x = x % 256 := wrap_u8 x
  omega
theorem num_row (k : Nat) (a : Int) (hk : 200000 ≤ k) (q : Nat) (hq : 300 ≤ q) : loopS (law5_TextNumbers.b5 (k + 3) a) q (0 : Int) = some (.inl ()) := by
  refine loopS_count (fun i : Nat => (i : Int)) 256 _ ?_ ?_ 256 0 _ (by omega) (by omega)
  · simp only [law5_TextNumbers.b5]
    rw [if_neg (by omega)]
  · intro i hi
    simp only [law5_TextNumbers.b5]
    rw [if_pos (by omega)]
    have h1 := icv8_by a
    have h2 := icv8_by (i : Int)
    refine segB_to (o := ()) ?_ (by rw [iadd64 (by omega) (by omega)]; rfl)
    refine bindO (same_ok k (by intro y hy; simp at hy; rcases hy with rfl | rfl; exact h1; exact h2) (by simp) hk) ?_
    rw [if_neg (by decide)]
    by_cases c : irem .i64 (i : Int) 8 = 7
    · rw [if_pos c]
      refine bindO (same_ok k (by intro y hy; simp at hy; rcases hy with rfl | rfl | rfl; exact h1; exact h2; decide) (by simp) hk) ?_
      rw [if_neg (by decide)]
      refine bindO (same_ok k (by intro y hy; simp at hy; rcases hy with rfl | rfl | rfl; exact h1; exact h2; decide) (by simp) hk) ?_
      rw [if_neg (by decide)]
    · rw [if_neg c]
theorem num_rows (k : Nat) (hk : 200000 ≤ k) (q : Nat) (hq : 300 ≤ q) : loopS (law5_TextNumbers.b2 (k + 3)) q (0 : Int) = some (.inl ()) := by
  refine loopS_count (fun i : Nat => (i : Int)) 256 _ ?_ ?_ 256 0 _ (by omega) (by omega)
  · simp only [law5_TextNumbers.b2]
    rw [if_neg (by omega)]
  · intro i hi
    simp only [law5_TextNumbers.b2]
    rw [if_pos (by omega)]
    refine altB_l (num_row k (i : Int) hk (k + 3) (by omega)) ?_
    rw [iadd64 (by omega) (by omega)]
    rfl
theorem num_cut (k : Nat) (hk : 200000 ≤ k) {e : ByteArray} (he : e.size ≤ 10) (q : Nat) (hq : 300 ≤ q) : loopS (law5_TextNumbers.b13 (k + 3) e) q (0 : Int) = some (.inl ()) := by
  refine loopS_count (fun i : Nat => (i : Int)) (e.size + 1) _ ?_ ?_ (e.size + 1) 0 _ (by omega) (by omega)
  · simp only [law5_TextNumbers.b13]
    rw [if_neg (by omega)]
  · intro i hi
    simp only [law5_TextNumbers.b13]
    have z1 := extract_size e 0 i (by omega)
    have z2 := extract_size e i e.size (by omega)
    have z3 : ((e.extract i e.size) ++ e).size = e.size - i + e.size := by rw [ByteArray.size_append, z2]
    rw [if_pos (by omega), if_pos ⟨by omega, by omega, by omega⟩]
    simp only [Int.toNat_natCast]
    rw [if_pos (by omega)]
    refine bindO (same_ok k (strL_by _) (by rw [strL_len]; omega) hk) ?_
    rw [if_neg (by decide), if_pos ⟨by omega, by omega, by omega⟩, if_pos (by omega), if_pos (by omega)]
    refine bindO (same_ok k (strL_by _) (by rw [strL_len]; omega) hk) ?_
    rw [if_neg (by decide), iadd64 (by omega) (by omega)]
    rfl
theorem num_cuts (k : Nat) (hk : 200000 ≤ k) (q : Nat) (hq : 300 ≤ q) : loopS (law5_TextNumbers.b10 (k + 3)) q (0 : Int) = some (.inl ()) := by
  refine loopS_count (fun i : Nat => (i : Int)) 13 _ ?_ ?_ 13 0 _ (by omega) (by omega)
  · simp only [law5_TextNumbers.b10]
    rw [if_neg (by omega)]
  · intro i hi
    simp only [law5_TextNumbers.b10]
    rw [if_pos (by omega), if_pos ⟨by omega, by omega⟩]
    simp only [Int.toNat_natCast]
    refine bindO (List.getElem?_eq_getElem (show i < 13 from hi)) ?_
    refine altB_l (num_cut k hk ?_ (k + 3) (by omega)) ?_
    · have hall : ∀ e ∈ ([(⟨#[127]⟩ : ByteArray), (⟨#[194, 128]⟩ : ByteArray), (⟨#[223, 191]⟩ : ByteArray), (⟨#[224, 160, 128]⟩ : ByteArray), (⟨#[237, 159, 191]⟩ : ByteArray), (⟨#[238, 128, 128]⟩ : ByteArray), (⟨#[239, 191, 191]⟩ : ByteArray), (⟨#[240, 144, 128, 128]⟩ : ByteArray), (⟨#[244, 143, 191, 191]⟩ : ByteArray), (⟨#[237, 160, 128]⟩ : ByteArray), (⟨#[244, 144, 128, 128]⟩ : ByteArray), (⟨#[224, 159, 191]⟩ : ByteArray), (⟨#[240, 143, 191, 191]⟩ : ByteArray)] : List ByteArray), e.size ≤ 10 := by
        intro e he
        simp only [List.mem_cons, List.not_mem_nil, or_false] at he
        rcases he with rfl | rfl | rfl | rfl | rfl | rfl | rfl | rfl | rfl | rfl | rfl | rfl | rfl <;> decide
      exact hall _ (List.getElem_mem _)
    · rw [iadd64 (by omega) (by omega)]
      rfl
theorem numbers_ok (j : Nat) (hj : 200000 ≤ j) : law5_TextNumbers.f (j + 50) = some true := by
  simp only [law5_TextNumbers.f]
  refine altB_l (num_rows (j + 46) (by omega) _ (by omega)) ?_
  refine altB_l (num_cuts (j + 46) (by omega) _ (by omega)) ?_
  exact bindO (known_ok (j + 9)) rfl
theorem TextNumbers : ∃ k, law5_TextNumbers.f k = some true := ⟨_, numbers_ok 200000 (by omega)⟩
end Go.R3D
