/- plainsongbook: Roomy, Intact, Within, Same. -/
import Derived.Test.YtdghpmnhlhhcnaaG1Reads
set_option linter.all false
namespace Go.R1
open Go.Ev

theorem strEq_self (x : ByteArray) : strEq x x = true := by simp [strEq]
theorem within_ok {k : Nat} (hk : 1 ≤ k) {n lo hi : Int} (h1 : lo ≤ hi) (h2 : -1000000000000000000 ≤ lo) (h3 : hi ≤ 1000000000000000000) : ∃ r, book_Within.f k n lo hi = some r ∧ lo ≤ r ∧ r ≤ hi ∧ (lo ≤ n → n ≤ hi → r = n) := by
  obtain ⟨k, rfl⟩ : ∃ j, k = j + 1 := ⟨k - 1, by omega⟩
  simp only [book_Within.f]
  by_cases h : lo ≤ n ∧ n ≤ hi
  · rw [if_pos h.1, if_pos h.2]
    exact ⟨n, rfl, h.1, h.2, fun _ _ => rfl⟩
  · have e : iadd .i64 (isub .i64 hi lo) 1 = hi - lo + 1 := by rw [isub64 (by omega) (by omega), iadd64 (by omega) (by omega)]
    have m0 : irem .i64 n (hi - lo + 1) < hi - lo + 1 := by
      unfold irem; exact Int.tmod_lt_of_pos _ (by omega)
    have m1 : -(hi - lo + 1) < irem .i64 n (hi - lo + 1) := by
      unfold irem; exact Int.lt_tmod_of_pos _ (by omega)
    have q : (if n ≥ lo then (if n ≤ hi then (some (.inr n)) else (some (.inl ()))) else (some (.inl ())) : Option (Unit ⊕ Int)) = some (.inl ()) := by
      by_cases h0 : n ≥ lo
      · rw [if_pos h0, if_neg (by omega)]
      · rw [if_neg h0]
    rw [q, e]
    simp only [segB]
    rw [if_pos (by omega)]
    generalize irem .i64 n (hi - lo + 1) = z at m0 m1
    by_cases hz : z < 0
    · rw [if_pos hz, iadd64 (a := z) (by omega) (by omega), isub64 (by omega) (by omega), iadd64 (a := z + hi - lo) (by omega) (by omega), iadd64 (by omega) (by omega)]
      exact ⟨_, rfl, by omega, by omega, by omega⟩
    · rw [if_neg hz, iadd64 (by omega) (by omega)]
      exact ⟨_, rfl, by omega, by omega, by omega⟩
theorem copyL_all (l m : List Int) : copyL (List.replicate (l.length + m.length) (0 : Int)) 0 (l.length + m.length) l = l ++ List.replicate m.length 0 := by
  unfold copyL
  rw [show min l.length (l.length + m.length) = l.length from by omega]
  simp only [List.take_zero, List.nil_append, Nat.zero_add, List.take_length, List.drop_replicate, List.length_replicate, List.take_replicate]
  rw [show min (l.length + m.length) (l.length + m.length - l.length) = m.length from by omega]
  simp
theorem set_at (a c : List Int) (x y : Int) : (a ++ x :: c).set a.length y = a ++ y :: c := by
  rw [List.set_append_right _ _ (by omega)]; simp
theorem roomy_ok {k : Nat} (hk : 100 ≤ k) {l : List Int} (hl : l.length ≤ 1000000000000) (mark : Int) : book_Roomy_byte.f k l mark = some (l ++ List.replicate 80 mark) := by
  obtain ⟨k, rfl⟩ : ∃ j, k = j + 1 := ⟨k - 1, by omega⟩
  simp only [book_Roomy_byte.f]
  have e : iadd .i64 (l.length : Int) 80 = ((l.length + 80 : Nat) : Int) := by rw [iadd64 (by omega) (by omega)]; omega
  rw [e]
  simp only [Int.toNat_natCast, List.length_replicate]
  rw [if_pos ⟨by omega, by omega, by omega, by omega⟩, if_pos (by omega)]
  have hc := copyL_all l (List.replicate 80 (0 : Int))
  rw [List.length_replicate] at hc
  rw [hc]
  have := loopS_count (f := book_Roomy_byte.b4 k mark) (fun j : Nat => (((l.length + j : Nat) : Int), l ++ (List.replicate j mark ++ List.replicate (80 - j) 0))) 80 (l ++ List.replicate 80 mark) ?_ ?_ 80 0 k (by omega) (by omega)
  · simp only [Nat.add_zero, List.replicate_zero, List.nil_append, Nat.sub_zero] at this
    rw [this]; rfl
  · simp only [book_Roomy_byte.b4]
    rw [if_neg (by simp)]
    simp
  · intro j hj
    have hs : List.replicate (80 - j) (0 : Int) = 0 :: List.replicate (80 - (j + 1)) 0 := by
      rw [show 80 - j = (80 - (j + 1)) + 1 from by omega, List.replicate_succ]
    have hlen : (l ++ (List.replicate j mark ++ List.replicate (80 - j) (0 : Int))).length = l.length + 80 := by simp; omega
    have hlen2 : (l ++ List.replicate j mark).length = l.length + j := by simp
    simp only [book_Roomy_byte.b4]
    rw [hlen, if_pos (by omega), if_pos ⟨by omega, by omega⟩]
    simp only [Int.toNat_natCast]
    rw [hs, ← List.append_assoc]
    have hg : (l ++ List.replicate j mark ++ (0 : Int) :: List.replicate (80 - (j + 1)) 0)[l.length + j]? = some 0 := by
      rw [← hlen2, List.getElem?_append_right (by omega)]; simp
    rw [hg]
    simp only [Option.bind_some]
    rw [iadd64 (by omega) (by omega)]
    have hset : (l ++ List.replicate j mark ++ (0 : Int) :: List.replicate (80 - (j + 1)) 0).set (l.length + j) mark = l ++ (List.replicate (j + 1) mark ++ List.replicate (80 - (j + 1)) 0) := by
      rw [← hlen2, set_at, List.replicate_succ']
      simp
    rw [hset]
    congr 3
theorem same_byte_ok {k : Nat} (l : List Int) (hk : l.length + 2 ≤ k) (hl : l.length ≤ 1000000000000) : book_Same_byte.f k l l = some true := by
  obtain ⟨k, rfl⟩ : ∃ j, k = j + 1 := ⟨k - 1, by omega⟩
  simp only [book_Same_byte.f, if_true]
  have := loopS_count (f := book_Same_byte.b4 k l l) (fun i : Nat => (i : Int)) l.length (Sum.inl ()) ?_ ?_ l.length 0 k (by omega) (by omega)
  · simp only [Int.natCast_zero, show ((0 : Nat) : Int) = 0 from rfl] at this
    rw [this]; rfl
  · simp only [book_Same_byte.b4]
    rw [if_neg (by omega)]
  · intro i hi
    simp only [book_Same_byte.b4]
    rw [if_pos (by omega), at?_nat, List.getElem?_eq_getElem hi]
    simp only [Option.bind_some, if_true]
    rw [iadd64 (by omega) (by omega)]
    rfl
theorem intact_ok {k : Nat} (l : List Int) (hk : l.length + 100 ≤ k) (hl : l.length ≤ 1000000000000) (mark : Int) : book_Intact_byte.f k (l ++ List.replicate 80 mark) l mark = some true := by
  obtain ⟨k, rfl⟩ : ∃ j, k = j + 1 := ⟨k - 1, by omega⟩
  simp only [book_Intact_byte.f]
  have hlen : (l ++ List.replicate 80 mark).length = l.length + 80 := by simp
  have e : iadd .i64 (l.length : Int) 80 = ((l.length + 80 : Nat) : Int) := by rw [iadd64 (by omega) (by omega)]; omega
  rw [hlen, e, if_pos (by omega), if_pos ⟨by omega, by omega⟩]
  simp only [Int.toNat_natCast]
  rw [List.take_left, same_byte_ok l (by omega) hl]
  simp only [Option.bind_some, Bool.not_true, Bool.false_eq_true, if_false]
  have := loopS_count (f := book_Intact_byte.b4 k (l ++ List.replicate 80 mark) mark) (fun j : Nat => ((l.length + j : Nat) : Int)) 80 (Sum.inl ()) ?_ ?_ 80 0 k (by omega) (by omega)
  · simp only [Nat.add_zero] at this
    rw [this]; rfl
  · simp only [book_Intact_byte.b4]
    rw [hlen, if_neg (by omega)]
  · intro j hj
    simp only [book_Intact_byte.b4]
    rw [hlen, if_pos (by omega), at?_nat, List.getElem?_append_right (by omega)]
    have : (List.replicate 80 mark)[l.length + j - l.length]? = some mark := by
      rw [List.getElem?_replicate, if_pos (by omega)]
    rw [this]
    simp only [Option.bind_some, if_true]
    rw [iadd64 (by omega) (by omega)]
    congr 2
end Go.R1
