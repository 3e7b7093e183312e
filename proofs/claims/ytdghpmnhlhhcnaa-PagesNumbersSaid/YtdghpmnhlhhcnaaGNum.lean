/- Pages: PagesNumbers. -/
import Derived.Test.YtdghpmnhlhhcnaaGNPlay3
set_option linter.all false
namespace Go.R1N
open Go.Proofs Go.Ev
set_option maxRecDepth 100000
theorem nil_loop (k K : Nat) (a : Int) (hK : 100 ≤ K) (hk : 800000 ≤ k) : loopS (law12_PagesNumbers.b5 (k + 5) a) K (0 : Int) = some (.inl ()) := by
  refine loopS_count (fun i : Nat => (i : Int)) 5 _ ?_ ?_ 5 0 _ (by omega) (by omega)
  · simp only [law12_PagesNumbers.b5]
    rw [if_neg (by omega)]
  · intro i hi
    simp only [law12_PagesNumbers.b5]
    rw [if_pos (by omega), if_pos ⟨by omega, by omega⟩, Int.toNat_natCast]
    refine bindO (List.getElem?_eq_getElem (show i < 5 by omega)) ?_
    refine bindO (play1_ok k hk) ?_
    rw [if_neg (by decide), iadd64 (by omega) (by omega)]
    rfl
theorem nil_loops (k K : Nat) (hK : 100 ≤ K) (hk : 800000 ≤ k) : loopS (law12_PagesNumbers.b2 (k + 5)) K (-1 : Int) = some (.inl ()) := by
  rw [show (-1 : Int) = ((0 : Nat) : Int) - 1 from rfl]
  refine loopS_count (fun i : Nat => (i : Int) - 1) 5 _ ?_ ?_ 5 0 _ (by omega) (by omega)
  · simp only [law12_PagesNumbers.b2]
    rw [if_neg (by omega)]
  · intro i hi
    simp only [law12_PagesNumbers.b2]
    rw [if_pos (by omega)]
    refine altB_l (nil_loop k (k + 5) _ (by omega) hk) ?_
    rw [iadd64 (by omega) (by omega)]
    congr 2
    omega
def okB (x : plainsonglaw12_Ask) : Bool := decide (-9223372036854775808 ≤ x.Kind ∧ x.Kind ≤ 9223372036854775807) && decide (-9223372036854775808 ≤ x.N ∧ x.N ≤ 9223372036854775807) && decide (0 ≤ x.At ∧ x.At ≤ 18446744073709551615) && decide (0 ≤ x.Src ∧ x.Src ≤ 18446744073709551615) && decide (0 ≤ x.V ∧ x.V ≤ 18446744073709551615) && decide (x.B.length ≤ 4) && x.B.all fun y => decide (0 ≤ y ∧ y ≤ 255)
theorem okB_wf {x : plainsonglaw12_Ask} (h : okB x = true) : x.wf := by
  simp only [okB, Bool.and_eq_true, decide_eq_true_eq, List.all_eq_true] at h
  obtain ⟨⟨⟨⟨⟨⟨h1, h2⟩, h3⟩, h4⟩, h5⟩, h6⟩, h7⟩ := h
  exact ⟨h1, h2, h3, h4, h5, by simp only [bigN]; omega, h7⟩
theorem built (j : Nat) : (match loopS (law12_PagesNumbers.b12 (j + 100)) (j + 100) ((0 : Int), ([] : List plainsonglaw12_Ask)) with
    | some l => l.all okB && Nat.beq l.length 504
    | none => false) = true := by kernel_rfl
theorem build_ok (j : Nat) : ∃ l : List plainsonglaw12_Ask, loopS (law12_PagesNumbers.b12 (j + 100)) (j + 100) ((0 : Int), ([] : List plainsonglaw12_Ask)) = some l ∧ (∀ e ∈ l, e.wf) ∧ l.length = 504 := by
  have h := built j
  split at h
  · rename_i l hl
    simp only [Bool.and_eq_true, List.all_eq_true] at h
    exact ⟨l, hl, fun e he => okB_wf (h.1 e he), Nat.eq_of_beq_eq_true h.2⟩
  · cases h
theorem play_loop24 (k K : Nat) {l : List plainsonglaw12_Ask} (hw : ∀ e ∈ l, e.wf) (hl : l.length = 504) (hK : 100 ≤ K) (hk : 800000 ≤ k) : loopS (law12_PagesNumbers.b24 (k + 5) l) K (0 : Int) = some (.inl ()) := by
  refine loopS_count (fun i : Nat => ((50 * i : Nat) : Int)) 11 _ ?_ ?_ 11 0 _ (by omega) (by omega)
  · simp only [law12_PagesNumbers.b24]
    rw [if_neg (by omega)]
  · intro i hi
    simp only [law12_PagesNumbers.b24]
    have e : iadd .i64 ((50 * i : Nat) : Int) 50 = ((50 * (i + 1) : Nat) : Int) := by rw [iadd64 (by omega) (by omega)]; omega
    have hm : ∃ m : Nat, imin ((50 * (i + 1) : Nat) : Int) (l.length : Int) = (m : Int) ∧ 50 * i ≤ m ∧ m ≤ 504 := by
      unfold imin
      split
      · exact ⟨_, rfl, by omega, by omega⟩
      · exact ⟨_, rfl, by omega, by omega⟩
    obtain ⟨m, hm, m1, m2⟩ := hm
    rw [if_pos (by omega), e, hm, if_pos ⟨by omega, by omega, by omega, by omega⟩]
    simp only [Int.toNat_natCast]
    refine bindO (play_ok k (l := List.take (m - 50 * i) (List.drop (50 * i) l)) (by simp; omega) (fun e he => hw e (List.mem_of_mem_drop (List.mem_of_mem_take he))) hk) ?_
    rw [if_neg (by decide)]
theorem numbers_ok (j : Nat) (hj : 800000 ≤ j) : law12_PagesNumbers.f (j + 101) = some true := by
  simp only [law12_PagesNumbers.f]
  refine altB_l (nil_loops (j + 95) (j + 100) (by omega) (by omega)) ?_
  obtain ⟨l, h1, h2, h3⟩ := build_ok j
  refine bindO h1 ?_
  refine altB_l (play_loop24 (j + 95) (j + 100) h2 h3 (by omega) (by omega)) ?_
  refine bindO (known_ok (j + 40)) rfl
theorem PagesNumbers : ∃ k, law12_PagesNumbers.f k = some true := ⟨_, numbers_ok 800000 (by omega)⟩
end Go.R1N
