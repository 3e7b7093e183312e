import Derived.Test.YtfjpaakonepafaaGModD
import Derived.Test.YtfjpaakonepafaaGDc
set_option linter.all false
namespace Go.R3K
open Go.Proofs Go.Ev Mo
set_option maxRecDepth 100000
def labelS (n d b : Int) : Int := if n < d then n else if 0 ≤ n + b ∧ n + b ≤ 1073741824 then n + b else n
def Near (n : Int) : Prop := -2000000000 ≤ n ∧ n ≤ 2000000000
def leaveI (b d : Int) (i : AInst) : AInst × Int :=
 if 2 ≤ i.Op ∧ i.Op ≤ 4 then (i, d + 1) else if i.Op = 11 then (i, if 0 < d then d - 1 else 0)
 else if i.Op = 12 ∨ i.Op = 13 then (⟨i.Op, labelS i.A d b, i.B, i.N, i.L⟩, d)
 else if i.Op = 14 then (⟨i.Op, i.A, i.B, i.N, i.L.map fun x => labelS x d b⟩, d) else (i, d)
def leaveL (b : Int) : Int → List AInst → List AInst
 | _, [] => []
 | d, i :: r => (leaveI b d i).1 :: leaveL b (leaveI b d i).2 r
theorem leaveL_len (b : Int) : ∀ (d : Int) (l : List AInst), (leaveL b d l).length = l.length
 | _, [] => rfl
 | d, i :: r => by simp [leaveL, leaveL_len b]
structure Small (i : AInst) : Prop where
 a : Near i.A
 l : ∀ x ∈ i.L, Near x
 n : i.L.length ≤ 1000000
theorem set_mid {α : Type} (a : List α) (x y : α) (r : List α) : (a ++ x :: r).set a.length y = a ++ y :: r := by
 rw [List.set_append_right _ _ (Nat.le_refl _), Nat.sub_self]; rfl
theorem get_mid {α : Type} (a : List α) (x : α) (r : List α) : (a ++ x :: r)[a.length]? = some x := by
 rw [List.getElem?_append_right (Nat.le_refl _), Nat.sub_self]; rfl
theorem small_nil {o a b n : Int} (h : Near a) : Small ⟨o, a, b, n, []⟩ := ⟨h, (fun x hx => by cases hx), by simp⟩
theorem Mo.Fine.small {i : AInst} (h : Fine i) : Small i := by
 cases h <;> first | exact small_nil (by constructor <;> omega) | skip
 rename_i l h1 h2 h3
 refine ⟨by constructor <;> (dsimp only; omega), fun x hx => ?_, by dsimp only; omega⟩
 have := h3 x hx
 exact ⟨by omega, by omega⟩
theorem Mo.Seq.small {n : Nat} {c : List AInst} (h : Seq n c) : ∀ i ∈ c, Small i := by
 have nil : ∀ {o a : Int}, -4 ≤ a → a < 9 → Small ⟨o, a, 0, 0, []⟩ := fun h1 h2 => small_nil ⟨by omega, by omega⟩
 induction h with
 | nil => intro i hi; cases hi
 | one h => intro i hi; rw [List.mem_singleton] at hi; subst hi; exact h.small
 | app _ _ ha hb => intro i hi; rcases List.mem_append.1 hi with h | h; exact ha i h; exact hb i h
 | blk _ h1 h2 _ ih =>
  intro i hi
  rcases List.mem_cons.1 hi with rfl | hi
  ·exact nil h1 h2
  ·rcases List.mem_append.1 hi with h | h
   ·exact ih i h
   ·rw [List.mem_singleton] at h; subst h; exact nil (by decide) (by decide)
 | ite h1 h2 _ _ ih1 ih2 =>
  intro i hi
  rcases List.mem_cons.1 hi with rfl | hi
  ·exact nil h1 h2
  ·rcases List.mem_append.1 hi with h | h
   ·exact ih1 i h
   ·rcases List.mem_cons.1 h with rfl | h
    ·exact nil (by decide) (by decide)
    ·rcases List.mem_append.1 h with h | h
     ·exact ih2 i h
     ·rw [List.mem_singleton] at h; subst h; exact nil (by decide) (by decide)
theorem Mo.CodeOk.small {c : List AInst} (h : CodeOk c) : ∀ i ∈ c, Small i := by
 obtain ⟨_, b, rfl, hs⟩ := h
 intro i hi
 rcases List.mem_append.1 hi with h | h
 ·exact hs.small i h
 ·rw [List.mem_singleton] at h; subst h; exact small_nil (by constructor <;> decide)
theorem Mo.Fine.few {i : AInst} (h : Fine i) : -4 ≤ i.A ∧ i.A < 100 := by cases h <;> dsimp only <;> omega
theorem Mo.Seq.few {n : Nat} {c : List AInst} (h : Seq n c) : ∀ i ∈ c, -4 ≤ i.A ∧ i.A < 100 := by
 induction h with
 | nil => intro i hi; cases hi
 | one h => intro i hi; rw [List.mem_singleton] at hi; subst hi; exact h.few
 | app _ _ ha hb => intro i hi; rcases List.mem_append.1 hi with h | h; exact ha i h; exact hb i h
 | blk _ h1 h2 _ ih =>
  intro i hi
  rcases List.mem_cons.1 hi with rfl | hi
  ·dsimp only; omega
  ·rcases List.mem_append.1 hi with h | h
   ·exact ih i h
   ·rw [List.mem_singleton] at h; subst h; decide
 | ite h1 h2 _ _ ih1 ih2 =>
  intro i hi
  rcases List.mem_cons.1 hi with rfl | hi
  ·dsimp only; omega
  ·rcases List.mem_append.1 hi with h | h
   ·exact ih1 i h
   ·rcases List.mem_cons.1 h with rfl | h
    ·decide
    ·rcases List.mem_append.1 h with h | h
     ·exact ih2 i h
     ·rw [List.mem_singleton] at h; subst h; decide
theorem Mo.CodeOk.few {c : List AInst} (h : CodeOk c) : ∀ i ∈ c, -4 ≤ i.A ∧ i.A < 100 := by
 obtain ⟨_, b, rfl, hs⟩ := h
 intro i hi
 rcases List.mem_append.1 hi with h | h
 ·exact hs.few i h
 ·rw [List.mem_singleton] at h; subst h; decide
theorem known16 (j : Nat) : law16_known.f (j + 60) = some true := by kernel_rfl
theorem known16_wp : Wp (fun k => law16_known.f k) (· = true) := by
 refine .at_ 60 (fun k hk => ?_) rfl
 obtain ⟨k, rfl⟩ : ∃ j, k = j + 60 := ⟨k - 60, by omega⟩
 exact known16 k
end Go.R3K
