/- HostNumbers: the plain law. -/
import Derived.Test.YtdghpmnhlhhcnaaGHN_Plays
set_option linter.all false
namespace Go.R1HN
open Go.Proofs Go.Ev
set_option maxRecDepth 100000
def laid : Option (List host_Answer × List plainsonglaw13_Ask) := loopS (law13_HostNumbers.b4 60) 60 ((0 : Int), ([] : List host_Answer), ([] : List plainsonglaw13_Ask))
theorem laid_ok (j : Nat) : loopS (law13_HostNumbers.b4 (j + 60)) (j + 60) ((0 : Int), ([] : List host_Answer), ([] : List plainsonglaw13_Ask)) = laid := by kernel_rfl
def u64B (x : Int) : Bool := decide (0 ≤ x) && decide (x < 18446744073709551616)
def i64B (x : Int) : Bool := decide (-9223372036854775808 ≤ x) && decide (x < 9223372036854775808)
def good (r : List host_Answer × List plainsonglaw13_Ask) : Bool :=
  r.1.length == 30 && r.2.length == 30 && r.1.all (fun a => decide (a.Values.length < 100) && a.Values.all u64B) && r.2.all (fun a => i64B a.Index && decide (a.Args.length < 100) && a.Args.all u64B && decide (a.T.length < 100) && a.T.all i64B)
theorem laid_good : laid.map good = some true := by kernel_rfl
theorem u64B_ok {x : Int} (h : u64B x = true) : inR .u64 x := by
  simp only [u64B, Bool.and_eq_true, decide_eq_true_eq] at h
  simp only [inR]; omega
theorem i64B_ok {x : Int} (h : i64B x = true) : inR .i64 x := by
  simp only [i64B, Bool.and_eq_true, decide_eq_true_eq] at h
  simp only [inR]; omega
theorem known_at (j : Nat) : law13_known.f (j + 60) = some true := by kernel_rfl
theorem nums (j : Nat) (h : ∀ (l : List host_Answer) (a : List plainsonglaw13_Ask), l.length * 32 ≤ bigN → (∀ x ∈ l, host_Answer.wf x) → a.length * 56 ≤ bigN → (∀ x ∈ a, plainsonglaw13_Ask.wf x) → law13_HostPlays.f (j + 60) l a = some true) : law13_HostNumbers.f (j + 60 + 1) = some true := by
  simp only [law13_HostNumbers.f]
  rw [laid_ok]
  have g := laid_good
  cases hl : laid with
  | none => rw [hl] at g; cases g
  | some r =>
    rw [hl] at g
    obtain ⟨L, A⟩ := r
    simp only [Option.map_some, Option.some.injEq, good, Bool.and_eq_true, beq_iff_eq, List.all_eq_true, decide_eq_true_eq] at g
    obtain ⟨⟨⟨g1, g2⟩, g3⟩, g4⟩ := g
    have wL : ∀ x ∈ L, host_Answer.wf x := fun x hx => by
      obtain ⟨a, b⟩ := g3 x hx
      exact ⟨by simp only [bigN]; omega, fun y hy => u64B_ok (b y hy)⟩
    have wA : ∀ x ∈ A, plainsonglaw13_Ask.wf x := fun x hx => by
      obtain ⟨⟨⟨⟨a, b⟩, c⟩, d⟩, e⟩ := g4 x hx
      exact ⟨i64B_ok a, by simp only [bigN]; omega, fun y hy => u64B_ok (c y hy), by simp only [bigN]; omega, fun y hy => i64B_ok (e y hy)⟩
    simp only [Option.bind_some, List.drop_zero, Nat.sub_zero]
    rw [h L A (by simp only [bigN]; omega) wL (by simp only [bigN]; omega) wA]
    simp only [Option.bind_some, if_true]
    rw [if_pos ⟨by decide, by decide, by omega⟩]
    rw [h L (A.take 10) (by simp only [bigN]; omega) wL (by simp only [bigN, List.length_take]; omega) (fun x hx => wA x (List.mem_of_mem_take hx))]
    simp only [Option.bind_some, if_true]
    rw [if_pos ⟨by decide, by decide, by omega⟩]
    rw [h (L.take 3) A (by simp only [bigN, List.length_take]; omega) (fun x hx => wL x (List.mem_of_mem_take hx)) (by simp only [bigN]; omega) wA]
    simp only [Option.bind_some, if_true, known_at]
theorem HostNumbers : ∃ k, law13_HostNumbers.f k = some true := by
  obtain ⟨j, hj⟩ : ∃ j : Nat, j + 60 = 1000000000000001 := ⟨999999999999941, by decide⟩
  refine ⟨j + 60 + 1, nums j fun l a h1 h2 h3 h4 => ?_⟩
  rw [hj]
  exact HostPlays h1 h2 h3 h4
end Go.R1HN
