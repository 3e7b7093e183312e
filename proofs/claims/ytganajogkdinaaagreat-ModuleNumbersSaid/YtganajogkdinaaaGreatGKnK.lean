import Derived.Test.YtganajogkdinaaaGreatGKc
import Derived.Test.YtganajogkdinaaaGreatGCon
import Derived.Test.YtganajogkdinaaaGreatEvInt
set_option linter.all false
namespace Go.R4
open Go.Proofs Go.Ev
set_option maxRecDepth 100000
def Far (op : Int) : Prop := op < 0 ∨ (197 ≤ op ∧ op < 64514) ∨ 64523 < op
theorem far_within {op a b : Int} (h : op < a ∨ b < op) (k : Nat) : ints_within.f (k + 1) op a b = some false := by
 simp only [ints_within.f]
 by_cases h1 : op ≥ a
 ·rw [if_pos h1, decide_eq_false (by omega)]
 ·rw [if_neg h1]
theorem far_ints {op : Int} (h : Far op) (k : Nat) : ints_Is.f (k + 2) op = some false := by
 unfold Far at h
 simp only [ints_Is.f]
 rw [far_within (by omega), far_within (by omega), far_within (by omega)]
 simp (disch := omega) only [Option.bind_some, if_neg, Bool.false_eq_true, if_false]
theorem far_floats {op : Int} (h : Far op) (k : Nat) : floats_Is.f (k + 1) op = some false := by
 unfold Far at h
 simp only [floats_Is.f]
 rcases h with h | h | h <;> simp (disch := omega) only [segB, if_neg, if_pos, decide_eq_false, decide_eq_true, Bool.false_eq_true, if_false]
theorem far_ref1 {op : Int} (h : Far op) (k : Nat) : ref1_Is.f (k + 1) op = some false := by
 unfold Far at h
 simp only [ref1_Is.f]
 rcases h with h | h | h <;> simp (disch := omega) only [segB, if_neg, if_pos, decide_eq_false, decide_eq_true, Bool.false_eq_true, if_false]
theorem far_ref2 {op : Int} (h : Far op) (k : Nat) : ref2_Is.f (k + 1) op = some false := by
 unfold Far at h
 simp only [ref2_Is.f]
 rcases h with h | h | h <;> simp (disch := omega) only [segB, if_neg, if_pos, decide_eq_false, decide_eq_true, Bool.false_eq_true, if_false]
theorem far_num3 {op : Int} (h : Far op) (k : Nat) : ref3_Numeric.f (k + 3) op = some (false, [], []) := by
 simp only [ref3_Numeric.f]
 rw [far_ref1 h, far_ref2 h]
 rfl
theorem far_acc {op : Int} (h : Far op) (k : Nat) : ops_Access.f (k + 1) op = some (0, 0, false, false) := by
 unfold Far at h
 simp only [ops_Access.f]
 simp (disch := omega) only [segB, if_neg, Bool.false_eq_true, if_false]
theorem far_acc3 {op : Int} (h : Far op) (k : Nat) : ref3_Access.f (k + 1) op = some (0, 0, false) := by
 unfold Far at h
 simp only [ref3_Access.f]
 simp (disch := omega) only [segB, if_neg, if_pos, Bool.false_eq_true, if_false, if_true, Int.lt_irrefl]
theorem far_con {op : Int} (h : Far op) (k : Nat) : ops_Const.f (k + 1) op = some (0, false) := by
 unfold Far at h
 simp only [ops_Const.f]
 simp (disch := omega) only [if_neg]
theorem far_con3 {op : Int} (h : Far op) (k : Nat) : ref3_Const.f (k + 1) op = some 0 := by
 unfold Far at h
 simp only [ref3_Const.f]
 simp (disch := omega) only [if_neg]
theorem far_opens {op : Int} (h : Far op) (k : Nat) : ops_Opens.f (k + 1) op = some false := by
 unfold Far at h
 simp only [ops_Opens.f]
 rcases h with h | h | h <;> simp (disch := omega) only [if_neg, if_pos, decide_eq_false]
theorem far_known {op : Int} (h : Far op) (k : Nat) : ops_Known.f (k + 3) op = some false := by
 have h' := h
 unfold Far at h'
 simp only [ops_Known.f]
 rw [far_acc h, far_con h, far_ints h, far_floats h, far_opens h]
 simp (disch := omega) only [segB, if_neg, Bool.false_eq_true, if_false, Option.bind_some]
theorem far_known3 {op : Int} (h : Far op) (k : Nat) : ref3_Known.f (k + 4) op = some false := by
 have h' := h
 unfold Far at h'
 simp only [ref3_Known.f]
 rw [far_num3 h, far_acc3 h, far_con3 h]
 rcases h' with h | h | h <;> simp (disch := omega) only [segB, if_neg, if_pos, decide_eq_false, decide_eq_true, Bool.false_eq_true, if_false, if_true, Option.bind_some]
theorem near_cases {op : Int} (h : ¬ Far op) : (∃ n : Nat, n < 197 ∧ op = (n : Int)) ∨ ∃ n : Nat, n < 10 ∧ op = ((n + 64514 : Nat) : Int) := by
 unfold Far at h
 rcases Int.lt_or_le op 197 with h1 | h1
 ·exact .inl ⟨op.toNat, by omega, by omega⟩
 ·exact .inr ⟨op.toNat - 64514, by omega, by omega⟩
theorem near_all {f : Int → Bool} (h1 : (List.range 197).all (fun n => f (n : Int)) = true) (h2 : (List.range 10).all (fun n => f ((n + 64514 : Nat) : Int)) = true) {op : Int} (h : ¬ Far op) : f op = true := by
 rcases near_cases h with ⟨n, hn, rfl⟩ | ⟨n, hn, rfl⟩
 ·exact List.all_eq_true.1 h1 n (by simpa using hn)
 ·exact List.all_eq_true.1 h2 n (by simpa using hn)
def isT : Option Bool → Bool
 | some b => b
 | none => false
def kn (op : Int) : Bool := isT (ref3_Known.f 12 op)
theorem kn_near1 (j : Nat) : (List.range 197).all (fun n => (ops_Known.f (j + 12) (n : Int) == some (kn (n : Int))) && (ref3_Known.f (j + 12) (n : Int) == some (kn (n : Int)))) = true := by kernel_rfl
theorem kn_near2 (j : Nat) : (List.range 10).all (fun n => (ops_Known.f (j + 12) ((n + 64514 : Nat) : Int) == some (kn ((n + 64514 : Nat) : Int))) && (ref3_Known.f (j + 12) ((n + 64514 : Nat) : Int) == some (kn ((n + 64514 : Nat) : Int)))) = true := by kernel_rfl
theorem kn_far {op : Int} (h : Far op) : kn op = false := by unfold kn; rw [far_known3 h 8]; rfl
theorem kn_ok (j : Nat) (op : Int) : ops_Known.f (j + 12) op = some (kn op) ∧ ref3_Known.f (j + 12) op = some (kn op) := by
 by_cases h : Far op
 ·rw [kn_far h]; exact ⟨far_known h _, far_known3 h _⟩
 ·have := near_all (f := fun op => (ops_Known.f (j + 12) op == some (kn op)) && (ref3_Known.f (j + 12) op == some (kn op))) (kn_near1 j) (kn_near2 j) h
  simpa using this
def acc (op : Int) : Bool := ([40, 41, 43, 44, 45, 46, 47, 48, 49, 50, 51, 52, 53, 54, 55, 57, 58, 59, 60, 61, 62] : List Int).contains op
def cls (op : Int) : Nat :=
 if 2 ≤ op ∧ op ≤ 4 then 0 else if acc op then 1 else if op = 65 then 2 else if op = 66 ∨ op = 68 then 3 else if op = 12 ∨ op = 13 then 4 else if op = 14 then 5 else if op = 16 ∨ op = 18 then 6
 else if op = 32 ∨ op = 33 ∨ op = 34 then 7 else if op = 35 ∨ op = 36 then 8 else if op = 63 ∨ op = 64 ∨ op = 64523 then 9 else if op = 64520 then 10 else if op = 64521 then 11 else if op = 64522 then 12 else 13
end Go.R4
