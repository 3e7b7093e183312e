/- Ints: Do, as the document has it; Is; Sign. -/
import Derived.Test.YtoajmaedpaalkaaDoorGIArith
set_option linter.all false
namespace Go.R2D
open Go Go.Ev
set_option maxRecDepth 100000

theorem yes_ok (k : Nat) (b : Bool) : ref1_yes.f (k + 1) b = some (if b = true then 1 else 0) := by
  simp only [ref1_yes.f]; cases b <;> rfl
/-! comparing -/
theorem cmp_same {n : Int} (k : Nat) (a b : Int) (i : Nat) (hi : i < 10) : ∃ r, ints_compared.f (k + 4) ((i + 1 : Nat) : Int) a b n = some r ∧ ref1_compare.f (k + 4) (i : Int) a b n = some (if r = true then 1 else 0) := by
  simp only [ints_compared.f, ref1_compare.f, sign_ok, sign3_ok, Option.bind_some, yes_ok]
  generalize sgn (cl n) a = x
  generalize sgn (cl n) b = y
  match i, hi with

  | 0, _ => exact ⟨_, rfl, rfl⟩
  | 1, _ => exact ⟨_, rfl, rfl⟩
  | 2, _ => exact ⟨_, rfl, rfl⟩
  | 3, _ => exact ⟨_, rfl, rfl⟩
  | 4, _ => exact ⟨_, rfl, rfl⟩
  | 5, _ => exact ⟨_, rfl, rfl⟩
  | 6, _ => exact ⟨_, rfl, rfl⟩
  | 7, _ => exact ⟨_, rfl, rfl⟩
  | 8, _ => exact ⟨_, rfl, rfl⟩
  | 9, _ => exact ⟨_, rfl, rfl⟩
theorem ref_cmp_lo (k : Nat) {op : Int} (a b : Int) (h1 : 70 ≤ op) (h2 : op ≤ 79) : ref1_Do.f (k + 1) op a b = (ref1_compare.f k (op - 70) (a % 4294967296) (b % 4294967296) 32).bind fun r => some (r, 0) := by
  simp only [ref1_Do.f, and_low]
  rw [if_neg (by omega), if_pos (by omega), decide_eq_true (by omega), isub64 (a := op) (b := 70) (by omega) (by omega)]
  rfl
theorem ref_cmp_hi (k : Nat) {op : Int} (a b : Int) (h1 : 81 ≤ op) (h2 : op ≤ 90) : ref1_Do.f (k + 1) op a b = (ref1_compare.f k (op - 81) a b 64).bind fun r => some (r, 0) := by
  simp only [ref1_Do.f, and_low]
  rw [isub64 (a := op) (b := 81) (by omega) (by omega)]
  simp (disch := omega) only [segB, if_neg, if_pos, decide_eq_true, decide_eq_false, Bool.false_eq_true, if_false, if_true]
theorem ref_lo (k : Nat) {op : Int} (a b : Int) (h1 : 103 ≤ op) (h2 : op ≤ 120) : ref1_Do.f (k + 1) op a b = (ref1_arith.f k (op - 103) (a % 4294967296) (b % 4294967296) 32).bind fun p => some (p.1 % 4294967296, p.2) := by
  simp only [ref1_Do.f, and_low]
  rw [isub64 (a := op) (b := 103) (by omega) (by omega)]
  simp (disch := omega) only [segB, if_neg, if_pos, decide_eq_true, decide_eq_false, Bool.false_eq_true, if_false, if_true]
theorem ref_hi (k : Nat) {op : Int} (a b : Int) (h1 : 121 ≤ op) (h2 : op ≤ 138) : ref1_Do.f (k + 1) op a b = ref1_arith.f k (op - 121) a b 64 := by
  rw [← pair_id (ref1_arith.f k (op - 121) a b 64)]
  simp only [ref1_Do.f, and_low]
  rw [isub64 (a := op) (b := 121) (by omega) (by omega)]
  simp (disch := omega) only [segB, if_neg, if_pos, decide_eq_true, decide_eq_false, Bool.false_eq_true, if_false, if_true]
theorem none_ref (k : Nat) {op : Int} (a b : Int) (h : op < 69 ∨ (91 ≤ op ∧ op ≤ 102) ∨ (139 ≤ op ∧ op ≤ 166) ∨ (168 ≤ op ∧ op ≤ 171) ∨ (174 ≤ op ∧ op ≤ 191) ∨ 197 ≤ op) : ref1_Do.f (k + 1) op a b = some (0, 0) := by
  simp only [ref1_Do.f]
  rcases h with h | h | h | h | h | h <;> simp (disch := omega) only [segB, if_neg, if_pos, decide_eq_true, decide_eq_false, Bool.false_eq_true, if_false, if_true]
theorem none_do (k : Nat) {op : Int} (a b : Int) (h : op < 69 ∨ (91 ≤ op ∧ op ≤ 102) ∨ (139 ≤ op ∧ op ≤ 166) ∨ (168 ≤ op ∧ op ≤ 171) ∨ (174 ≤ op ∧ op ≤ 191) ∨ 197 ≤ op) : ints_Do.f (k + 6) op a b = some (0, 0) := by
  simp only [ints_Do.f, cut_ok, within_ok, Option.bind_some]
  rcases h with h | h | h | h | h | h <;> simp (disch := omega) only [segB, if_neg, if_pos, decide_eq_true, decide_eq_false, Bool.false_eq_true, if_false, if_true]
/-- Both answer the same. -/
def Both (j : Nat) (op a b : Int) : Prop := ∃ v, ints_Do.f (j + 90) op a b = some v ∧ ref1_Do.f (j + 90) op a b = some v
theorem both_cmp_lo (j : Nat) {op : Int} (a b : Int) (h1 : 70 ≤ op) (h2 : op ≤ 79) : Both j op a b := by
  obtain ⟨r, e, f⟩ := cmp_same (n := 32) (j + 85) (a % 4294967296) (b % 4294967296) (op - 70).toNat (by omega)
  rw [show (((op - 70).toNat + 1 : Nat) : Int) = op - 69 from by omega] at e
  rw [show (((op - 70).toNat : Nat) : Int) = op - 70 from by omega] at f
  unfold Both
  rw [do_cmp_lo (j + 84) a b (by omega) h2, ref_cmp_lo (j + 89) a b h1 h2]
  rw [show j + 84 + 5 = j + 85 + 4 from rfl, e, show j + 89 = j + 85 + 4 from rfl, f]
  exact ⟨_, rfl, rfl⟩
theorem both_cmp_hi (j : Nat) {op : Int} (a b : Int) (h1 : 81 ≤ op) (h2 : op ≤ 90) : Both j op a b := by
  obtain ⟨r, e, f⟩ := cmp_same (n := 64) (j + 85) a b (op - 81).toNat (by omega)
  rw [show (((op - 81).toNat + 1 : Nat) : Int) = op - 80 from by omega] at e
  rw [show (((op - 81).toNat : Nat) : Int) = op - 81 from by omega] at f
  unfold Both
  rw [do_cmp_hi (j + 84) a b (by omega) h2, ref_cmp_hi (j + 89) a b h1 h2]
  rw [show j + 84 + 5 = j + 85 + 4 from rfl, e, show j + 89 = j + 85 + 4 from rfl, f]
  exact ⟨_, rfl, rfl⟩
theorem both_69 (j : Nat) (a b : Int) : Both j 69 a b := by
  have e : ints_compared.f (j + 89) 0 (a % 4294967296) (b % 4294967296) 32 = (ints_Sign.f (j + 88) (a % 4294967296) 32).bind fun _ => (ints_Sign.f (j + 88) (b % 4294967296) 32).bind fun _ => some (decide (a % 4294967296 = 0)) := by kernel_rfl
  have f : ref1_Do.f (j + 90) 69 a b = (ref1_yes.f (j + 89) (decide ((iand .u64 a 4294967295) = 0))).bind fun r => some (r, 0) := by kernel_rfl
  unfold Both
  rw [do_cmp_lo (j + 84) a b (by decide) (by decide), f, and_low, show (69 : Int) - 69 = 0 from rfl, show j + 84 + 5 = j + 89 from rfl, e, sign_ok, sign_ok, yes_ok]
  exact ⟨_, rfl, rfl⟩
theorem both_80 (j : Nat) (a b : Int) : Both j 80 a b := by
  have e : ints_compared.f (j + 89) 0 a b 64 = (ints_Sign.f (j + 88) a 64).bind fun _ => (ints_Sign.f (j + 88) b 64).bind fun _ => some (decide (a = 0)) := by kernel_rfl
  have f : ref1_Do.f (j + 90) 80 a b = (ref1_yes.f (j + 89) (decide (a = 0))).bind fun r => some (r, 0) := by kernel_rfl
  unfold Both
  rw [do_cmp_hi (j + 84) a b (by decide) (by decide), f, show (80 : Int) - 80 = 0 from rfl, show j + 84 + 5 = j + 89 from rfl, e, sign_ok, sign_ok, yes_ok]
  exact ⟨_, rfl, rfl⟩
theorem lo_of (j : Nat) {op : Int} {a b : Int} (h1 : 103 ≤ op) (h2 : op ≤ 120) (h : ∃ v, ints_reckoned.f (j + 89) (op - 103) (a % 4294967296) (b % 4294967296) 32 = some v ∧ ref1_arith.f (j + 89) (op - 103) (a % 4294967296) (b % 4294967296) 32 = some v) : Both j op a b := by
  obtain ⟨v, e, f⟩ := h
  unfold Both
  rw [do_lo (j + 84) a b h1 h2, ref_lo (j + 89) a b h1 h2, show j + 84 + 5 = j + 89 from rfl, e, f]
  exact ⟨_, rfl, rfl⟩
theorem hi_of (j : Nat) {op : Int} {a b : Int} (h1 : 121 ≤ op) (h2 : op ≤ 138) (h : ∃ v, ints_reckoned.f (j + 89) (op - 121) a b 64 = some v ∧ ref1_arith.f (j + 89) (op - 121) a b 64 = some v) : Both j op a b := by
  obtain ⟨v, e, f⟩ := h
  unfold Both
  rw [do_hi (j + 84) a b h1 h2, ref_hi (j + 89) a b h1 h2, show j + 84 + 5 = j + 89 from rfl, e, f]
  exact ⟨_, rfl, rfl⟩
theorem both_lo (j : Nat) {op : Int} (a b : Int) (h1 : 103 ≤ op) (h2 : op ≤ 120) : Both j op a b := by
  obtain ⟨a0, a1⟩ := low_range a
  obtain ⟨b0, b1⟩ := low_range b
  have key : ∀ i : Nat, i < 18 → op = 103 + (i : Int) → Both j op a b := by
    intro i hi he
    subst he
    match i, hi with
    | 0, _ => exact lo_of j (by decide) (by decide) (as32_0 (j + 9) a0 a1)
    | 1, _ => exact lo_of j (by decide) (by decide) (as32_1 (j + 9) a0 a1)
    | 2, _ => exact lo_of j (by decide) (by decide) (as32_2 (j + 9) a0 a1)
    | 3, _ => exact lo_of j (by decide) (by decide) (as32_3 (j + 9) _ _)
    | 4, _ => exact lo_of j (by decide) (by decide) (as32_4 (j + 9) _ _)
    | 5, _ => exact lo_of j (by decide) (by decide) (as32_5 (j + 9) _ _)
    | 6, _ => exact lo_of j (by decide) (by decide) (as32_6 (j + 9) b0 b1)
    | 7, _ => exact lo_of j (by decide) (by decide) (as32_7 (j + 9) b0 b1)
    | 8, _ => exact lo_of j (by decide) (by decide) (as32_8 (j + 9) b0 b1)
    | 9, _ => exact lo_of j (by decide) (by decide) (as32_9 (j + 9) b0 b1)
    | 10, _ => exact lo_of j (by decide) (by decide) (as32_10 (j + 9) _ _)
    | 11, _ => exact lo_of j (by decide) (by decide) (as32_11 (j + 9) _ _)
    | 12, _ => exact lo_of j (by decide) (by decide) (as32_12 (j + 9) _ _)
    | 13, _ => exact lo_of j (by decide) (by decide) (as32_13 (j + 9) b0)
    | 14, _ => exact lo_of j (by decide) (by decide) (as32_14 (j + 9) b0)
    | 15, _ => exact lo_of j (by decide) (by decide) (as32_15 (j + 9) b0)
    | 16, _ => exact lo_of j (by decide) (by decide) (as32_16 (j + 9) a0 a1 b0)
    | 17, _ =>
      obtain ⟨v, w, e, f, g, _⟩ := as32_17 (j + 9) a0 a1 b0
      unfold Both
      rw [do_lo (j + 84) a b h1 h2, ref_lo (j + 89) a b h1 h2]
      refine ⟨(v % 4294967296, 0), ?_, ?_⟩
      · have e' : ints_reckoned.f (j + 84 + 5) (103 + ((17 : Nat) : Int) - 103) (a % 4294967296) (b % 4294967296) 32 = some (v, 0) := e
        rw [e']; rfl
      · have f' : ref1_arith.f (j + 89) (103 + ((17 : Nat) : Int) - 103) (a % 4294967296) (b % 4294967296) 32 = some (w, 0) := f
        rw [f', g]; rfl
    | n + 18, hi => exact absurd hi (by omega)
  exact key (op - 103).toNat (by omega) (by omega)
theorem both_hi (j : Nat) {op a b : Int} (a0 : 0 ≤ a) (a1 : a < 18446744073709551616) (b0 : 0 ≤ b) (b1 : b < 18446744073709551616) (h1 : 121 ≤ op) (h2 : op ≤ 138) : Both j op a b := by
  have key : ∀ i : Nat, i < 18 → op = 121 + (i : Int) → Both j op a b := by
    intro i hi he
    subst he
    match i, hi with
    | 0, _ => exact hi_of j (by decide) (by decide) (as64_0 (j + 9) a0 a1)
    | 1, _ => exact hi_of j (by decide) (by decide) (as64_1 (j + 9) a0 a1)
    | 2, _ => exact hi_of j (by decide) (by decide) (as64_2 (j + 9) a0 a1)
    | 3, _ => exact hi_of j (by decide) (by decide) (as64_3 (j + 9) _ _)
    | 4, _ => exact hi_of j (by decide) (by decide) (as64_4 (j + 9) _ _)
    | 5, _ => exact hi_of j (by decide) (by decide) (as64_5 (j + 9) _ _)
    | 6, _ => exact hi_of j (by decide) (by decide) (as64_6 (j + 9) b0 b1)
    | 7, _ => exact hi_of j (by decide) (by decide) (as64_7 (j + 9) b0 b1)
    | 8, _ => exact hi_of j (by decide) (by decide) (as64_8 (j + 9) b0 b1)
    | 9, _ => exact hi_of j (by decide) (by decide) (as64_9 (j + 9) b0 b1)
    | 10, _ => exact hi_of j (by decide) (by decide) (as64_10 (j + 9) _ _)
    | 11, _ => exact hi_of j (by decide) (by decide) (as64_11 (j + 9) _ _)
    | 12, _ => exact hi_of j (by decide) (by decide) (as64_12 (j + 9) _ _)
    | 13, _ => exact hi_of j (by decide) (by decide) (as64_13 (j + 9) b0)
    | 14, _ => exact hi_of j (by decide) (by decide) (as64_14 (j + 9) b0)
    | 15, _ => exact hi_of j (by decide) (by decide) (as64_15 (j + 9) b0)
    | 16, _ => exact hi_of j (by decide) (by decide) (as64_16 (j + 9) a0 a1 b0)
    | 17, _ =>
      obtain ⟨v, w, e, f, _, g⟩ := as64_17 (j + 9) a0 a1 b0
      rw [← g rfl] at f
      exact hi_of j (by decide) (by decide) ⟨_, e, f⟩
    | n + 18, hi => exact absurd hi (by omega)
  exact key (op - 121).toNat (by omega) (by omega)
/-! the others -/
theorem both_167 (j : Nat) (a b : Int) : Both j 167 a b := by
  have f : ref1_Do.f (j + 90) 167 a b = some (iand .u64 a 4294967295, 0) := by kernel_rfl
  unfold Both
  rw [f, and_low]
  exact ⟨_, do_167 (j + 84) a b, rfl⟩
theorem both_173 (j : Nat) (a b : Int) : Both j 173 a b := by
  have f : ref1_Do.f (j + 90) 173 a b = some (iand .u64 a 4294967295, 0) := by kernel_rfl
  unfold Both
  rw [f, and_low]
  exact ⟨_, do_173 (j + 84) a b, rfl⟩
theorem both_172 (j : Nat) (a b : Int) : Both j 172 a b := by
  have f : ref1_Do.f (j + 90) 172 a b = (ref1_Sign.f (j + 89) a 32).bind fun r => some (icv .u64 r, 0) := by kernel_rfl
  unfold Both
  rw [f, sign3_ok, cl32]
  exact ⟨_, do_172 (j + 84) a b, rfl⟩
theorem both_192 (j : Nat) (a b : Int) : Both j 192 a b := by
  have f : ref1_Do.f (j + 90) 192 a b = (ref1_Sign.f (j + 89) a 8).bind fun r => some (iand .u64 (icv .u64 r) 4294967295, 0) := by kernel_rfl
  have e : ints_Do.f (j + 90) 192 a b = ((ints_Sign.f (j + 88) a 8).bind fun r => (ints_cut.f (j + 88) (icv .u64 r) 32).bind fun q => some q).bind fun r => some (r, 0) := by kernel_rfl
  unfold Both
  rw [f, e, sign3_ok, sign_ok]
  simp only [Option.bind_some, cut_ok, and_low]
  exact ⟨_, rfl, rfl⟩
theorem both_193 (j : Nat) (a b : Int) : Both j 193 a b := by
  have f : ref1_Do.f (j + 90) 193 a b = (ref1_Sign.f (j + 89) a 16).bind fun r => some (iand .u64 (icv .u64 r) 4294967295, 0) := by kernel_rfl
  have e : ints_Do.f (j + 90) 193 a b = ((ints_Sign.f (j + 88) a 16).bind fun r => (ints_cut.f (j + 88) (icv .u64 r) 32).bind fun q => some q).bind fun r => some (r, 0) := by kernel_rfl
  unfold Both
  rw [f, e, sign3_ok, sign_ok]
  simp only [Option.bind_some, cut_ok, and_low]
  exact ⟨_, rfl, rfl⟩
theorem both_194 (j : Nat) (a b : Int) : Both j 194 a b := by
  have f : ref1_Do.f (j + 90) 194 a b = (ref1_Sign.f (j + 89) a 8).bind fun r => some (icv .u64 r, 0) := by kernel_rfl
  have e : ints_Do.f (j + 90) 194 a b = (ints_Sign.f (j + 88) a 8).bind fun r => some (icv .u64 r, 0) := by kernel_rfl
  unfold Both
  rw [f, e, sign3_ok, sign_ok]
  exact ⟨_, rfl, rfl⟩
theorem both_195 (j : Nat) (a b : Int) : Both j 195 a b := by
  have f : ref1_Do.f (j + 90) 195 a b = (ref1_Sign.f (j + 89) a 16).bind fun r => some (icv .u64 r, 0) := by kernel_rfl
  have e : ints_Do.f (j + 90) 195 a b = (ints_Sign.f (j + 88) a 16).bind fun r => some (icv .u64 r, 0) := by kernel_rfl
  unfold Both
  rw [f, e, sign3_ok, sign_ok]
  exact ⟨_, rfl, rfl⟩
theorem both_196 (j : Nat) (a b : Int) : Both j 196 a b := by
  have f : ref1_Do.f (j + 90) 196 a b = (ref1_Sign.f (j + 89) a 32).bind fun r => some (icv .u64 r, 0) := by kernel_rfl
  have e : ints_Do.f (j + 90) 196 a b = (ints_Sign.f (j + 88) a 32).bind fun r => some (icv .u64 r, 0) := by kernel_rfl
  unfold Both
  rw [f, e, sign3_ok, sign_ok]
  exact ⟨_, rfl, rfl⟩
theorem both_ok (j : Nat) (op : Int) {a b : Int} (a0 : 0 ≤ a) (a1 : a < 18446744073709551616) (b0 : 0 ≤ b) (b1 : b < 18446744073709551616) : Both j op a b := by
  by_cases h : op < 69 ∨ (91 ≤ op ∧ op ≤ 102) ∨ (139 ≤ op ∧ op ≤ 166) ∨ (168 ≤ op ∧ op ≤ 171) ∨ (174 ≤ op ∧ op ≤ 191) ∨ 197 ≤ op
  · exact ⟨_, none_do (j + 84) a b h, none_ref (j + 89) a b h⟩
  · by_cases h1 : op = 69
    · subst h1; exact both_69 j a b
    by_cases h2 : op ≤ 79
    · exact both_cmp_lo j a b (by omega) h2
    by_cases h3 : op = 80
    · subst h3; exact both_80 j a b
    by_cases h4 : op ≤ 90
    · exact both_cmp_hi j a b (by omega) h4
    by_cases h5 : op ≤ 120
    · exact both_lo j a b (by omega) h5
    by_cases h6 : op ≤ 138
    · exact both_hi j a0 a1 b0 b1 (by omega) h6
    have h7 : op = 167 ∨ op = 172 ∨ op = 173 ∨ op = 192 ∨ op = 193 ∨ op = 194 ∨ op = 195 ∨ op = 196 := by omega
    rcases h7 with rfl | rfl | rfl | rfl | rfl | rfl | rfl | rfl
    · exact both_167 j a b
    · exact both_172 j a b
    · exact both_173 j a b
    · exact both_192 j a b
    · exact both_193 j a b
    · exact both_194 j a b
    · exact both_195 j a b
    · exact both_196 j a b
theorem same_ok (j : Nat) (op : Int) {a b : Int} (a0 : 0 ≤ a) (a1 : a < 18446744073709551616) (b0 : 0 ≤ b) (b1 : b < 18446744073709551616) : law1_same.f (j + 91) op a b = some true := by
  obtain ⟨v, e, f⟩ := both_ok j op a0 a1 b0 b1
  simp only [law1_same.f]
  rw [e, f]
  simp
theorem is_ok (k : Nat) (op : Int) : ∃ v, ints_Is.f (k + 2) op = some v ∧ ref1_Is.f (k + 2) op = some v := by
  by_cases h : 69 ≤ op ∧ op ≤ 90 ∨ 103 ≤ op ∧ op ≤ 138 ∨ op = 167 ∨ op = 172 ∨ op = 173 ∨ 192 ≤ op ∧ op ≤ 196
  · refine ⟨true, ?_, ?_⟩
    · simp only [ints_Is.f, within_ok, Option.bind_some]
      rcases h with h | h | h | h | h | h <;> simp (disch := omega) only [if_neg, if_pos, decide_eq_true, decide_eq_false, Bool.false_eq_true, if_false, if_true]
    · simp only [ref1_Is.f]
      rcases h with h | h | h | h | h | h <;> simp (disch := omega) only [if_neg, if_pos, decide_eq_true, decide_eq_false, Bool.false_eq_true, if_false, if_true]
  · have h' : op < 69 ∨ (91 ≤ op ∧ op ≤ 102) ∨ (139 ≤ op ∧ op ≤ 166) ∨ (168 ≤ op ∧ op ≤ 171) ∨ (174 ≤ op ∧ op ≤ 191) ∨ 197 ≤ op := by omega
    refine ⟨false, ?_, ?_⟩
    · simp only [ints_Is.f, within_ok, Option.bind_some]
      rcases h' with h | h | h | h | h | h <;> simp (disch := omega) only [if_neg, if_pos, decide_eq_true, decide_eq_false, Bool.false_eq_true, if_false, if_true]
    · simp only [ref1_Is.f]
      rcases h' with h | h | h | h | h | h <;> simp (disch := omega) only [if_neg, if_pos, decide_eq_true, decide_eq_false, Bool.false_eq_true, if_false, if_true]
end Go.R2D
