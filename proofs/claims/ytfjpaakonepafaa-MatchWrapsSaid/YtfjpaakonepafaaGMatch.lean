/- match.Of: of code whose blocks are whole it gives them. -/
import Derived.Test.YtfjpaakonepafaaGModX
import Derived.Test.YtfjpaakonepafaaGY
set_option linter.all false
namespace Go.R3M
open Go.Proofs Go.Ev
set_option maxRecDepth 100000

abbrev Span := match_Span
abbrev kAt : Span → Int := fun x => (match_Span.t3 x).1
theorem kAt_eq (x : Span) : kAt x = x.At := rfl
theorem get_mid' {α : Type} (a : List α) (x : α) (r : List α) {n : Nat} (h : n = a.length) : (a ++ x :: r)[n]? = some x := by
  subst h; rw [List.getElem?_append_right (Nat.le_refl _), Nat.sub_self]; rfl
/-! ### the two printed ones are one -/
theorem step_one (k : Nat) (c : List api_Inst) (i d : Int) (o e : List Span) : match_stack_step_1.f k i d c o e = match_stack_step.f k c i d o e := by
  cases k with
  | zero => rfl
  | succ k => simp only [match_stack_step_1.f, match_stack_step.f, at_if]
theorem of_one (k : Nat) (c : List api_Inst) : match_Of_1.f k c = match_Of.f k c := by
  cases k with
  | zero => rfl
  | succ k =>
    have e : match_Of_1.b5 k c = match_Of.b5 k c := by
      funext v
      obtain ⟨x, d, o, e⟩ := v
      simp only [match_Of_1.b5, match_Of.b5, step_one]
    simp only [match_Of_1.f, match_Of.f, e]
/-! ### a step -/
variable {c : List api_Inst} {i : Nat} {d : Int} {op dn : List Span} {x : api_Inst}
theorem opens_wp {o : Int} : Wp (fun k => ops_Opens.f k o) (fun x => x = decide (2 ≤ o ∧ o ≤ 4)) := by
  refine .succ ?_
  simp only [ops_Opens.f]
  refine .ite (fun h => .one ?_) (fun h => .one ?_)
  · simp [show 2 ≤ o from h]
  · simp [show ¬ 2 ≤ o from h]
theorem step_open (hx : c[i]? = some x) (ho : 2 ≤ x.Op ∧ x.Op ≤ 4) (hc : c.length ≤ 1000000) (hop : op.length ≤ 1000000) :
    Wp (fun k => match_stack_step.f k c (i : Int) d op dn) (· = (decide ((i : Int) < (c.length : Int) - 1), imax d ((op.length : Int) + 1), op ++ [⟨i, -1, -1⟩], dn)) := by
  refine .succ ?_
  simp only [match_stack_step.f]
  have hi : i < c.length := (List.getElem?_eq_some_iff.1 hx).1
  refine .bind (Q := (· = x)) ⟨x, rfl, 0, fun _ _ => by rw [at?_nat]; exact hx⟩ (fun y hy => ?_)
  subst hy
  refine .seg (Q := (· = (imax d ((op.length : Int) + 1), op ++ [⟨i, -1, -1⟩], dn))) ?_ (fun o ho => ?_)
  · refine .bind opens_wp (fun b hb => ?_)
    subst hb
    refine .pos (by rw [decide_eq_true_eq]; exact ho) (.pos (room_small (by omega) (by omega)) (.left ?_))
    rw [iadd64 (by omega) (by omega)]
  · subst ho
    exact .one (by rw [isub64 (by omega) (by omega)])
theorem step_other (hx : c[i]? = some x) (ho : ¬(2 ≤ x.Op ∧ x.Op ≤ 4)) (h5 : x.Op ≠ 5) (h11 : x.Op ≠ 11) (hc : c.length ≤ 1000000) :
    Wp (fun k => match_stack_step.f k c (i : Int) d op dn) (· = (decide ((i : Int) < (c.length : Int) - 1), d, op, dn)) := by
  refine .succ ?_
  simp only [match_stack_step.f]
  have hi : i < c.length := (List.getElem?_eq_some_iff.1 hx).1
  refine .bind (Q := (· = x)) ⟨x, rfl, 0, fun _ _ => by rw [at?_nat]; exact hx⟩ (fun y hy => ?_)
  subst hy
  refine .seg (Q := (· = (d, op, dn))) ?_ (fun o ho => ?_)
  · refine .bind opens_wp (fun b hb => ?_)
    subst hb
    refine .neg (by rw [decide_eq_true_eq]; exact ho) (.neg h5 ?_)
    refine .seg (Q := (· = false)) (.neg h11 (.left rfl)) (fun b hb => ?_)
    subst hb
    exact .neg (by decide) (.neg h11 (.left rfl))
  · subst ho
    exact .one (by rw [isub64 (by omega) (by omega)])
theorem last_idx {s : Span} (hop : (op ++ [s]).length ≤ 1000000) : isub .i64 ((op ++ [s]).length : Int) 1 = ((op.length : Nat) : Int) := by
  simp only [List.length_append, List.length_cons, List.length_nil] at hop ⊢
  rw [isub64 (by omega) (by omega)]; omega
theorem step_else {a e : Int} {y : api_Inst} (hx : c[i]? = some x) (ho : x.Op = 5) (ha0 : 0 ≤ a) (ha : c[a.toNat]? = some y) (hy : y.Op = 4) (hc : c.length ≤ 1000000) (hop : (op ++ [(⟨a, -1, e⟩ : Span)]).length ≤ 1000000) :
    Wp (fun k => match_stack_step.f k c (i : Int) d (op ++ [⟨a, -1, e⟩]) dn) (· = (decide ((i : Int) < (c.length : Int) - 1), d, op ++ [⟨a, i, e⟩], dn)) := by
  refine .succ ?_
  simp only [match_stack_step.f]
  have hi : i < c.length := (List.getElem?_eq_some_iff.1 hx).1
  refine .bind (Q := (· = x)) ⟨x, rfl, 0, fun _ _ => by rw [at?_nat]; exact hx⟩ (fun z hz => ?_)
  subst hz
  have hl := last_idx (s := (⟨a, -1, e⟩ : Span)) hop
  have hl2 : (op ++ [(⟨a, -1, e⟩ : Span)]).length = op.length + 1 := by simp
  have hg : (op ++ [(⟨a, -1, e⟩ : Span)])[((op.length : Nat) : Int).toNat]? = some ⟨a, -1, e⟩ := by rw [Int.toNat_natCast]; exact get_mid' op _ [] rfl
  rw [hl]
  refine .seg (Q := (· = (d, op ++ [⟨a, i, e⟩], dn))) ?_ (fun o ho => ?_)
  · refine .bind opens_wp (fun b hb => ?_)
    subst hb
    refine .neg (by rw [decide_eq_true_eq]; omega) (.pos ho (.neg (by omega) (.pos ⟨by omega, by omega⟩ ?_)))
    refine .bind (Q := (· = (⟨a, -1, e⟩ : Span))) ⟨_, rfl, 0, fun _ _ => hg⟩ (fun z hz => ?_)
    subst hz
    refine .bind (Q := (· = y)) ⟨y, rfl, 0, fun _ _ => by simp only [at?, if_pos ha0]; exact ha⟩ (fun z hz => ?_)
    subst hz
    refine .pos hy (.pos ⟨by omega, by omega⟩ ?_)
    refine .bind (Q := (· = (⟨a, -1, e⟩ : Span))) ⟨_, rfl, 0, fun _ _ => hg⟩ (fun z hz => ?_)
    subst hz
    refine .pos rfl (.pos ⟨by omega, by omega⟩ ?_)
    refine .bind (Q := (· = (⟨a, -1, e⟩ : Span))) ⟨_, rfl, 0, fun _ _ => hg⟩ (fun z hz => ?_)
    subst hz
    refine .left ?_
    dsimp only
    rw [Int.toNat_natCast, List.set_append_right _ _ (Nat.le_refl _), Nat.sub_self]
    rfl
  · subst ho
    exact .one (by rw [isub64 (by omega) (by omega)])
theorem step_end {s : Span} (hx : c[i]? = some x) (ho : x.Op = 11) (hc : c.length ≤ 1000000) (hop : (op ++ [s]).length ≤ 1000000) (hdn : dn.length ≤ 1000000) :
    Wp (fun k => match_stack_step.f k c (i : Int) d (op ++ [s]) dn) (· = (decide ((i : Int) < (c.length : Int) - 1), d, op, dn ++ [⟨s.At, s.Else, i⟩])) := by
  refine .succ ?_
  simp only [match_stack_step.f]
  have hi : i < c.length := (List.getElem?_eq_some_iff.1 hx).1
  refine .bind (Q := (· = x)) ⟨x, rfl, 0, fun _ _ => by rw [at?_nat]; exact hx⟩ (fun z hz => ?_)
  subst hz
  have hl := last_idx (s := s) hop
  have hl2 : (op ++ [s]).length = op.length + 1 := by simp
  have hg : (op ++ [s])[((op.length : Nat) : Int).toNat]? = some s := by rw [Int.toNat_natCast]; exact get_mid' op _ [] rfl
  rw [hl]
  refine .seg (Q := (· = (d, op, dn ++ [⟨s.At, s.Else, i⟩]))) ?_ (fun o ho => ?_)
  · refine .bind opens_wp (fun b hb => ?_)
    subst hb
    refine .neg (by rw [decide_eq_true_eq]; omega) (.neg (by omega) ?_)
    refine .seg (Q := (· = true)) (.pos ho (.left (by rw [decide_eq_true_eq]; omega))) (fun b hb => ?_)
    subst hb
    refine .pos rfl (.pos ⟨by omega, by omega⟩ ?_)
    refine .bind (Q := (· = s)) ⟨_, rfl, 0, fun _ _ => hg⟩ (fun z hz => ?_)
    subst hz
    refine .pos ⟨by omega, by omega, by omega⟩ (.pos (room_small (by omega) (by omega)) (.pos (by omega) (.left ?_)))
    rw [Int.toNat_natCast, Nat.sub_zero, List.take_append_of_le_length (Nat.le_refl _), List.take_length]
  · subst ho
    exact .one (by rw [isub64 (by omega) (by omega)])
theorem step_last (hx : c[i]? = some x) (ho : x.Op = 11) (hc : c.length ≤ 1000000) :
    Wp (fun k => match_stack_step.f k c (i : Int) d [] dn) (· = (decide ((i : Int) = (c.length : Int) - 1), d, [], dn)) := by
  refine .succ ?_
  simp only [match_stack_step.f]
  have hi : i < c.length := (List.getElem?_eq_some_iff.1 hx).1
  refine .bind (Q := (· = x)) ⟨x, rfl, 0, fun _ _ => by rw [at?_nat]; exact hx⟩ (fun z hz => ?_)
  subst hz
  refine .seg (Q := fun _ => False) ?_ (fun o ho => ho.elim)
  refine .bind opens_wp (fun b hb => ?_)
  subst hb
  refine .neg (by rw [decide_eq_true_eq]; omega) (.neg (by omega) ?_)
  refine .seg (Q := (· = false)) (.pos ho (.left (by simp))) (fun b hb => ?_)
  subst hb
  refine .neg (by decide) (.pos ho (.right ?_))
  rw [isub64 (by omega) (by omega)]
/-! ### rounds -/
abbrev Rounds (c : List api_Inst) : Nat → (Int × Int × List Span × List Span) → Option ((Int × Int × List Span × List Span) ⊕ ((Int × List Span × List Span) ⊕ (Int × List Span × List Span))) := fun k => match_Of.b5 k c
theorem round {P : (Int × List Span × List Span) ⊕ (Int × List Span × List Span) → Prop} {d' : Int} {op' dn' : List Span} (hi : i + 1 < c.length) (hc : c.length ≤ 1000000)
    (hw : Wp (fun k => match_stack_step.f k c (i : Int) d op dn) (· = (decide ((i : Int) < (c.length : Int) - 1), d', op', dn'))) (h : Lp (Rounds c) (((i + 1 : Nat) : Int), d', op', dn') P) : Lp (Rounds c) ((i : Int), d, op, dn) P := by
  refine .step ?_
  simp only [match_Of.b5]
  refine .pos (by omega) (.bind hw (fun r hr => ?_))
  subst hr
  dsimp only
  refine .neg ?_ (.left ?_)
  · rw [decide_eq_true (by omega)]; decide
  · rw [iadd64 (by omega) (by omega)]
    exact h
def shift (o : Int) (s : Span) : Span := ⟨s.At + o, if s.Else < 0 then s.Else else s.Else + o, s.End + o⟩
theorem shift_zero (s : Span) : shift 0 s = s := by
  obtain ⟨a, e, t⟩ := s
  unfold shift
  simp only [Int.add_zero]
  split <;> rfl
theorem shift_shift (o p : Int) (ho : 0 ≤ o) (s : Span) : shift p (shift o s) = shift (o + p) s := by
  obtain ⟨a, e, t⟩ := s
  unfold shift
  simp only
  by_cases h : e < 0
  · simp only [if_pos h]; rw [Int.add_assoc, Int.add_assoc]
  · rw [if_neg h, if_neg h, if_neg (by omega)]; simp only [Int.add_assoc]
/-- Blocks of a piece of code, from lo to hi. -/
structure BIn (B : List api_Inst) (lo hi : Int) (D : List Span) : Prop where
  one : ∀ s ∈ D, lo ≤ s.At ∧ s.At < s.End ∧ s.End < hi ∧ (∃ x, B[s.End.toNat]? = some x ∧ x.Op = 11) ∧ (s.Else = -1 ∨ s.At < s.Else ∧ s.Else < s.End ∧ ∃ x, B[s.At.toNat]? = some x ∧ x.Op = 4)
  two : ∀ s ∈ D, ∀ t ∈ D, s.At < t.At → (t.At < s.End → t.End < s.End) ∧ (0 ≤ s.Else → t.At < s.Else → t.End < s.Else)
  keys : (D.map kAt).Nodup
theorem BIn.nil {B : List api_Inst} {lo hi : Int} : BIn B lo hi [] := ⟨(fun _ h => by cases h), (fun _ h => by cases h), List.Pairwise.nil⟩
theorem BIn.join {B : List api_Inst} {lo m m' hi : Int} {D1 D2 : List Span} (h1 : BIn B lo m D1) (h2 : BIn B m' hi D2) (hm : m ≤ m') (hl : lo ≤ m') (hh : m ≤ hi) : BIn B lo hi (D1 ++ D2) := by
  refine ⟨fun s hs => ?_, fun s hs t ht hst => ?_, ?_⟩
  · rcases List.mem_append.1 hs with h | h
    · obtain ⟨a, b, c, d⟩ := h1.one s h; exact ⟨a, b, by omega, d⟩
    · obtain ⟨a, b, c, d⟩ := h2.one s h; exact ⟨by omega, b, c, d⟩
  · rcases List.mem_append.1 hs with h | h <;> rcases List.mem_append.1 ht with g | g
    · exact h1.two s h t g hst
    · obtain ⟨a, b, c, -, e⟩ := h1.one s h
      obtain ⟨a', b', c', -⟩ := h2.one t g
      exact ⟨fun _ => by omega, fun _ _ => by rcases e with e | ⟨-, e, -⟩ <;> omega⟩
    · obtain ⟨a, b, c, -⟩ := h2.one s h
      obtain ⟨a', b', c', -⟩ := h1.one t g
      omega
    · exact h2.two s h t g hst
  · rw [List.map_append, List.nodup_append]
    refine ⟨h1.keys, h2.keys, fun a ha b hb hab => ?_⟩
    obtain ⟨s, hs, rfl⟩ := List.mem_map.1 ha
    obtain ⟨t, ht, rfl⟩ := List.mem_map.1 hb
    obtain ⟨-, q1, q2, -⟩ := h1.one s hs
    obtain ⟨q3, -⟩ := h2.one t ht
    rw [kAt_eq, kAt_eq] at hab
    omega
theorem BIn.wrap {B : List api_Inst} {lo lo' hi' hi : Int} {D : List Span} {A : Span} (h : BIn B lo' hi' D) (h1 : lo ≤ A.At) (h2 : A.At < lo') (h3 : hi' ≤ A.End) (h4 : A.End < hi) (hAE : A.At < A.End)
    (h5 : ∃ x, B[A.End.toNat]? = some x ∧ x.Op = 11) (h6 : A.Else = -1 ∨ A.At < A.Else ∧ A.Else < A.End ∧ ∃ x, B[A.At.toNat]? = some x ∧ x.Op = 4) (h7 : 0 ≤ A.Else → ∀ t ∈ D, t.At < A.Else → t.End < A.Else) : BIn B lo hi (D ++ [A]) := by
  refine ⟨fun s hs => ?_, fun s hs t ht hst => ?_, ?_⟩
  · rcases List.mem_append.1 hs with g | g
    · obtain ⟨a, b, c, d⟩ := h.one s g; exact ⟨by omega, b, by omega, d⟩
    · rw [List.mem_singleton] at g; subst g; exact ⟨h1, hAE, h4, h5, h6⟩
  · rcases List.mem_append.1 hs with g | g <;> rcases List.mem_append.1 ht with g' | g'
    · exact h.two s g t g' hst
    · rw [List.mem_singleton] at g'; subst g'
      obtain ⟨a, -⟩ := h.one s g
      omega
    · rw [List.mem_singleton] at g; subst g
      obtain ⟨a, b, c, -⟩ := h.one t g'
      exact ⟨fun _ => by omega, fun q w => h7 q t g' w⟩
    · rw [List.mem_singleton] at g g'; subst g; subst g'; omega
  · rw [List.map_append, List.nodup_append]
    refine ⟨h.keys, by simp, fun a ha b hb hab => ?_⟩
    obtain ⟨s, hs, rfl⟩ := List.mem_map.1 ha
    simp only [List.map_cons, List.map_nil, List.mem_singleton] at hb
    subst hb
    obtain ⟨q, -⟩ := h.one s hs
    rw [kAt_eq, kAt_eq] at hab
    omega
theorem at_mid {α : Type} {pre b post : List α} {i : Int} {x : α} (h0 : 0 ≤ i) (h : b[i.toNat]? = some x) : (pre ++ b ++ post)[(i + (pre.length : Nat)).toNat]? = some x := by
  have hi : i.toNat < b.length := (List.getElem?_eq_some_iff.1 h).1
  have e : (i + (pre.length : Nat)).toNat = pre.length + i.toNat := by omega
  rw [e, List.append_assoc, List.getElem?_append_right (by omega), Nat.add_sub_cancel_left, List.getElem?_append_left hi, h]
theorem BIn.shift {b : List api_Inst} {D : List Span} (h : BIn b 0 b.length D) (pre post : List api_Inst) : BIn (pre ++ b ++ post) pre.length (pre.length + b.length) (D.map (shift pre.length)) := by
  refine ⟨fun s hs => ?_, fun s hs t ht hst => ?_, ?_⟩
  · obtain ⟨s, hs0, rfl⟩ := List.mem_map.1 hs
    obtain ⟨h1, h2, h3, ⟨x, h4, h5⟩, h6⟩ := h.one s hs0
    refine ⟨by simp only [Go.R3M.shift]; omega, by simp only [Go.R3M.shift]; omega, by simp only [Go.R3M.shift]; omega, ⟨x, at_mid (by omega) h4, h5⟩, ?_⟩
    rcases h6 with h6 | ⟨h6, h7, y, h8, h9⟩
    · left; simp only [Go.R3M.shift, h6]; rfl
    · right
      simp only [Go.R3M.shift]
      rw [if_neg (by omega)]
      exact ⟨by omega, by omega, y, at_mid (by omega) h8, h9⟩
  · obtain ⟨s, hs0, rfl⟩ := List.mem_map.1 hs
    obtain ⟨t, ht0, rfl⟩ := List.mem_map.1 ht
    simp only [Go.R3M.shift] at hst ⊢
    obtain ⟨h1, h2⟩ := h.two s hs0 t ht0 (by omega)
    refine ⟨fun q => by have := h1 (by omega); omega, fun q w => ?_⟩
    split at w
    · rename_i hneg; rw [if_pos hneg] at q; omega
    · rename_i hneg
      rw [if_neg hneg]
      have := h2 (by omega) (by omega)
      omega
  · rw [List.map_map]
    have : (kAt ∘ Go.R3M.shift pre.length) = fun s => kAt s + (pre.length : Int) := rfl
    rw [this]
    have e : (D.map fun s => kAt s + (pre.length : Int)) = (D.map kAt).map (· + (pre.length : Int)) := by rw [List.map_map]; rfl
    rw [e]
    have hk := h.keys
    rw [List.Nodup] at hk ⊢
    rw [List.pairwise_map]
    exact hk.imp fun hne q => hne (by omega)
theorem imax_ok {d m : Int} (h1 : 0 ≤ d) (h2 : d ≤ 60) (h3 : m ≤ 60) (h4 : 0 ≤ m) : 0 ≤ imax d m ∧ imax d m ≤ 60 := by
  unfold imax; split <;> omega
theorem Fine.ops {i : api_Inst} (h : Fine i) : ¬(2 ≤ i.Op ∧ i.Op ≤ 4) ∧ i.Op ≠ 5 ∧ i.Op ≠ 11 := by
  have n1 : (opsL.all fun o => decide (¬(2 ≤ o ∧ o ≤ 4) ∧ o ≠ 5 ∧ o ≠ 11)) = true := by kernel_rfl
  have n2 : (accL.all fun o => decide (¬(2 ≤ o ∧ o ≤ 4) ∧ o ≠ 5 ∧ o ≠ 11)) = true := by kernel_rfl
  cases h with
  | num h => exact of_decide_eq_true (List.all_eq_true.1 n1 _ h)
  | acc h _ _ _ _ => exact of_decide_eq_true (List.all_eq_true.1 n2 _ h)
  | bare h => dsimp only; omega
  | loc h _ _ => dsimp only; omega
  | glo h _ _ => dsimp only; omega
  | mem h _ _ => dsimp only; omega
  | call h _ _ => dsimp only; omega
  | br h _ _ => dsimp only; omega
  | _ => dsimp only; omega
/-- What a run over a piece of code leaves. -/
def Runs (b : List api_Inst) (n : Nat) (D : List Span) : Prop :=
  ∀ (c pre post : List api_Inst) (d : Int) (op dn : List Span) (P : (Int × List Span × List Span) ⊕ (Int × List Span × List Span) → Prop), c = pre ++ b ++ post → post ≠ [] → c.length ≤ 100000 → op.length + n ≤ 60 → dn.length + b.length ≤ 1000000 → 0 ≤ d → d ≤ 60 →
    (∀ d', 0 ≤ d' → d' ≤ 60 → Lp (Rounds c) (((pre.length + b.length : Nat) : Int), d', op, dn ++ D.map (shift pre.length)) P) → Lp (Rounds c) (((pre.length : Nat) : Int), d, op, dn) P
theorem post_len {α : Type} {l : List α} (h : l ≠ []) : 1 ≤ l.length := List.length_pos_iff.2 h
theorem wrap_in {b : List api_Inst} {D : List Span} (o a : Int) (b1 : BIn b 0 b.length D) : BIn (⟨o, a, 0, 0, []⟩ :: (b ++ [END])) 0 ((⟨o, a, 0, 0, []⟩ : api_Inst) :: (b ++ [END])).length (D.map (shift 1) ++ [⟨0, -1, (b.length : Int) + 1⟩]) := by
  have g := b1.shift [⟨o, a, 0, 0, []⟩] [END]
  have e : (⟨o, a, 0, 0, []⟩ :: (b ++ [END]) : List api_Inst) = [⟨o, a, 0, 0, []⟩] ++ b ++ [END] := by simp
  rw [← e] at g
  simp only [List.length_cons, List.length_nil, Nat.zero_add] at g
  refine BIn.wrap g (by dsimp only; omega) (by dsimp only; omega) (by dsimp only; omega) (by simp <;> omega) (by dsimp only; omega) ⟨END, ?_, rfl⟩ (.inl rfl) (fun h => by dsimp only at h; omega)
  dsimp only
  rw [show ((b.length : Int) + 1).toNat = b.length + 1 by omega, List.getElem?_cons_succ]
  exact get_mid' b END [] rfl
theorem wrap_runs {b : List api_Inst} {n : Nat} {D : List Span} {o a : Int} (ho : 2 ≤ o ∧ o ≤ 4) (l1 : D.length ≤ b.length) (r1 : Runs b n D) : Runs (⟨o, a, 0, 0, []⟩ :: (b ++ [END])) (n + 1) (D.map (shift 1) ++ [⟨0, -1, (b.length : Int) + 1⟩]) := by
  intro c pre post d op dn P hc hp hl hop hdn h1 h2 k
  have pl := post_len hp
  simp only [List.length_cons, List.length_append, List.length_nil] at hdn
  have hcl : c.length = pre.length + (b.length + 2) + post.length := by rw [hc]; simp <;> omega
  have hx : c[pre.length]? = some ⟨o, a, 0, 0, []⟩ := by rw [hc, List.append_assoc]; exact get_mid' pre _ _ rfl
  refine round (by omega) (by omega) (step_open hx (by dsimp only; omega) (by omega) (by omega)) ?_
  obtain ⟨m1, m2⟩ := imax_ok (m := (op.length : Int) + 1) h1 h2 (by omega) (by omega)
  have hc2 : c = (pre ++ [⟨o, a, 0, 0, []⟩]) ++ b ++ (END :: post) := by rw [hc]; simp
  have := r1 c (pre ++ [⟨o, a, 0, 0, []⟩]) (END :: post) _ (op ++ [⟨pre.length, -1, -1⟩]) dn P hc2 (by simp) hl (by simp; omega) (by omega) m1 m2 (fun d' g1 g2 => ?_)
  · simpa using this
  · have hx2 : c[pre.length + 1 + b.length]? = some END := by rw [hc2]; exact get_mid' _ END post (by simp <;> omega)
    have hl2 : (pre ++ [(⟨o, a, 0, 0, []⟩ : api_Inst)]).length = pre.length + 1 := by simp
    rw [hl2]
    refine round (i := pre.length + 1 + b.length) (by omega) (by omega) (step_end (s := ⟨pre.length, -1, -1⟩) hx2 rfl (by omega) (by simp; omega) (by simp; omega)) ?_
    have k' := k d' g1 g2
    have e1 : (D.map (shift 1) ++ [⟨0, -1, (b.length : Int) + 1⟩] : List Span).map (shift pre.length) = D.map (shift ((pre.length + 1 : Nat) : Int)) ++ [⟨pre.length, -1, ((pre.length + 1 + b.length : Nat) : Int)⟩] := by
      rw [List.map_append, List.map_map]
      congr 1
      · refine List.map_congr_left fun s _ => ?_
        simp only [Function.comp]
        rw [shift_shift _ _ (by omega)]
        congr 1
        omega
      · simp only [List.map_cons, List.map_nil, shift]
        rw [if_pos (by omega)]
        congr 2 <;> omega
    rw [e1, ← List.append_assoc] at k'
    have e2 : pre.length + ((⟨o, a, 0, 0, []⟩ : api_Inst) :: (b ++ [END])).length = pre.length + 1 + b.length + 1 := by simp; omega
    rw [e2] at k'
    exact k'
theorem Seq.blocks {n : Nat} {b : List api_Inst} (h : Seq n b) : ∃ D, BIn b 0 b.length D ∧ D.length ≤ b.length ∧ Runs b n D := by
  induction h with
  | nil => exact ⟨[], .nil, Nat.le_refl _, fun c pre post d op dn P _ _ _ _ _ h1 h2 k => by simpa using k d h1 h2⟩
  | @one n i hf =>
    refine ⟨[], .nil, Nat.zero_le _, fun c pre post d op dn P hc hp hl hop hdn h1 h2 k => ?_⟩
    obtain ⟨o1, o2, o3⟩ := hf.ops
    have pl := post_len hp
    have hcl : c.length = pre.length + 1 + post.length := by rw [hc]; simp <;> omega
    have hx : c[pre.length]? = some i := by rw [hc, List.append_assoc]; exact get_mid' pre i post rfl
    refine round (by omega) (by omega) (step_other hx o1 o2 o3 (by omega)) ?_
    simpa using k d h1 h2
  | @app n a b _ _ iha ihb =>
    obtain ⟨D1, b1, l1, r1⟩ := iha
    obtain ⟨D2, b2, l2, r2⟩ := ihb
    refine ⟨D1 ++ D2.map (shift a.length), ?_, by simp; omega, fun c pre post d op dn P hc hp hl hop hdn h1 h2 k => ?_⟩
    · have g1 := b1.shift [] b
      have g2 := b2.shift a []
      simp only [List.nil_append, List.length_nil, List.append_nil] at g1 g2
      have e1 : D1.map (shift ((0 : Nat) : Int)) = D1 := by rw [show shift ((0 : Nat) : Int) = id from funext shift_zero]; simp
      rw [e1] at g1
      refine BIn.join (m := a.length) (m' := a.length) ⟨fun s hs => ?_, g1.two, g1.keys⟩ ⟨fun s hs => ?_, g2.two, g2.keys⟩ (Int.le_refl _) (by omega) (by rw [List.length_append]; omega)
      · obtain ⟨q1, q2, q3, q4⟩ := g1.one s hs; exact ⟨by omega, q2, by omega, q4⟩
      · obtain ⟨q1, q2, q3, q4⟩ := g2.one s hs; exact ⟨by omega, q2, by rw [List.length_append]; omega, q4⟩
    · rw [List.length_append] at hdn
      refine r1 c pre (b ++ post) d op dn P (by rw [hc]; simp) (by simp [hp]) hl hop (by omega) h1 h2 (fun d' g1 g2 => ?_)
      have := r2 c (pre ++ a) post d' op (dn ++ D1.map (shift pre.length)) P (by rw [hc]; simp) hp hl hop (by simp; omega) g1 g2 (fun d'' g3 g4 => ?_)
      · simpa using this
      · have k' := k d'' g3 g4
        have e : (D2.map (shift a.length)).map (shift pre.length) = D2.map (shift (pre ++ a).length) := by
          rw [List.map_map]
          refine List.map_congr_left fun s _ => ?_
          simp only [Function.comp]
          rw [shift_shift _ _ (by omega)]
          congr 1
          simp; omega
        rw [List.map_append, e, ← List.append_assoc] at k'
        simpa [Nat.add_assoc] using k'
  | @blk n o a b ho ha1 ha2 _ ih =>
    obtain ⟨D, b1, l1, r1⟩ := ih
    exact ⟨_, wrap_in o a b1, by simp; omega, wrap_runs (by omega) l1 r1⟩
  | @ite n a b f ha1 ha2 _ _ ih1 ih2 =>
    obtain ⟨D1, b1, l1, r1⟩ := ih1
    obtain ⟨D2, b2, l2, r2⟩ := ih2
    refine ⟨D1.map (shift 1) ++ D2.map (shift ((b.length + 2 : Nat) : Int)) ++ [⟨0, (b.length : Int) + 1, (b.length : Int) + f.length + 2⟩], ?_, by simp; omega, fun c pre post d op dn P hc hp hl hop hdn h1 h2 k => ?_⟩
    · have g1 := b1.shift [⟨4, a, 0, 0, []⟩] (ELSE :: (f ++ [END]))
      have g2 := b2.shift (⟨4, a, 0, 0, []⟩ :: (b ++ [ELSE])) [END]
      have e1 : (⟨4, a, 0, 0, []⟩ :: (b ++ ELSE :: (f ++ [END])) : List api_Inst) = [⟨4, a, 0, 0, []⟩] ++ b ++ (ELSE :: (f ++ [END])) := by simp
      have e2 : (⟨4, a, 0, 0, []⟩ :: (b ++ ELSE :: (f ++ [END])) : List api_Inst) = (⟨4, a, 0, 0, []⟩ :: (b ++ [ELSE])) ++ f ++ [END] := by simp
      rw [← e1] at g1
      rw [← e2] at g2
      have ln : ((⟨4, a, 0, 0, []⟩ : api_Inst) :: (b ++ [ELSE])).length = b.length + 2 := by simp
      rw [ln] at g2
      simp only [List.length_cons, List.length_nil, Nat.zero_add] at g1
      have g := g1.join g2 (by omega) (by omega) (by omega)
      refine BIn.wrap g (by dsimp only; omega) (by dsimp only; omega) (by dsimp only; omega) (by simp; omega) (by dsimp only; omega) ⟨END, ?_, rfl⟩ (.inr ⟨by dsimp only; omega, by dsimp only; omega, _, rfl, rfl⟩) (fun _ t ht hlt => ?_)
      · dsimp only
        rw [e2, show ((b.length : Int) + f.length + 2).toNat = b.length + f.length + 2 by omega]
        exact get_mid' _ END [] (by simp <;> omega)
      · dsimp only at hlt ⊢
        rcases List.mem_append.1 ht with ht | ht
        · obtain ⟨-, -, q, -⟩ := g1.one t ht; omega
        · obtain ⟨q, -⟩ := g2.one t ht; omega
    · have pl := post_len hp
      simp only [List.length_cons, List.length_append, List.length_nil] at hdn
      have hcl : c.length = pre.length + (b.length + f.length + 3) + post.length := by rw [hc]; simp <;> omega
      have hx : c[pre.length]? = some ⟨4, a, 0, 0, []⟩ := by rw [hc, List.append_assoc]; exact get_mid' pre _ _ rfl
      refine round (by omega) (by omega) (step_open hx (by dsimp only; omega) (by omega) (by omega)) ?_
      obtain ⟨m1, m2⟩ := imax_ok (m := (op.length : Int) + 1) h1 h2 (by omega) (by omega)
      have hc2 : c = (pre ++ [⟨4, a, 0, 0, []⟩]) ++ b ++ (ELSE :: (f ++ END :: post)) := by rw [hc]; simp
      have hl2 : (pre ++ [(⟨4, a, 0, 0, []⟩ : api_Inst)]).length = pre.length + 1 := by simp
      have := r1 c (pre ++ [⟨4, a, 0, 0, []⟩]) (ELSE :: (f ++ END :: post)) _ (op ++ [⟨pre.length, -1, -1⟩]) dn P hc2 (by simp) hl (by simp; omega) (by omega) m1 m2 (fun d' g1 g2 => ?_)
      · simpa using this
      · have hx2 : c[pre.length + 1 + b.length]? = some ELSE := by rw [hc2]; exact get_mid' _ ELSE _ (by simp <;> omega)
        rw [hl2]
        refine round (i := pre.length + 1 + b.length) (by omega) (by omega) (step_else (y := ⟨4, a, 0, 0, []⟩) hx2 rfl (by omega) (by rw [Int.toNat_natCast]; exact hx) rfl (by omega) (by simp; omega)) ?_
        have hc3 : c = (pre ++ ⟨4, a, 0, 0, []⟩ :: (b ++ [ELSE])) ++ f ++ (END :: post) := by rw [hc]; simp
        have hl3 : (pre ++ (⟨4, a, 0, 0, []⟩ : api_Inst) :: (b ++ [ELSE])).length = pre.length + 1 + b.length + 1 := by simp; omega
        have := r2 c (pre ++ ⟨4, a, 0, 0, []⟩ :: (b ++ [ELSE])) (END :: post) d' (op ++ [⟨pre.length, ((pre.length + 1 + b.length : Nat) : Int), -1⟩]) (dn ++ D1.map (shift ((pre.length + 1 : Nat) : Int))) P hc3 (by simp) hl (by simp; omega) (by simp; omega) g1 g2 (fun d'' g3 g4 => ?_)
        · rw [hl3] at this
          exact this
        · have hx3 : c[pre.length + 1 + b.length + 1 + f.length]? = some END := by rw [hc3]; exact get_mid' _ END post (by simp <;> omega)
          rw [hl3]
          refine round (i := pre.length + 1 + b.length + 1 + f.length) (by omega) (by omega) (step_end (s := ⟨pre.length, ((pre.length + 1 + b.length : Nat) : Int), -1⟩) hx3 rfl (by omega) (by simp; omega) (by simp; omega)) ?_
          have k' := k d'' g3 g4
          have e1 : (D1.map (shift 1) ++ D2.map (shift ((b.length + 2 : Nat) : Int)) ++ [⟨0, (b.length : Int) + 1, (b.length : Int) + f.length + 2⟩] : List Span).map (shift pre.length) =
              D1.map (shift ((pre.length + 1 : Nat) : Int)) ++ D2.map (shift ((pre.length + 1 + b.length + 1 : Nat) : Int)) ++ [⟨pre.length, ((pre.length + 1 + b.length : Nat) : Int), ((pre.length + 1 + b.length + 1 + f.length : Nat) : Int)⟩] := by
            rw [List.map_append, List.map_append, List.map_map, List.map_map]
            congr 1
            · congr 1
              · refine List.map_congr_left fun s _ => ?_
                simp only [Function.comp]
                rw [shift_shift _ _ (by omega)]
                congr 1
                omega
              · refine List.map_congr_left fun s _ => ?_
                simp only [Function.comp]
                rw [shift_shift _ _ (by omega)]
                congr 1
                omega
            · simp only [List.map_cons, List.map_nil, shift]
              rw [if_neg (by omega)]
              congr 2 <;> omega
          rw [e1, ← List.append_assoc, ← List.append_assoc] at k'
          have e2 : pre.length + ((⟨4, a, 0, 0, []⟩ : api_Inst) :: (b ++ ELSE :: (f ++ [END]))).length = pre.length + 1 + b.length + 1 + f.length + 1 := by simp; omega
          rw [e2] at k'
          exact k'
/-! ### what match.Of gives -/
theorem of_wp {b : List api_Inst} {n : Nat} {D : List Span} (hD : BIn b 0 b.length D) (hl : D.length ≤ b.length) (hr : Runs b n D) (hn : n ≤ 60) (hb : b.length ≤ 90000) : Wp (fun k => match_Of.f k (b ++ [END])) (· = (0, isortBy kAt D)) := by
  refine .succ ?_
  simp only [match_Of.f]
  have cl : (b ++ [END]).length = b.length + 1 := by simp
  refine .neg (by omega) ?_
  refine .alt (Q := fun o => o.1 ≤ 60 ∧ o.2.2 = D) (Q2 := fun _ => False) ?_ (fun o ho => ?_) (fun o ho => ho.elim)
  · refine Lp.wp ?_
    have := hr (b ++ [END]) [] [END] 0 [] [] (Either (fun o => o.1 ≤ 60 ∧ o.2.2 = D) (fun _ => False)) (by simp) (by simp) (by omega) (by simpa using hn) (by simp; omega) (Int.le_refl _) (by decide) (fun d' h1 h2 => ?_)
    · exact this
    · have e : D.map (shift (([] : List api_Inst).length : Int)) = D := by
        rw [show shift ((([] : List api_Inst).length : Nat) : Int) = id from funext shift_zero]; simp
      rw [e, List.nil_append, List.length_nil, Nat.zero_add]
      have hx : (b ++ [END])[b.length]? = some END := get_mid' b END [] rfl
      refine .step ?_
      simp only [match_Of.b5]
      refine .pos (by omega) (.bind (step_last hx rfl (by omega)) (fun r hr => ?_))
      subst hr
      dsimp only
      refine .neg (by rw [decide_eq_true (by omega)]; decide) (.left ?_)
      refine .step ?_
      simp only [match_Of.b5]
      rw [iadd64 (by omega) (by omega)]
      exact .neg (by omega) (.right (show Either (fun o : Int × List Span × List Span => o.1 ≤ 60 ∧ o.2.2 = D) (fun _ => False) (.inl _) from ⟨h2, rfl⟩))
  · obtain ⟨d, o1, dn⟩ := o
    obtain ⟨h1, rfl⟩ := ho
    dsimp only at h1 ⊢
    refine .neg (by omega) (.bind (Q := fun _ => True) ⟨(), trivial, 1, fun k hk => ?_⟩ (fun _ _ => .one rfl))
    obtain ⟨k, rfl⟩ : ∃ j, k = j + 1 := ⟨k - 1, by omega⟩
    simp only [sortO]
    have hl' : dn.length ≤ b.length := hl
    rw [if_pos ⟨hD.keys, by omega⟩]
/-- Blocks by where they are. -/
structure Rows (b : List api_Inst) (S : List Span) : Prop where
  one : ∀ s ∈ S, 0 ≤ s.At ∧ s.At < s.End ∧ s.End < b.length ∧ (∃ x, b[s.End.toNat]? = some x ∧ x.Op = 11) ∧ (s.Else = -1 ∨ s.At < s.Else ∧ s.Else < s.End ∧ ∃ x, b[s.At.toNat]? = some x ∧ x.Op = 4)
  two : ∀ s ∈ S, ∀ t ∈ S, s.At < t.At → (t.At < s.End → t.End < s.End) ∧ (0 ≤ s.Else → t.At < s.Else → t.End < s.Else)
  inc : S.Pairwise (fun s t => s.At < t.At)
  len : S.length ≤ b.length
theorem rows_of {b : List api_Inst} {D : List Span} (h : BIn b 0 b.length D) (hl : D.length ≤ b.length) : Rows b (isortBy kAt D) := by
  have hp := isort_perm kAt D
  refine ⟨fun s hs => h.one s (hp.mem_iff.1 hs), fun s hs t ht => h.two s (hp.mem_iff.1 hs) t (hp.mem_iff.1 ht), ?_, by rw [isort_len]; exact hl⟩
  have h1 := isort_sorted kAt D
  have h2 : ((isortBy kAt D).map kAt).Nodup := (hp.map kAt).nodup_iff.2 h.keys
  rw [List.Nodup, List.pairwise_map] at h2
  refine (h1.and h2).imp ?_
  intro s t hst
  have e1 := hst.1
  have e2 := hst.2
  rw [kAt_eq, kAt_eq] at e1 e2
  omega
theorem at_end {b : List api_Inst} {i : Int} {x : api_Inst} (h0 : 0 ≤ i) (h : b[i.toNat]? = some x) : at? (b ++ [END]) i = some x := by
  unfold at?
  rw [if_pos h0, List.getElem?_append_left (List.getElem?_eq_some_iff.1 h).1, h]
theorem known7 (j : Nat) : law7_known.f (j + 60) = some true := by kernel_rfl
theorem known7_wp : Wp (fun k => law7_known.f k) (· = true) := by
  refine .at_ 60 (fun k hk => ?_) rfl
  obtain ⟨k, rfl⟩ : ∃ j, k = j + 60 := ⟨k - 60, by omega⟩
  exact known7 k
theorem inner_wp {b : List api_Inst} {S : List Span} (h : Rows b S) (hb : b.length ≤ 90000) {i : Nat} {a : Span} (ha : S[i]? = some a) : Wp (fun k => loopS (law7_MatchNested.b15 k S a) k ((i : Int) + 1)) (Either (fun _ => True) (fun _ => False)) := by
  have hi : i < S.length := (List.getElem?_eq_some_iff.1 ha).1
  have hl := h.len
  have am := List.mem_of_getElem? ha
  refine .loop (fun (n : Nat) (v : Int) => (i : Int) < v ∧ v + (n : Int) = S.length) (fun n v hv => ?_) (n := S.length - (i + 1)) ⟨by omega, by omega⟩
  simp only [law7_MatchNested.b15]
  refine .ite (fun hk => ?_) (fun _ => .right (show Either (fun _ => True) (fun _ => False) (.inl ()) from trivial))
  refine .seg (Q := fun _ => True) ?_ (fun _ _ => .left ⟨n - 1, by omega, by rw [iadd64 (by omega) (by omega)]; omega, by rw [iadd64 (by omega) (by omega)]; omega⟩)
  have hkl : v.toNat < S.length := by omega
  have gk : S[v.toNat]? = some S[v.toNat] := List.getElem?_eq_getElem hkl
  have gw : Wp (fun _ => S[v.toNat]?) (· = S[v.toNat]) := ⟨_, rfl, 0, fun _ _ => gk⟩
  have km : S[v.toNat] ∈ S := List.getElem_mem hkl
  have hlt : a.At < (S[v.toNat]).At := by
    have := List.pairwise_iff_getElem.1 h.inc i v.toNat hi hkl (by omega)
    rwa [(List.getElem?_eq_some_iff.1 ha).2] at this
  obtain ⟨t1, t2⟩ := h.two a am _ km hlt
  have b0 : (0 : Int) ≤ v ∧ v < (S.length : Int) := ⟨by omega, by omega⟩
  generalize S[v.toNat] = q at gw t1 t2 hlt
  refine .pos b0 (.bind gw (fun y hy => ?_))
  subst hy
  refine .ite (fun h1 => .pos b0 (.bind gw (fun y hy => ?_))) (fun h1 => ?_)
  · subst hy
    refine .neg (by have := t1 h1; omega) (.ite (fun h2 => .pos b0 (.bind gw (fun y hy => ?_))) (fun _ => .left trivial))
    subst hy
    refine .ite (fun h3 => .pos b0 (.bind gw (fun y hy => ?_))) (fun _ => .left trivial)
    subst hy
    exact .neg (by have := t2 h2 h3; omega) (.left trivial)
  · refine .ite (fun h2 => .pos b0 (.bind gw (fun y hy => ?_))) (fun _ => .left trivial)
    subst hy
    refine .ite (fun h3 => .pos b0 (.bind gw (fun y hy => ?_))) (fun _ => .left trivial)
    subst hy
    exact .neg (by have := t2 h2 h3; omega) (.left trivial)
theorem nested_fn {f : api_Func} {b : List api_Inst} (hf : f.Code = b ++ [END]) {S : List Span} (h : Rows b S) (hb : b.length ≤ 90000) : Wp (fun k => loopS (law7_MatchNested.b9 k f S) k (0 : Int)) (Either (fun _ => True) (fun _ => False)) := by
  have hl := h.len
  have cl : f.Code.length = b.length + 1 := by rw [hf]; simp
  refine .loop (fun (n : Nat) (v : Int) => 0 ≤ v ∧ v + (n : Int) = S.length) (fun n v hv => ?_) (n := S.length) ⟨by simp, by simp⟩
  simp only [law7_MatchNested.b9]
  refine .ite (fun hi => ?_) (fun _ => .right (show Either (fun _ => True) (fun _ => False) (.inl ()) from trivial))
  refine .pos ⟨hv.1, hi⟩ (.bind (.get (by omega)) (fun a ha => ?_))
  have am := List.mem_of_getElem? ha
  obtain ⟨g1, g2, g3, ⟨x, g4, g5⟩, g6⟩ := h.one a am
  have hil : v.toNat < S.length := by omega
  refine .seg (Q := fun _ => True) ?_ (fun _ _ => ?_)
  · have tail : Wp (fun _ => if v > 0 then if (0 : Int) ≤ isub .i64 v 1 ∧ isub .i64 v 1 < (S.length : Int) then S[(isub .i64 v 1).toNat]?.bind fun e => if e.At ≥ a.At then some (.inr (.inr (.inr ()))) else some (.inl ()) else none else some (.inl ()))
        (Either (fun _ : Unit => True) (Either (fun _ : Int => False) (Either (fun _ : Unit => True) (fun _ : Unit => False)))) := by
      refine .ite (fun h0 => ?_) (fun _ => .left trivial)
      rw [isub64 (by omega) (by omega)]
      refine .pos ⟨by omega, by omega⟩ (.bind (.get (by omega)) (fun e hee => .neg ?_ (.left trivial)))
      obtain ⟨q1, q2⟩ := List.getElem?_eq_some_iff.1 hee
      have := List.pairwise_iff_getElem.1 h.inc (v - 1).toNat v.toNat q1 hil (by omega)
      rw [q2, (List.getElem?_eq_some_iff.1 ha).2] at this
      omega
    refine .neg (by omega) (.neg (by omega) (.bind (Q := (· = x)) ⟨x, rfl, 0, fun _ _ => by rw [hf]; exact at_end (by omega) g4⟩ (fun y hy => ?_)))
    subst hy
    refine .pos g5 (.ite (fun he => ?_) (fun _ => ?_))
    · rcases g6 with g6 | ⟨g6, g7, z, g8, g9⟩
      · omega
      · refine .bind (Q := (· = z)) ⟨z, rfl, 0, fun _ _ => by rw [hf]; exact at_end (by omega) g8⟩ (fun y hy => ?_)
        subst hy
        refine .pos g9 (.neg (by omega) (.neg (by omega) ?_))
        exact tail.mono (fun r hr => by
          rcases r with r | r | r | r
          · exact trivial
          · exact hr.elim
          · exact trivial
          · exact hr.elim)
    · exact tail.mono (fun r hr => by
        rcases r with r | r | r | r
        · exact trivial
        · exact hr.elim
        · exact trivial
        · exact hr.elim)
  · have e1 : iadd .i64 v 1 = (v.toNat : Int) + 1 := by rw [iadd64 (by omega) (by omega)]; omega
    rw [e1]
    refine .alt (inner_wp h hb ha) (fun _ _ => .left ⟨n - 1, by omega, by omega, by omega⟩) (fun _ hh => hh.elim)
theorem nested_wp {l : List Int} (hl : l.length ≤ bigN) : Wp (fun k => law7_MatchNested.f k l) (· = true) := by
  refine .succ ?_
  simp only [law7_MatchNested.f]
  refine .bind (module_wp hl) (fun r hm => ?_)
  obtain ⟨T, I, G, D, F, M, E⟩ := r
  dsimp only at hm ⊢
  refine .alt (Q := fun _ => True) (Q2 := fun _ => False) ?_ (fun o _ => .bind known7_wp (fun r hr => .one hr)) (fun o ho => ho.elim)
  obtain ⟨f1, f2, f3⟩ := hm.funcs
  refine .loop (fun (n : Nat) (v : Int) => 0 ≤ v ∧ v + (n : Int) = F.length) (fun n v hv => ?_) (n := F.length) ⟨by simp, by simp⟩
  simp only [law7_MatchNested.b3]
  refine .ite (fun hi => ?_) (fun _ => .right (show Either (fun _ => True) (fun _ => False) (.inl ()) from trivial))
  refine .pos ⟨hv.1, hi⟩ (.bind (.get (by omega)) (fun f hf => ?_))
  obtain ⟨g1, g2, b, g3, g4⟩ := f3 f (List.mem_of_getElem? hf)
  have cl : f.Code.length = b.length + 1 := by rw [g3]; simp
  obtain ⟨D, d1, d2, d3⟩ := g4.blocks
  refine .bind (Q := (· = (0, isortBy kAt D))) (by rw [g3]; exact of_wp d1 d2 d3 (by omega) (by omega)) (fun r hr => ?_)
  subst hr
  dsimp only
  refine .pos rfl (.alt (nested_fn g3 (rows_of d1 d2) (by omega)) (fun _ _ => .left ⟨n - 1, by omega, by rw [iadd64 (by omega) (by omega)]; omega, by rw [iadd64 (by omega) (by omega)]; omega⟩) (fun _ hh => hh.elim))
theorem MatchNested {tape : List Int} (hl : tape.length * 8 ≤ bigN) (_ : ∀ x ∈ tape, inR .i64 x) : ∃ k, law7_MatchNested.f k tape = some true :=
  (nested_wp (by omega)).fuel
/-! ### wrapped code -/
theorem wrapped_sort {b : List api_Inst} {D : List Span} (o a : Int) (h : BIn b 0 b.length D) : isortBy kAt (D.map (shift 1) ++ [⟨0, -1, (b.length : Int) + 1⟩]) = ⟨0, -1, (b.length : Int) + 1⟩ :: (isortBy kAt D).map (shift 1) := by
  have hw := wrap_in o a h
  have p1 := isort_perm kAt (D.map (shift 1) ++ [⟨0, -1, (b.length : Int) + 1⟩])
  have p2 : (D.map (shift 1) ++ [(⟨0, -1, (b.length : Int) + 1⟩ : Span)]).Perm ((⟨0, -1, (b.length : Int) + 1⟩ : Span) :: (isortBy kAt D).map (shift 1)) :=
    (List.perm_append_comm).trans (((isort_perm kAt D).symm.map (shift 1)).cons _)
  refine sorted_one kAt (p1.trans p2) (isort_sorted _ _) ?_ ((p1.map kAt).nodup_iff.2 hw.keys)
  rw [List.pairwise_cons]
  refine ⟨fun s hs => ?_, ?_⟩
  · obtain ⟨t, ht, rfl⟩ := List.mem_map.1 hs
    obtain ⟨q, -⟩ := h.one t ((isort_perm kAt D).mem_iff.1 ht)
    rw [kAt_eq, kAt_eq]
    simp only [shift]
    omega
  · rw [List.pairwise_map]
    refine (isort_sorted kAt D).imp ?_
    intro s t hst
    rw [kAt_eq, kAt_eq] at hst ⊢
    simp only [shift]
    omega
theorem wraps_wp {l : List Int} {o : Int} (hl : l.length ≤ bigN) : Wp (fun k => law7_MatchWraps.f k l o) (· = true) := by
  refine .succ ?_
  simp only [law7_MatchWraps.f]
  refine .bind (module_wp hl) (fun r hm => ?_)
  obtain ⟨T, I, G, D, F, M, E⟩ := r
  dsimp only at hm ⊢
  refine .alt (Q := fun _ => True) (Q2 := fun _ => False) ?_ (fun o _ => .bind known7_wp (fun r hr => .one hr)) (fun o ho => ho.elim)
  obtain ⟨f1, f2, f3⟩ := hm.funcs
  refine .loop (fun (n : Nat) (v : Int) => 0 ≤ v ∧ v + (n : Int) = F.length) (fun n v hv => ?_) (n := F.length) ⟨by simp, by simp⟩
  simp only [law7_MatchWraps.b3]
  refine .ite (fun hi => ?_) (fun _ => .right (show Either (fun _ => True) (fun _ => False) (.inl ()) from trivial))
  refine .pos ⟨hv.1, hi⟩ (.bind (.get (by omega)) (fun f hf => ?_))
  obtain ⟨g1, g2, b, g3, g4⟩ := f3 f (List.mem_of_getElem? hf)
  have cl : f.Code.length = b.length + 1 := by rw [g3]; simp
  obtain ⟨D, d1, d2, d3⟩ := g4.blocks
  refine .bind (Q := (· = (0, isortBy kAt D))) (by rw [g3]; exact of_wp d1 d2 d3 (by omega) (by omega)) (fun r hr => ?_)
  subst hr
  dsimp only
  have m1 : -3 < irem .i64 o 3 ∧ irem .i64 o 3 < 3 := ⟨Int.lt_tmod_of_pos _ (by decide), Int.tmod_lt_of_pos _ (by decide)⟩
  generalize irem .i64 o 3 = m at m1
  rw [iadd64 (by omega) (by omega)]
  have m2 : 0 ≤ irem .i64 (m + 3) 3 ∧ irem .i64 (m + 3) 3 < 3 := ⟨Int.tmod_nonneg _ (by omega), Int.tmod_lt_of_pos _ (by decide)⟩
  generalize irem .i64 (m + 3) 3 = q at m2
  refine .pos m2 (.bind (.get (by simp; omega)) (fun op hop => ?_))
  have hop2 : 2 ≤ op ∧ op ≤ 4 := by
    have := List.mem_of_getElem? hop
    simp only [List.mem_cons, List.not_mem_nil, or_false] at this
    omega
  refine .pos (room_small (by omega) (by omega)) (.pos (room_small (by omega) (by omega)) (.pos (room_small (by simp; omega) (by simp; omega)) ?_))
  have ec : ([(⟨op, -1, 0, 0, []⟩ : api_Inst)] ++ (f.Code ++ [END])) = (⟨op, -1, 0, 0, []⟩ :: (b ++ [END])) ++ [END] := by rw [g3]; simp
  have w1 := wrap_in op (-1) d1
  have w2 := wrap_runs (a := -1) hop2 d2 d3
  have hS := wrapped_sort op (-1) d1
  refine .bind (Q := (· = (0, (⟨0, -1, (b.length : Int) + 1⟩ :: (isortBy kAt D).map (shift 1) : List Span)))) ?_ (fun r hr => ?_)
  · simp only [of_one]
    rw [show (api_Inst.mk 11 0 0 0 [] : api_Inst) = END from rfl, ec, ← hS]
    exact of_wp w1 (by simp; omega) w2 (by omega) (by simp; omega)
  · subst hr
    dsimp only
    have rw1 := rows_of d1 d2
    have hlen := rw1.len
    refine .pos rfl (.pos rfl (.pos (by rw [iadd64 (by omega) (by omega)]; simp) (.pos ⟨Int.le_refl _, by simp <;> omega⟩ ?_)))
    refine .bind (Q := (· = (⟨0, -1, (b.length : Int) + 1⟩ : Span))) ⟨_, rfl, 0, fun _ _ => rfl⟩ (fun s hs => ?_)
    subst hs
    refine .pos rfl (.pos ⟨Int.le_refl _, by simp <;> omega⟩ ?_)
    refine .bind (Q := (· = (⟨0, -1, (b.length : Int) + 1⟩ : Span))) ⟨_, rfl, 0, fun _ _ => rfl⟩ (fun s hs => ?_)
    subst hs
    refine .pos (by dsimp only; omega) (.pos ⟨Int.le_refl _, by simp <;> omega⟩ ?_)
    refine .bind (Q := (· = (⟨0, -1, (b.length : Int) + 1⟩ : Span))) ⟨_, rfl, 0, fun _ _ => rfl⟩ (fun s hs => ?_)
    subst hs
    refine .pos rfl (.alt (Q := fun _ => True) (Q2 := fun _ => False) ?_ (fun _ _ => .left ⟨n - 1, by omega, by rw [iadd64 (by omega) (by omega)]; omega, by rw [iadd64 (by omega) (by omega)]; omega⟩) (fun _ hh => hh.elim))
    generalize isortBy kAt D = S at rw1 hlen
    refine .loop (fun (m : Nat) (v : Int) => 0 ≤ v ∧ v + (m : Int) = S.length) (fun m v hv => ?_) (n := S.length) ⟨by simp, by simp⟩
    simp only [law7_MatchWraps.b11]
    refine .ite (fun hi => ?_) (fun _ => .right (show Either (fun _ => True) (fun _ => False) (.inl ()) from trivial))
    refine .seg (Q := fun _ => True) ?_ (fun _ _ => .left ⟨m - 1, by omega, by rw [iadd64 (by omega) (by omega)]; omega, by rw [iadd64 (by omega) (by omega)]; omega⟩)
    have hvl : v.toNat < S.length := by omega
    have gw : Wp (fun _ => S[v.toNat]?) (· = S[v.toNat]) := ⟨_, rfl, 0, fun _ _ => List.getElem?_eq_getElem hvl⟩
    have km : S[v.toNat] ∈ S := List.getElem_mem hvl
    have gs : (⟨0, -1, (b.length : Int) + 1⟩ :: S.map (shift 1) : List Span)[(v + 1).toNat]? = some (shift 1 S[v.toNat]) := by
      rw [show (v + 1).toNat = v.toNat + 1 by omega, List.getElem?_cons_succ, List.getElem?_map, List.getElem?_eq_getElem hvl]; rfl
    obtain ⟨o1, o2, o3, -, o6⟩ := rw1.one _ km
    have oe : (S[v.toNat]).Else = -1 ∨ 0 ≤ (S[v.toNat]).Else ∧ (S[v.toNat]).Else < b.length := by
      rcases o6 with o6 | ⟨o6, o7, -⟩
      · exact .inl o6
      · exact .inr ⟨by omega, by omega⟩
    have b0 : (0 : Int) ≤ v ∧ v < (S.length : Int) := ⟨by omega, by omega⟩
    generalize S[v.toNat] = q at gw gs o1 o2 o3 oe
    rw [iadd64 (by omega) (by omega)]
    refine .pos ⟨by omega, by simp <;> omega⟩ (.bind (Q := (· = shift 1 q)) ⟨_, rfl, 0, fun _ _ => gs⟩ (fun y hy => ?_))
    subst hy
    refine .pos b0 (.bind gw (fun y hy => ?_))
    subst hy
    refine .pos (by rw [iadd64 (by omega) (by omega)]; rfl) (.pos b0 (.bind gw (fun z hz => ?_)))
    subst hz
    refine .pos (by rw [iadd64 (by omega) (by omega)]; rfl) (.pos b0 (.bind gw (fun w hw => ?_)))
    subst hw
    refine .ite (fun he => .pos b0 (.bind gw (fun u hu => ?_))) (fun he => .pos b0 (.bind gw (fun u hu => ?_)))
    · subst hu
      refine .pos (by rw [iadd64 (by omega) (by omega)]; simp only [shift]; rw [if_neg (by omega)]) (.pos b0 (.bind gw (fun t ht => ?_)))
      subst ht
      exact .neg (by omega) (.left trivial)
    · subst hu
      refine .pos (by omega) (.pos ?_ (.left trivial))
      simp only [shift]
      rw [if_pos (by omega)]
      omega
theorem MatchWraps {tape : List Int} {o : Int} (hl : tape.length * 8 ≤ bigN) (_ : ∀ x ∈ tape, inR .i64 x) (_ : inR .i64 o) : ∃ k, law7_MatchWraps.f k tape o = some true :=
  (wraps_wp (by omega)).fuel
end Go.R3M
