/- match.Of beside the document's answer: for every code. -/
import Derived.Test.YtfjpaakonepafaaGV
import Derived.Test.YtfjpaakonepafaaEvPl
set_option linter.all false
namespace Go.R3M
open Go.Proofs Go.Ev
set_option maxRecDepth 100000
abbrev Span := match_Span
abbrev kAt : Span → Int := fun x => (match_Span.t3 x).1
theorem kAt_eq (x : Span) : kAt x = x.At := rfl
theorem get_mid' {α : Type} (a : List α) (x : α) (r : List α) {n : Nat} (h : n = a.length) : (a ++ x :: r)[n]? = some x := by
  subst h; rw [List.getElem?_append_right (Nat.le_refl _), Nat.sub_self]; rfl
/-! ### the two printed ones are one -/
theorem step_one (k : Nat) (c : List api_Inst) (i d : Int) (o e : List Span) : match_stack_step_1.f k i d c o e = match_stack_step.f k c i d o e := by
  cases k with
  | zero => rfl
  | succ k => simp only [match_stack_step_1.f, match_stack_step.f, at_if]
theorem of_one (k : Nat) (c : List api_Inst) : match_Of_1.f k c = match_Of.f k c := by
  cases k with
  | zero => rfl
  | succ k =>
    have e : match_Of_1.b5 k c = match_Of.b5 k c := by
      funext v
      obtain ⟨x, d, o, e⟩ := v
      simp only [match_Of_1.b5, match_Of.b5, step_one]
    simp only [match_Of_1.f, match_Of.f, e]
/-! ### a step -/
variable {c : List api_Inst} {i : Nat} {d : Int} {op dn : List Span} {x : api_Inst}
theorem opens_wp {o : Int} : Wp (fun k => ops_Opens.f k o) (fun x => x = decide (2 ≤ o ∧ o ≤ 4)) := by
  refine .succ ?_
  simp only [ops_Opens.f]
  refine .ite (fun h => .one ?_) (fun h => .one ?_)
  · simp [show 2 ≤ o from h]
  · simp [show ¬ 2 ≤ o from h]
theorem step_open (hx : c[i]? = some x) (ho : 2 ≤ x.Op ∧ x.Op ≤ 4) (hc : c.length ≤ 1000000) (hop : op.length ≤ 1000000) :
    Wp (fun k => match_stack_step.f k c (i : Int) d op dn) (· = (decide ((i : Int) < (c.length : Int) - 1), imax d ((op.length : Int) + 1), op ++ [⟨i, -1, -1⟩], dn)) := by
  refine .succ ?_
  simp only [match_stack_step.f]
  have hi : i < c.length := (List.getElem?_eq_some_iff.1 hx).1
  refine .bind (Q := (· = x)) ⟨x, rfl, 0, fun _ _ => by rw [at?_nat]; exact hx⟩ (fun y hy => ?_)
  subst hy
  refine .seg (Q := (· = (imax d ((op.length : Int) + 1), op ++ [⟨i, -1, -1⟩], dn))) ?_ (fun o ho => ?_)
  · refine .bind opens_wp (fun b hb => ?_)
    subst hb
    refine .pos (by rw [decide_eq_true_eq]; exact ho) (.pos (room_small (by omega) (by omega)) (.left ?_))
    rw [iadd64 (by omega) (by omega)]
  · subst ho
    exact .one (by rw [isub64 (by omega) (by omega)])
theorem step_other (hx : c[i]? = some x) (ho : ¬(2 ≤ x.Op ∧ x.Op ≤ 4)) (h5 : x.Op ≠ 5) (h11 : x.Op ≠ 11) (hc : c.length ≤ 1000000) :
    Wp (fun k => match_stack_step.f k c (i : Int) d op dn) (· = (decide ((i : Int) < (c.length : Int) - 1), d, op, dn)) := by
  refine .succ ?_
  simp only [match_stack_step.f]
  have hi : i < c.length := (List.getElem?_eq_some_iff.1 hx).1
  refine .bind (Q := (· = x)) ⟨x, rfl, 0, fun _ _ => by rw [at?_nat]; exact hx⟩ (fun y hy => ?_)
  subst hy
  refine .seg (Q := (· = (d, op, dn))) ?_ (fun o ho => ?_)
  · refine .bind opens_wp (fun b hb => ?_)
    subst hb
    refine .neg (by rw [decide_eq_true_eq]; exact ho) (.neg h5 ?_)
    refine .seg (Q := (· = false)) (.neg h11 (.left rfl)) (fun b hb => ?_)
    subst hb
    exact .neg (by decide) (.neg h11 (.left rfl))
  · subst ho
    exact .one (by rw [isub64 (by omega) (by omega)])
theorem last_idx {s : Span} (hop : (op ++ [s]).length ≤ 1000000) : isub .i64 ((op ++ [s]).length : Int) 1 = ((op.length : Nat) : Int) := by
  simp only [List.length_append, List.length_cons, List.length_nil] at hop ⊢
  rw [isub64 (by omega) (by omega)]; omega
theorem step_else {a e : Int} {y : api_Inst} (hx : c[i]? = some x) (ho : x.Op = 5) (ha0 : 0 ≤ a) (ha : c[a.toNat]? = some y) (hy : y.Op = 4) (hc : c.length ≤ 1000000) (hop : (op ++ [(⟨a, -1, e⟩ : Span)]).length ≤ 1000000) :
    Wp (fun k => match_stack_step.f k c (i : Int) d (op ++ [⟨a, -1, e⟩]) dn) (· = (decide ((i : Int) < (c.length : Int) - 1), d, op ++ [⟨a, i, e⟩], dn)) := by
  refine .succ ?_
  simp only [match_stack_step.f]
  have hi : i < c.length := (List.getElem?_eq_some_iff.1 hx).1
  refine .bind (Q := (· = x)) ⟨x, rfl, 0, fun _ _ => by rw [at?_nat]; exact hx⟩ (fun z hz => ?_)
  subst hz
  have hl := last_idx (s := (⟨a, -1, e⟩ : Span)) hop
  have hl2 : (op ++ [(⟨a, -1, e⟩ : Span)]).length = op.length + 1 := by simp
  have hg : (op ++ [(⟨a, -1, e⟩ : Span)])[((op.length : Nat) : Int).toNat]? = some ⟨a, -1, e⟩ := by rw [Int.toNat_natCast]; exact get_mid' op _ [] rfl
  rw [hl]
  refine .seg (Q := (· = (d, op ++ [⟨a, i, e⟩], dn))) ?_ (fun o ho => ?_)
  · refine .bind opens_wp (fun b hb => ?_)
    subst hb
    refine .neg (by rw [decide_eq_true_eq]; omega) (.pos ho (.neg (by omega) (.pos ⟨by omega, by omega⟩ ?_)))
    refine .bind (Q := (· = (⟨a, -1, e⟩ : Span))) ⟨_, rfl, 0, fun _ _ => hg⟩ (fun z hz => ?_)
    subst hz
    refine .bind (Q := (· = y)) ⟨y, rfl, 0, fun _ _ => by simp only [at?, if_pos ha0]; exact ha⟩ (fun z hz => ?_)
    subst hz
    refine .pos hy (.pos ⟨by omega, by omega⟩ ?_)
    refine .bind (Q := (· = (⟨a, -1, e⟩ : Span))) ⟨_, rfl, 0, fun _ _ => hg⟩ (fun z hz => ?_)
    subst hz
    refine .pos rfl (.pos ⟨by omega, by omega⟩ ?_)
    refine .bind (Q := (· = (⟨a, -1, e⟩ : Span))) ⟨_, rfl, 0, fun _ _ => hg⟩ (fun z hz => ?_)
    subst hz
    refine .left ?_
    dsimp only
    rw [Int.toNat_natCast, List.set_append_right _ _ (Nat.le_refl _), Nat.sub_self]
    rfl
  · subst ho
    exact .one (by rw [isub64 (by omega) (by omega)])
theorem step_end {s : Span} (hx : c[i]? = some x) (ho : x.Op = 11) (hc : c.length ≤ 1000000) (hop : (op ++ [s]).length ≤ 1000000) (hdn : dn.length ≤ 1000000) :
    Wp (fun k => match_stack_step.f k c (i : Int) d (op ++ [s]) dn) (· = (decide ((i : Int) < (c.length : Int) - 1), d, op, dn ++ [⟨s.At, s.Else, i⟩])) := by
  refine .succ ?_
  simp only [match_stack_step.f]
  have hi : i < c.length := (List.getElem?_eq_some_iff.1 hx).1
  refine .bind (Q := (· = x)) ⟨x, rfl, 0, fun _ _ => by rw [at?_nat]; exact hx⟩ (fun z hz => ?_)
  subst hz
  have hl := last_idx (s := s) hop
  have hl2 : (op ++ [s]).length = op.length + 1 := by simp
  have hg : (op ++ [s])[((op.length : Nat) : Int).toNat]? = some s := by rw [Int.toNat_natCast]; exact get_mid' op _ [] rfl
  rw [hl]
  refine .seg (Q := (· = (d, op, dn ++ [⟨s.At, s.Else, i⟩]))) ?_ (fun o ho => ?_)
  · refine .bind opens_wp (fun b hb => ?_)
    subst hb
    refine .neg (by rw [decide_eq_true_eq]; omega) (.neg (by omega) ?_)
    refine .seg (Q := (· = true)) (.pos ho (.left (by rw [decide_eq_true_eq]; omega))) (fun b hb => ?_)
    subst hb
    refine .pos rfl (.pos ⟨by omega, by omega⟩ ?_)
    refine .bind (Q := (· = s)) ⟨_, rfl, 0, fun _ _ => hg⟩ (fun z hz => ?_)
    subst hz
    refine .pos ⟨by omega, by omega, by omega⟩ (.pos (room_small (by omega) (by omega)) (.pos (by omega) (.left ?_)))
    rw [Int.toNat_natCast, Nat.sub_zero, List.take_append_of_le_length (Nat.le_refl _), List.take_length]
  · subst ho
    exact .one (by rw [isub64 (by omega) (by omega)])
theorem step_last (hx : c[i]? = some x) (ho : x.Op = 11) (hc : c.length ≤ 1000000) :
    Wp (fun k => match_stack_step.f k c (i : Int) d [] dn) (· = (decide ((i : Int) = (c.length : Int) - 1), d, [], dn)) := by
  refine .succ ?_
  simp only [match_stack_step.f]
  have hi : i < c.length := (List.getElem?_eq_some_iff.1 hx).1
  refine .bind (Q := (· = x)) ⟨x, rfl, 0, fun _ _ => by rw [at?_nat]; exact hx⟩ (fun z hz => ?_)
  subst hz
  refine .seg (Q := fun _ => False) ?_ (fun o ho => ho.elim)
  refine .bind opens_wp (fun b hb => ?_)
  subst hb
  refine .neg (by rw [decide_eq_true_eq]; omega) (.neg (by omega) ?_)
  refine .seg (Q := (· = false)) (.pos ho (.left (by simp))) (fun b hb => ?_)
  subst hb
  refine .neg (by decide) (.pos ho (.right ?_))
  rw [isub64 (by omega) (by omega)]
/-! ### rounds -/
abbrev Rounds (c : List api_Inst) : Nat → (Int × Int × List Span × List Span) → Option ((Int × Int × List Span × List Span) ⊕ ((Int × List Span × List Span) ⊕ (Int × List Span × List Span))) := fun k => match_Of.b5 k c
theorem round {P : (Int × List Span × List Span) ⊕ (Int × List Span × List Span) → Prop} {d' : Int} {op' dn' : List Span} (hi : i + 1 < c.length) (hc : c.length ≤ 1000000)
    (hw : Wp (fun k => match_stack_step.f k c (i : Int) d op dn) (· = (decide ((i : Int) < (c.length : Int) - 1), d', op', dn'))) (h : Lp (Rounds c) (((i + 1 : Nat) : Int), d', op', dn') P) : Lp (Rounds c) ((i : Int), d, op, dn) P := by
  refine .step ?_
  simp only [match_Of.b5]
  refine .pos (by omega) (.bind hw (fun r hr => ?_))
  subst hr
  dsimp only
  refine .neg ?_ (.left ?_)
  · rw [decide_eq_true (by omega)]; decide
  · rw [iadd64 (by omega) (by omega)]
    exact h

/-! ### the failing steps -/
theorem step_else0 (hx : c[i]? = some x) (ho : x.Op = 5) : Wp (fun k => match_stack_step.f k c (i : Int) d [] dn) (· = (false, d, [], dn)) := by
  refine .succ ?_
  simp only [match_stack_step.f]
  refine .bind (Q := (· = x)) ⟨x, rfl, 0, fun _ _ => by rw [at?_nat]; exact hx⟩ (fun z hz => ?_)
  subst hz
  refine .seg (Q := fun _ => False) ?_ (fun o ho => ho.elim)
  refine .bind opens_wp (fun b hb => ?_)
  subst hb
  exact .neg (by rw [decide_eq_true_eq]; omega) (.pos ho (.pos rfl (.right rfl)))
theorem step_elseN {s : Span} {y : api_Inst} (hx : c[i]? = some x) (ho : x.Op = 5) (ha0 : 0 ≤ s.At) (ha : c[s.At.toNat]? = some y) (hy : y.Op ≠ 4 ∨ s.Else ≠ -1) (hop : (op ++ [s]).length ≤ 1000000) : Wp (fun k => match_stack_step.f k c (i : Int) d (op ++ [s]) dn) (· = (false, d, op ++ [s], dn)) := by
  refine .succ ?_
  simp only [match_stack_step.f]
  refine .bind (Q := (· = x)) ⟨x, rfl, 0, fun _ _ => by rw [at?_nat]; exact hx⟩ (fun z hz => ?_)
  subst hz
  have hl := last_idx (s := s) hop
  have hl2 : (op ++ [s]).length = op.length + 1 := by simp
  have hg : (op ++ [s])[((op.length : Nat) : Int).toNat]? = some s := by rw [Int.toNat_natCast]; exact get_mid' op _ [] rfl
  rw [hl]
  refine .seg (Q := fun _ => False) ?_ (fun o ho => ho.elim)
  refine .bind opens_wp (fun b hb => ?_)
  subst hb
  refine .neg (by rw [decide_eq_true_eq]; omega) (.pos ho (.neg (by omega) (.pos ⟨by omega, by omega⟩ ?_)))
  refine .bind (Q := (· = s)) ⟨_, rfl, 0, fun _ _ => hg⟩ (fun z hz => ?_)
  subst hz
  refine .bind (Q := (· = y)) ⟨y, rfl, 0, fun _ _ => by simp only [at?, if_pos ha0]; exact ha⟩ (fun w hw => ?_)
  subst hw
  refine .ite (fun h4 => .pos ⟨by omega, by omega⟩ ?_) (fun _ => .right rfl)
  refine .bind (Q := (· = z)) ⟨_, rfl, 0, fun _ _ => hg⟩ (fun v hv => ?_)
  subst hv
  exact .neg (by omega) (.right rfl)
/-! ### the document's rounds -/
abbrev RS := plainsongref7_Span
abbrev RR (c : List api_Inst) : Nat → (Bool × Int × List RS × List Int) → Option ((Bool × Int × List RS × List Int) ⊕ (Unit ⊕ (Int × List RS))) := fun k => ref7_Of.b5 k c
variable {deep : Bool} {out : List RS} {st : List Int}
theorem ropens_wp {o : Int} : Wp (fun k => ref3_Opens.f k o) (fun x => x = decide (2 ≤ o ∧ o ≤ 4)) := by
  refine .succ ?_
  simp only [ref3_Opens.f]
  refine .ite (fun h => .one ?_) (fun h => .one ?_)
  · simp [show 2 ≤ o from h]
  · simp [show ¬ 2 ≤ o from h]
theorem ref_open (hx : c[i]? = some x) (ho : 2 ≤ x.Op ∧ x.Op ≤ 4) (hc : c.length ≤ 1000000) (hs : st.length ≤ 1000000) (hq : out.length ≤ 1000000) :
    Wp (fun k => RR c k (deep, (i : Int), out, st)) (· = .inl (deep || decide (st.length + 1 > 64), ((i + 1 : Nat) : Int), out ++ [⟨i, -1, -1⟩], st ++ [(out.length : Int)])) := by
  have hi : i < c.length := (List.getElem?_eq_some_iff.1 hx).1
  simp only [RR, ref7_Of.b5]
  refine .pos (by omega) (.seg (Q := (· = (deep || decide (st.length + 1 > 64), out ++ [⟨i, -1, -1⟩], st ++ [(out.length : Int)]))) ?_ (fun o ho => ?_))
  · refine .bind (Q := (· = x)) ⟨x, rfl, 0, fun _ _ => by rw [at?_nat]; exact hx⟩ (fun y hy => ?_)
    subst hy
    refine .bind ropens_wp (fun b hb => ?_)
    subst hb
    refine .pos (by rw [decide_eq_true_eq]; exact ho) (.pos (room_small (by omega) (by omega)) (.pos (room_small (by omega) (by omega)) (.ite (fun h => .left ?_) (fun h => .left ?_))))
    · rw [h]; simp
    · cases deep
      · simp only [Bool.false_or, List.length_append, List.length_cons, List.length_nil]
        congr 2
        simp only [gt_iff_lt, eq_iff_iff]
        omega
      · exact absurd rfl h
  · subst ho
    exact .one (by rw [iadd64 (by omega) (by omega)]; rfl)
theorem ref_other (hx : c[i]? = some x) (ho : ¬(2 ≤ x.Op ∧ x.Op ≤ 4)) (h5 : x.Op ≠ 5) (h11 : x.Op ≠ 11) (hc : c.length ≤ 1000000) : Wp (fun k => RR c k (deep, (i : Int), out, st)) (· = .inl (deep, ((i + 1 : Nat) : Int), out, st)) := by
  have hi : i < c.length := (List.getElem?_eq_some_iff.1 hx).1
  simp only [RR, ref7_Of.b5]
  refine .pos (by omega) (.seg (Q := (· = (deep, out, st))) ?_ (fun o ho => ?_))
  · refine .bind (Q := (· = x)) ⟨x, rfl, 0, fun _ _ => by rw [at?_nat]; exact hx⟩ (fun y hy => ?_)
    subst hy
    refine .bind ropens_wp (fun b hb => ?_)
    subst hb
    refine .neg (by rw [decide_eq_true_eq]; exact ho) (.neg h5 ?_)
    refine .seg (Q := (· = false)) (.neg h11 (.left rfl)) (fun b hb => ?_)
    subst hb
    exact .neg (by decide) (.neg h11 (.left rfl))
  · subst ho
    exact .one (by rw [iadd64 (by omega) (by omega)]; rfl)
theorem last_st {e : Int} (h : (st ++ [e]).length ≤ 1000000) : isub .i64 ((st ++ [e]).length : Int) 1 = ((st.length : Nat) : Int) := by
  simp only [List.length_append, List.length_cons, List.length_nil] at h ⊢
  rw [isub64 (by omega) (by omega)]; omega
theorem ref_else0 (hx : c[i]? = some x) (ho : x.Op = 5) : Wp (fun k => RR c k (deep, (i : Int), out, [])) (· = .inr (.inr (12, []))) := by
  have hi : i < c.length := (List.getElem?_eq_some_iff.1 hx).1
  simp only [RR, ref7_Of.b5]
  refine .pos (by omega) (.seg (Q := fun _ => False) ?_ (fun o ho => ho.elim))
  refine .bind (Q := (· = x)) ⟨x, rfl, 0, fun _ _ => by rw [at?_nat]; exact hx⟩ (fun y hy => ?_)
  subst hy
  refine .bind ropens_wp (fun b hb => ?_)
  subst hb
  exact .neg (by rw [decide_eq_true_eq]; omega) (.pos ho (.pos rfl (.right rfl)))
theorem ref_elseN {e : Nat} {s : RS} {y : api_Inst} (hx : c[i]? = some x) (ho : x.Op = 5) (he : out[e]? = some s) (ha0 : 0 ≤ s.At) (ha : c[s.At.toNat]? = some y) (hy : y.Op ≠ 4 ∨ 0 ≤ s.Else) (hs : (st ++ [(e : Int)]).length ≤ 1000000) :
    Wp (fun k => RR c k (deep, (i : Int), out, st ++ [(e : Int)])) (· = .inr (.inr (12, []))) := by
  have hi : i < c.length := (List.getElem?_eq_some_iff.1 hx).1
  have hel : e < out.length := (List.getElem?_eq_some_iff.1 he).1
  have hl := last_st hs
  have hl2 : (st ++ [(e : Int)]).length = st.length + 1 := by simp
  have hg : (st ++ [(e : Int)])[((st.length : Nat) : Int).toNat]? = some (e : Int) := by rw [Int.toNat_natCast]; exact get_mid' st _ [] rfl
  simp only [RR, ref7_Of.b5]
  rw [hl]
  refine .pos (by omega) (.seg (Q := fun _ => False) ?_ (fun o ho => ho.elim))
  refine .bind (Q := (· = x)) ⟨x, rfl, 0, fun _ _ => by rw [at?_nat]; exact hx⟩ (fun z hz => ?_)
  subst hz
  refine .bind ropens_wp (fun b hb => ?_)
  subst hb
  refine .neg (by rw [decide_eq_true_eq]; omega) (.pos ho (.neg (by omega) (.pos ⟨by omega, by omega⟩ ?_)))
  refine .bind (Q := (· = (e : Int))) ⟨_, rfl, 0, fun _ _ => hg⟩ (fun z hz => ?_)
  subst hz
  have gw : Wp (fun _ => out[((e : Nat) : Int).toNat]?) (· = s) := ⟨s, rfl, 0, fun _ _ => by rw [Int.toNat_natCast]; exact he⟩
  refine .pos ⟨by omega, by omega⟩ (.bind gw (fun z hz => ?_))
  subst hz
  refine .bind (Q := (· = y)) ⟨y, rfl, 0, fun _ _ => by simp only [at?, if_pos ha0]; exact ha⟩ (fun w hw => ?_)
  subst hw
  refine .ite (fun h4 => .pos ⟨by omega, by omega⟩ (.bind gw (fun v hv => ?_))) (fun _ => .right rfl)
  subst hv
  exact .pos (by omega) (.right rfl)
theorem ref_else {e : Nat} {s : RS} {y : api_Inst} (hx : c[i]? = some x) (ho : x.Op = 5) (he : out[e]? = some s) (ha0 : 0 ≤ s.At) (ha : c[s.At.toNat]? = some y) (hy : y.Op = 4) (hn : s.Else < 0) (hs : (st ++ [(e : Int)]).length ≤ 1000000) (hc : c.length ≤ 1000000) :
    Wp (fun k => RR c k (deep, (i : Int), out, st ++ [(e : Int)])) (· = .inl (deep, ((i + 1 : Nat) : Int), out.set e ⟨s.At, i, s.End⟩, st ++ [(e : Int)])) := by
  have hi : i < c.length := (List.getElem?_eq_some_iff.1 hx).1
  have hel : e < out.length := (List.getElem?_eq_some_iff.1 he).1
  have hl := last_st hs
  have hl2 : (st ++ [(e : Int)]).length = st.length + 1 := by simp
  have hg : (st ++ [(e : Int)])[((st.length : Nat) : Int).toNat]? = some (e : Int) := by rw [Int.toNat_natCast]; exact get_mid' st _ [] rfl
  simp only [RR, ref7_Of.b5]
  rw [hl]
  refine .pos (by omega) (.seg (Q := (· = (deep, out.set e ⟨s.At, i, s.End⟩, st ++ [(e : Int)]))) ?_ (fun o ho => ?_))
  · refine .bind (Q := (· = x)) ⟨x, rfl, 0, fun _ _ => by rw [at?_nat]; exact hx⟩ (fun z hz => ?_)
    subst hz
    refine .bind ropens_wp (fun b hb => ?_)
    subst hb
    refine .neg (by rw [decide_eq_true_eq]; omega) (.pos ho (.neg (by omega) (.pos ⟨by omega, by omega⟩ ?_)))
    refine .bind (Q := (· = (e : Int))) ⟨_, rfl, 0, fun _ _ => hg⟩ (fun z hz => ?_)
    subst hz
    have gw : Wp (fun _ => out[((e : Nat) : Int).toNat]?) (· = s) := ⟨s, rfl, 0, fun _ _ => by rw [Int.toNat_natCast]; exact he⟩
    refine .pos ⟨by omega, by omega⟩ (.bind gw (fun z hz => ?_))
    subst hz
    refine .bind (Q := (· = y)) ⟨y, rfl, 0, fun _ _ => by simp only [at?, if_pos ha0]; exact ha⟩ (fun w hw => ?_)
    subst hw
    refine .pos hy (.pos ⟨by omega, by omega⟩ (.bind gw (fun v hv => ?_)))
    subst hv
    refine .neg (by omega) (.pos ⟨by omega, by omega⟩ (.bind gw (fun u hu => .left ?_)))
    subst hu
    rw [Int.toNat_natCast]
  · subst ho
    exact .one (by rw [iadd64 (by omega) (by omega)]; rfl)
theorem ref_end {e : Nat} {s : RS} (hx : c[i]? = some x) (ho : x.Op = 11) (he : out[e]? = some s) (hs : (st ++ [(e : Int)]).length ≤ 1000000) (hc : c.length ≤ 1000000) :
    Wp (fun k => RR c k (deep, (i : Int), out, st ++ [(e : Int)])) (· = .inl (deep, ((i + 1 : Nat) : Int), out.set e ⟨s.At, s.Else, i⟩, st)) := by
  have hi : i < c.length := (List.getElem?_eq_some_iff.1 hx).1
  have hel : e < out.length := (List.getElem?_eq_some_iff.1 he).1
  have hl := last_st hs
  have hl2 : (st ++ [(e : Int)]).length = st.length + 1 := by simp
  have hg : (st ++ [(e : Int)])[((st.length : Nat) : Int).toNat]? = some (e : Int) := by rw [Int.toNat_natCast]; exact get_mid' st _ [] rfl
  simp only [RR, ref7_Of.b5]
  rw [hl]
  refine .pos (by omega) (.seg (Q := (· = (deep, out.set e ⟨s.At, s.Else, i⟩, st))) ?_ (fun o ho => ?_))
  · refine .bind (Q := (· = x)) ⟨x, rfl, 0, fun _ _ => by rw [at?_nat]; exact hx⟩ (fun z hz => ?_)
    subst hz
    refine .bind ropens_wp (fun b hb => ?_)
    subst hb
    refine .neg (by rw [decide_eq_true_eq]; omega) (.neg (by omega) ?_)
    refine .seg (Q := (· = false)) (.pos ho (.left (by rw [decide_eq_false_iff_not]; omega))) (fun b hb => ?_)
    subst hb
    refine .neg (by decide) (.pos ho (.pos ⟨by omega, by omega⟩ ?_))
    refine .bind (Q := (· = (e : Int))) ⟨_, rfl, 0, fun _ _ => hg⟩ (fun z hz => ?_)
    subst hz
    refine .pos ⟨by omega, by omega⟩ (.bind (Q := (· = s)) ⟨s, rfl, 0, fun _ _ => by rw [Int.toNat_natCast]; exact he⟩ (fun z hz => ?_))
    subst hz
    refine .pos ⟨by omega, by omega, by omega⟩ (.pos (by omega) (.left ?_))
    rw [Int.toNat_natCast, Int.toNat_natCast, Nat.sub_zero, List.take_append_of_le_length (Nat.le_refl _), List.take_length]
  · subst ho
    exact .one (by rw [iadd64 (by omega) (by omega)]; rfl)
theorem ref_last (hx : c[i]? = some x) (ho : x.Op = 11) (hc : c.length ≤ 1000000) :
    Wp (fun k => RR c k (deep, (i : Int), out, [])) (· = .inr (.inr (if i + 1 = c.length then (if deep = true then (26, []) else (0, out)) else (12, [])))) := by
  have hi : i < c.length := (List.getElem?_eq_some_iff.1 hx).1
  simp only [RR, ref7_Of.b5]
  refine .pos (by omega) (.seg (Q := fun _ => False) ?_ (fun o ho => ho.elim))
  refine .bind (Q := (· = x)) ⟨x, rfl, 0, fun _ _ => by rw [at?_nat]; exact hx⟩ (fun y hy => ?_)
  subst hy
  refine .bind ropens_wp (fun b hb => ?_)
  subst hb
  refine .neg (by rw [decide_eq_true_eq]; omega) (.neg (by omega) ?_)
  refine .seg (Q := (· = true)) (.pos ho (.left (by simp))) (fun b hb => ?_)
  subst hb
  rw [isub64 (by omega) (by omega)]
  refine .pos rfl (.ite (fun h => .ite (fun hd => .right ?_) (fun hd => .right ?_)) (fun h => .right ?_))
  · rw [if_pos (by omega), if_pos hd]
  · rw [if_pos (by omega), if_neg hd]
  · rw [if_neg (by omega)]
theorem ref_out (h : c.length ≤ i) : Wp (fun k => RR c k (deep, (i : Int), out, st)) (· = .inr (.inl ())) := by
  simp only [RR, ref7_Of.b5]
  exact .neg (by omega) (.one rfl)
end Go.R3M
