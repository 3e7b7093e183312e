/- match.Of and the document's answer are one. -/
import Derived.Test.YtfjpaakonepafaaGRef7V
set_option linter.all false
namespace Go.R3M
open Go.Proofs Go.Ev
set_option maxRecDepth 100000
def conv (s : Span) : RS := ⟨s.At, s.Else, s.End⟩
inductive Stk (out : List RS) : List Span → List Int → Prop
  | nil : Stk out [] []
  | snoc {op : List Span} {st : List Int} {s : Span} {e : Nat} : Stk out op st → out[e]? = some (conv s) → (∀ x ∈ st, x < (e : Int)) → Stk out (op ++ [s]) (st ++ [(e : Int)])
theorem Stk.len {out : List RS} {op : List Span} {st : List Int} (h : Stk out op st) : op.length = st.length := by
  induction h with
  | nil => rfl
  | snoc _ _ _ ih => simp [ih]
theorem Stk.mono {out out' : List RS} {op : List Span} {st : List Int} (h : Stk out op st) (hm : ∀ (j : Nat) (s : RS), (j : Int) ∈ st → out[j]? = some s → out'[j]? = some s) : Stk out' op st := by
  induction h with
  | nil => exact .nil
  | @snoc op st s e _ he hlt ih =>
    exact .snoc (ih fun j s hj hs => hm j s (List.mem_append_left _ hj) hs) (hm e _ (by simp) he) hlt
theorem Stk.lt {out : List RS} {op : List Span} {st : List Int} (h : Stk out op st) : ∀ x ∈ st, x < (out.length : Int) := by
  induction h with
  | nil => intro x hx; cases hx
  | @snoc op st s e _ he hlt ih =>
    intro x hx
    rcases List.mem_append.1 hx with hx | hx
    · exact ih x hx
    · rw [List.mem_singleton] at hx
      have := (List.getElem?_eq_some_iff.1 he).1
      omega
theorem Stk.inv {out : List RS} {op : List Span} {st : List Int} (h : Stk out op st) : (op = [] ∧ st = []) ∨ ∃ op' s st' e, op = op' ++ [s] ∧ st = st' ++ [((e : Nat) : Int)] ∧ Stk out op' st' ∧ out[e]? = some (conv s) ∧ ∀ x ∈ st', x < (e : Int) := by
  cases h with
  | nil => exact .inl ⟨rfl, rfl⟩
  | snoc a b c => exact .inr ⟨_, _, _, _, rfl, rfl, a, b, c⟩
structure Rel (i : Nat) (d : Int) (op dn : List Span) (deep : Bool) (out : List RS) (st : List Int) : Prop where
  deep : deep = decide (d > 64)
  d0 : 0 ≤ d ∧ d ≤ i
  stk : Stk out op st
  perm : ((op ++ dn).map conv).Perm out
  keys : (out.map (·.At)).Pairwise (· < ·)
  bnd : ∀ s ∈ out, 0 ≤ s.At ∧ s.At < i
  els : ∀ s ∈ out, s.Else = -1 ∨ 0 ≤ s.Else
  len : out.length ≤ i
theorem set_split {α : Type} {l : List α} {e : Nat} {a : α} (b : α) (h : l[e]? = some a) : ∃ X Y, l = X ++ a :: Y ∧ l.set e b = X ++ b :: Y := by
  obtain ⟨hlt, rfl⟩ := List.getElem?_eq_some_iff.1 h
  refine ⟨l.take e, l.drop (e + 1), by simp, ?_⟩
  rw [List.set_eq_take_append_cons_drop, if_pos hlt]
theorem perm_set {α : Type} {A B l : List α} {e : Nat} {a : α} (b : α) (h : (A ++ a :: B).Perm l) (he : l[e]? = some a) : (A ++ b :: B).Perm (l.set e b) := by
  obtain ⟨X, Y, e1, e2⟩ := set_split b he
  rw [e2]
  rw [e1] at h
  have h1 : (a :: (A ++ B)).Perm (a :: (X ++ Y)) := (List.perm_middle.symm.trans h).trans List.perm_middle
  have h2 := h1.cons_inv
  exact (List.perm_middle.trans (h2.cons b)).trans List.perm_middle.symm
theorem keys_set {l : List RS} {e : Nat} {a b : RS} (he : l[e]? = some a) (hab : b.At = a.At) : (l.set e b).map (·.At) = l.map (·.At) := by
  obtain ⟨X, Y, e1, e2⟩ := set_split b he
  rw [e2, e1]
  simp [hab]
theorem imax_le {d m : Int} {n : Int} (h1 : 0 ≤ d) (h2 : d ≤ n) (h3 : m ≤ n + 1) (h4 : 0 ≤ m) : 0 ≤ imax d m ∧ imax d m ≤ n + 1 := by
  unfold imax; split <;> omega
variable {c : List api_Inst} {i : Nat} {d : Int} {op dn : List Span} {deep : Bool} {out : List RS} {st : List Int}
theorem Rel.lens (h : Rel i d op dn deep out st) : op.length + dn.length = out.length ∧ op.length = st.length := by
  have := h.perm.length_eq
  simp at this
  exact ⟨this, h.stk.len⟩
theorem Rel.push (h : Rel i d op dn deep out st) : Rel (i + 1) (imax d ((op.length : Int) + 1)) (op ++ [⟨i, -1, -1⟩]) dn (deep || decide (st.length + 1 > 64)) (out ++ [⟨i, -1, -1⟩]) (st ++ [(out.length : Int)]) := by
  obtain ⟨l1, l2⟩ := h.lens
  have hl := h.len
  obtain ⟨d1, d2⟩ := h.d0
  obtain ⟨m1, m2⟩ := imax_le (d := d) (m := (op.length : Int) + 1) (n := i) d1 d2 (by omega) (by omega)
  refine ⟨?_, ⟨m1, by omega⟩, ?_, ?_, ?_, fun s hs => ?_, fun s hs => ?_, by simp; omega⟩
  · rw [h.deep]
    unfold imax
    by_cases h1 : d > 64 <;> by_cases h2 : st.length + 1 > 64 <;> simp only [h1, h2, decide_true, decide_false, Bool.or_true, Bool.or_false, Bool.true_or] <;> split <;> simp <;> omega
  · refine .snoc (h.stk.mono fun j s _ hs => ?_) ?_ h.stk.lt
    · rw [List.getElem?_append_left (List.getElem?_eq_some_iff.1 hs).1]; exact hs
    · exact get_mid' out _ [] rfl
  · have := h.perm
    rw [List.map_append, List.map_append] at *
    have p : (op.map conv ++ [conv ⟨i, -1, -1⟩] ++ dn.map conv).Perm (op.map conv ++ dn.map conv ++ [conv ⟨i, -1, -1⟩]) := by
      rw [List.append_assoc, List.append_assoc]
      exact (List.perm_append_comm).append_left _
    exact p.trans (this.append_right _)
  · rw [List.map_append, List.pairwise_append]
    refine ⟨h.keys, by simp, fun a ha b hb => ?_⟩
    obtain ⟨s, hs, rfl⟩ := List.mem_map.1 ha
    simp only [List.map_cons, List.map_nil, List.mem_singleton] at hb
    subst hb
    exact (h.bnd s hs).2
  · rcases List.mem_append.1 hs with hs | hs
    · obtain ⟨a, b⟩ := h.bnd s hs; exact ⟨a, by omega⟩
    · rw [List.mem_singleton] at hs; subst hs; dsimp only; omega
  · rcases List.mem_append.1 hs with hs | hs
    · exact h.els s hs
    · rw [List.mem_singleton] at hs; subst hs; exact .inl rfl
theorem Rel.next (h : Rel i d op dn deep out st) : Rel (i + 1) d op dn deep out st := by
  obtain ⟨d1, d2⟩ := h.d0
  have hl := h.len
  exact ⟨h.deep, ⟨d1, by omega⟩, h.stk, h.perm, h.keys, fun s hs => by obtain ⟨a, b⟩ := h.bnd s hs; exact ⟨a, by omega⟩, h.els, by omega⟩
theorem Rel.elsed {s : Span} {e : Nat} (h : Rel i d (op ++ [s]) dn deep out (st ++ [(e : Int)])) (hk : Stk out op st) (he : out[e]? = some (conv s)) (hlt : ∀ x ∈ st, x < (e : Int)) :
    Rel (i + 1) d (op ++ [⟨s.At, i, s.End⟩]) dn deep (out.set e ⟨s.At, i, s.End⟩) (st ++ [(e : Int)]) := by
  obtain ⟨d1, d2⟩ := h.d0
  have hl := h.len
  have hel : e < out.length := (List.getElem?_eq_some_iff.1 he).1
  have sm := h.bnd _ (List.mem_of_getElem? he)
  refine ⟨h.deep, ⟨d1, by omega⟩, .snoc (hk.mono fun j x hj hx => ?_) ?_ hlt, ?_, ?_, fun x hx => ?_, fun x hx => ?_, by simp; omega⟩
  · have := hlt _ hj
    rw [List.getElem?_set_ne (by omega)]; exact hx
  · rw [List.getElem?_set_self hel]; rfl
  · have := h.perm
    simp only [List.map_append, List.map_cons, List.map_nil, List.append_assoc, List.singleton_append] at this ⊢
    exact perm_set _ this he
  · have := keys_set (b := ⟨s.At, i, s.End⟩) he rfl
    rw [this]; exact h.keys
  · rcases List.mem_or_eq_of_mem_set hx with hx | rfl
    · obtain ⟨a, b⟩ := h.bnd x hx; exact ⟨a, by omega⟩
    · simp only [conv] at sm ⊢; omega
  · rcases List.mem_or_eq_of_mem_set hx with hx | rfl
    · exact h.els x hx
    · right; dsimp only; omega
theorem Rel.ended {s : Span} {e : Nat} (h : Rel i d (op ++ [s]) dn deep out (st ++ [(e : Int)])) (hk : Stk out op st) (he : out[e]? = some (conv s)) (hlt : ∀ x ∈ st, x < (e : Int)) :
    Rel (i + 1) d op (dn ++ [⟨s.At, s.Else, i⟩]) deep (out.set e ⟨s.At, s.Else, i⟩) st := by
  obtain ⟨d1, d2⟩ := h.d0
  have hl := h.len
  have hel : e < out.length := (List.getElem?_eq_some_iff.1 he).1
  have sm := h.bnd _ (List.mem_of_getElem? he)
  have se := h.els _ (List.mem_of_getElem? he)
  refine ⟨h.deep, ⟨d1, by omega⟩, hk.mono fun j x hj hx => ?_, ?_, ?_, fun x hx => ?_, fun x hx => ?_, by simp; omega⟩
  · have := hlt _ hj
    rw [List.getElem?_set_ne (by omega)]; exact hx
  · have := h.perm
    simp only [List.map_append, List.map_cons, List.map_nil, List.append_assoc, List.singleton_append] at this ⊢
    have p := perm_set (conv ⟨s.At, s.Else, i⟩) this he
    refine .trans ?_ p
    refine .append_left _ ?_
    exact List.perm_append_comm
  · have := keys_set (b := ⟨s.At, s.Else, i⟩) he rfl
    rw [this]; exact h.keys
  · rcases List.mem_or_eq_of_mem_set hx with hx | rfl
    · obtain ⟨a, b⟩ := h.bnd x hx; exact ⟨a, by omega⟩
    · simp only [conv] at sm ⊢; omega
  · rcases List.mem_or_eq_of_mem_set hx with hx | rfl
    · exact h.els x hx
    · exact se
abbrev RKey : RS → Int := (·.At)
theorem isort_conv (l : List Span) : isortBy RKey (l.map conv) = (isortBy kAt l).map conv := isort_map kAt RKey conv (fun _ => rfl) l
/-- The two runs from here on. -/
def Both (c : List api_Inst) (i : Nat) (d : Int) (op dn : List Span) (deep : Bool) (out : List RS) (st : List Int) : Prop :=
  (∃ r, Lp (Rounds c) ((i : Int), d, op, dn) (· = .inr r) ∧ Lp (RR c) (deep, (i : Int), out, st) (fun r => r = .inl () ∨ r = .inr (12, []))) ∨
  ∃ d' op' dn', Lp (Rounds c) ((i : Int), d, op, dn) (· = .inl (d', op', dn')) ∧ Lp (RR c) (deep, (i : Int), out, st) (· = .inr (if d' > 64 then (26, []) else (0, (isortBy kAt dn').map conv))) ∧ (dn'.map kAt).Nodup ∧ dn'.length ≤ 1000000
theorem _root_.Go.Ev.Lp.pass {V O : Type} {b : Nat → V → Option (V ⊕ O)} {v v' : V} {P : O → Prop} (h : Wp (fun k => b k v) (· = .inl v')) (h2 : Lp b v' P) : Lp b v P :=
  .step (h.mono fun a ha => by subst ha; exact h2)
theorem _root_.Go.Ev.Lp.stop {V O : Type} {b : Nat → V → Option (V ⊕ O)} {v : V} {o : O} {P : O → Prop} (h : Wp (fun k => b k v) (· = .inr o)) (h2 : P o) : Lp b v P :=
  .step (h.mono fun a ha => by subst ha; exact h2)
theorem m_round {d' : Int} {op' dn' : List Span} (hi : i + 1 < c.length) (hc : c.length ≤ 1000000) (hw : Wp (fun k => match_stack_step.f k c (i : Int) d op dn) (· = (decide ((i : Int) < (c.length : Int) - 1), d', op', dn'))) :
    Wp (fun k => Rounds c k ((i : Int), d, op, dn)) (· = .inl (((i + 1 : Nat) : Int), d', op', dn')) := by
  simp only [Rounds, match_Of.b5]
  refine .pos (by omega) (.bind hw (fun r hr => ?_))
  subst hr
  dsimp only
  refine .neg (by rw [decide_eq_true (by omega)]; decide) (.one ?_)
  rw [iadd64 (by omega) (by omega)]; rfl
theorem m_fail {d' : Int} {op' dn' : List Span} (hi : i < c.length) (hw : Wp (fun k => match_stack_step.f k c (i : Int) d op dn) (· = (false, d', op', dn'))) :
    Wp (fun k => Rounds c k ((i : Int), d, op, dn)) (· = .inr (.inr (d', op', dn'))) := by
  simp only [Rounds, match_Of.b5]
  refine .pos (by omega) (.bind hw (fun r hr => ?_))
  subst hr
  dsimp only
  exact .pos rfl (.one rfl)
theorem m_true {d' : Int} {op' dn' : List Span} (hi : i < c.length) (hc : c.length ≤ 1000000) (hw : Wp (fun k => match_stack_step.f k c (i : Int) d op dn) (· = (true, d', op', dn'))) :
    Wp (fun k => Rounds c k ((i : Int), d, op, dn)) (· = .inl (((i + 1 : Nat) : Int), d', op', dn')) := by
  simp only [Rounds, match_Of.b5]
  refine .pos (by omega) (.bind hw (fun r hr => ?_))
  subst hr
  dsimp only
  refine .neg (by decide) (.one ?_)
  rw [iadd64 (by omega) (by omega)]; rfl
theorem m_out (h : c.length ≤ i) : Wp (fun k => Rounds c k ((i : Int), d, op, dn)) (· = .inr (.inl (d, op, dn))) := by
  simp only [Rounds, match_Of.b5]
  exact .neg (by omega) (.one rfl)
theorem both_go {d' : Int} {op' dn' : List Span} {deep' : Bool} {out' : List RS} {st' : List Int} (hi : i < c.length) (hc : c.length ≤ 1000000)
    (hm : Wp (fun k => match_stack_step.f k c (i : Int) d op dn) (· = (decide ((i : Int) < (c.length : Int) - 1), d', op', dn')))
    (hr : Wp (fun k => RR c k (deep, (i : Int), out, st)) (· = .inl (deep', ((i + 1 : Nat) : Int), out', st')))
    (hn : i + 1 < c.length → Both c (i + 1) d' op' dn' deep' out' st') : Both c i d op dn deep out st := by
  by_cases h : i + 1 < c.length
  · have hm' := m_round h hc hm
    rcases hn h with ⟨r, h1, h2⟩ | ⟨a, b, e, h1, h2, h3, h4⟩
    · exact .inl ⟨r, .pass hm' h1, .pass hr h2⟩
    · exact .inr ⟨a, b, e, .pass hm' h1, .pass hr h2, h3, h4⟩
  · rw [decide_eq_false (by omega)] at hm
    exact .inl ⟨_, .stop (m_fail hi hm) rfl, .pass hr (.stop (ref_out (by omega)) (.inl rfl))⟩
theorem both (hc : c.length ≤ 100000) : ∀ (n i : Nat) (d : Int) (op dn : List Span) (deep : Bool) (out : List RS) (st : List Int), i + n = c.length → 0 < n → Rel i d op dn deep out st → Both c i d op dn deep out st
  | 0, _, _, _, _, _, _, _, _, h, _ => absurd h (by decide)
  | n + 1, i, d, op, dn, deep, out, st, hn, _, h => by
    have hi : i < c.length := by omega
    have hx : c[i]? = some c[i] := List.getElem?_eq_getElem hi
    obtain ⟨l1, l2⟩ := h.lens
    have hl := h.len
    have ih : ∀ (d' : Int) (op' dn' : List Span) (deep' : Bool) (out' : List RS) (st' : List Int), Rel (i + 1) d' op' dn' deep' out' st' → i + 1 < c.length → Both c (i + 1) d' op' dn' deep' out' st' :=
      fun d' op' dn' deep' out' st' hR hlt => both hc n (i + 1) d' op' dn' deep' out' st' (by omega) (by omega) hR
    generalize c[i] = x at hx
    by_cases ho : 2 ≤ x.Op ∧ x.Op ≤ 4
    · exact both_go hi (by omega) (step_open hx ho (by omega) (by omega)) (ref_open hx ho (by omega) (by omega) (by omega)) (ih _ _ _ _ _ _ h.push)
    · by_cases h5 : x.Op = 5
      · rcases h.stk.inv with ⟨rfl, rfl⟩ | ⟨op', s, st', e, rfl, rfl, hk, he, hlt⟩
        · exact .inl ⟨_, .stop (m_fail hi (step_else0 hx h5)) rfl, .stop (ref_else0 hx h5) (.inr rfl)⟩
        · have sm := h.bnd _ (List.mem_of_getElem? he)
          have se := h.els _ (List.mem_of_getElem? he)
          simp only [conv] at sm se
          have hy : c[s.At.toNat]? = some c[s.At.toNat] := List.getElem?_eq_getElem (by omega)
          generalize c[s.At.toNat] = y at hy
          simp only [List.length_append, List.length_cons, List.length_nil] at l1 l2
          by_cases h4 : y.Op = 4 ∧ s.Else = -1
          · obtain ⟨h4, hs⟩ := h4
            have hm := step_else (c := c) (i := i) (d := d) (op := op') (dn := dn) (a := s.At) (e := s.End) hx h5 sm.1 hy h4 (by omega) (by simp; omega)
            have es : s = ⟨s.At, -1, s.End⟩ := by obtain ⟨a, b, c⟩ := s; simp only at hs; subst hs; rfl
            rw [← es] at hm
            exact both_go hi (by omega) hm (ref_else hx h5 he sm.1 hy h4 (by simp only [conv]; omega) (by simp; omega) (by omega)) (ih _ _ _ _ _ _ (h.elsed hk he hlt))
          · refine .inl ⟨_, .stop (m_fail hi (step_elseN hx h5 sm.1 hy ?_ (by simp; omega))) rfl, .stop (ref_elseN hx h5 he sm.1 hy ?_ (by simp; omega)) (.inr rfl)⟩
            · by_cases q : y.Op = 4
              · exact .inr fun w => h4 ⟨q, w⟩
              · exact .inl q
            · by_cases q : y.Op = 4
              · refine .inr ?_
                have : s.Else ≠ -1 := fun w => h4 ⟨q, w⟩
                simp only [conv]; omega
              · exact .inl q
      · by_cases h11 : x.Op = 11
        · rcases h.stk.inv with ⟨rfl, rfl⟩ | ⟨op', s, st', e, rfl, rfl, hk, he, hlt⟩
          · have hm := step_last (c := c) (i := i) (d := d) (dn := dn) hx h11 (by omega)
            have hr := ref_last (c := c) (i := i) (deep := deep) (out := out) hx h11 (by omega)
            by_cases hq : i + 1 = c.length
            · rw [decide_eq_true (by omega)] at hm
              rw [if_pos hq] at hr
              refine .inr ⟨d, [], dn, .pass (m_true hi (by omega) hm) (.stop (m_out (by omega)) rfl), .stop hr ?_, ?_, by omega⟩
              · rw [h.deep]
                by_cases h64 : d > 64
                · rw [if_pos h64, if_pos (by simp [h64])]
                · rw [if_neg h64, if_neg (by simp [h64])]
                  have p := h.perm
                  rw [List.nil_append] at p
                  have e1 : isortBy RKey (dn.map conv) = out := by
                    refine sorted_one RKey ((isort_perm RKey _).trans p) (isort_sorted RKey _) ?_ ?_
                    · have := h.keys
                      rw [List.pairwise_map] at this
                      exact this.imp fun h => Int.le_of_lt h
                    · refine (((isort_perm RKey (dn.map conv)).trans p).map RKey).nodup_iff.2 ?_
                      have := h.keys
                      exact this.imp fun h => by omega
                  rw [isort_conv] at e1
                  rw [e1]
              · have p := h.perm
                rw [List.nil_append] at p
                have p2 := (p.map RKey).nodup_iff.2 (h.keys.imp fun h => by omega)
                rw [List.map_map] at p2
                exact p2
            · rw [decide_eq_false (by omega)] at hm
              rw [if_neg hq] at hr
              exact .inl ⟨_, .stop (m_fail hi hm) rfl, .stop hr (.inr rfl)⟩
          · simp only [List.length_append, List.length_cons, List.length_nil] at l1 l2
            exact both_go hi (by omega) (step_end hx h11 (by omega) (by simp; omega) (by omega)) (ref_end hx h11 he (by simp; omega) (by omega)) (ih _ _ _ _ _ _ (h.ended hk he hlt))
        · exact both_go hi (by omega) (step_other hx ho h5 h11 (by omega)) (ref_other hx ho h5 h11 (by omega)) (ih _ _ _ _ _ _ h.next)
end Go.R3M
