/- MatchNumbers: the plain law. -/
import Derived.Test.YtfjpaakonepafaaGSameV
set_option linter.all false
namespace Go.R3M
open Go.Proofs Go.Ev
set_option maxRecDepth 100000
theorem rel_start : Rel 0 0 [] [] false [] [] := ⟨rfl, ⟨Int.le_refl _, Int.le_refl _⟩, .nil, .nil, .nil, (fun _ h => by cases h), (fun _ h => by cases h), Nat.le_refl _⟩
theorem of_both {c : List api_Inst} (hc : c.length ≤ 100000) : ∃ (q : Int) (S : List Span), S.length ≤ 1000000 ∧ Wp (fun k => match_Of.f k c) (· = (q, S)) ∧ Wp (fun k => ref7_Of.f k c) (· = (q, S.map conv)) := by
  by_cases h0 : c.length = 0
  · refine ⟨12, [], by simp, .succ ?_, .succ ?_⟩
    · simp only [match_Of.f]
      exact .pos (by omega) (.one rfl)
    · simp only [ref7_Of.f]
      refine .alt (Q := fun _ => True) (Q2 := fun _ => False) (Lp.wp (.stop (ref_out (i := 0) (by omega)) trivial)) (fun _ _ => .one rfl) (fun _ h => h.elim)
  · rcases both hc c.length 0 0 [] [] false [] [] (by omega) (by omega) rel_start with ⟨⟨d, op, dn⟩, h1, h2⟩ | ⟨d, op, dn, h1, h2, h3, h4⟩
    · refine ⟨12, [], by simp, .succ ?_, .succ ?_⟩
      · simp only [match_Of.f]
        refine .neg (by omega) (.alt (Q := fun _ => False) (Q2 := fun _ => True) (h1.wp.mono fun a ha => by subst ha; trivial) (fun _ h => h.elim) (fun o _ => .one rfl))
      · simp only [ref7_Of.f]
        refine .alt (Q := fun _ => True) (Q2 := fun o => o = (12, [])) (h2.wp.mono fun a ha => ?_) (fun _ _ => .one rfl) (fun o h => ?_)
        · rcases ha with rfl | rfl
          · trivial
          · rfl
        · subst h; exact .one rfl
    · by_cases h64 : d > 64
      · refine ⟨26, [], by simp, .succ ?_, .succ ?_⟩
        · simp only [match_Of.f]
          refine .neg (by omega) (.alt (Q := fun o => o.1 > 64) (Q2 := fun _ => False) (h1.wp.mono fun a ha => by subst ha; exact h64) (fun o h => ?_) (fun _ h => h.elim))
          obtain ⟨a, b, e⟩ := o
          exact .pos h (.one rfl)
        · simp only [ref7_Of.f]
          refine .alt (Q := fun _ => False) (Q2 := fun o => o = (26, [])) (h2.wp.mono fun a ha => ?_) (fun _ h => h.elim) (fun o h => ?_)
          · subst ha; rw [if_pos h64]; rfl
          · subst h; exact .one rfl
      · refine ⟨0, isortBy kAt dn, by rw [isort_len]; exact h4, .succ ?_, .succ ?_⟩
        · simp only [match_Of.f]
          refine .neg (by omega) (.alt (Q := fun o => o.1 = d ∧ o.2.2 = dn) (Q2 := fun _ => False) (h1.wp.mono fun a ha => by subst ha; exact ⟨rfl, rfl⟩) (fun o h => ?_) (fun _ h => h.elim))
          obtain ⟨a, b, e⟩ := o
          obtain ⟨h5, h6⟩ := h
          dsimp only at h5 h6 ⊢
          subst h5; subst h6
          refine .neg h64 (.bind (Q := fun _ => True) ⟨(), trivial, 1, fun k hk => ?_⟩ (fun _ _ => .one rfl))
          obtain ⟨k, rfl⟩ : ∃ j, k = j + 1 := ⟨k - 1, by omega⟩
          simp only [sortO]
          rw [if_pos ⟨h3, by omega⟩]
        · simp only [ref7_Of.f]
          refine .alt (Q := fun _ => False) (Q2 := fun o => o = (0, (isortBy kAt dn).map conv)) (h2.wp.mono fun a ha => ?_) (fun _ h => h.elim) (fun o h => ?_)
          · subst ha; rw [if_neg h64]; rfl
          · subst h; exact .one rfl
/-! ### Find -/
def findR (S : List Span) (a : Int) : Span × Bool := match S.find? (fun s => s.At == a) with
  | some s => (s, true)
  | none => (⟨0, 0, 0⟩, false)
theorem find_drop {α : Type} (p : α → Bool) (S : List α) {v : Nat} {x : α} (hx : S[v]? = some x) : (S.drop v).find? p = if p x then some x else (S.drop (v + 1)).find? p := by
  obtain ⟨hlt, rfl⟩ := List.getElem?_eq_some_iff.1 hx
  rw [List.drop_eq_getElem_cons hlt, List.find?_cons]
  split <;> rename_i h <;> simp [h]
def outR (o : Option Span) : Unit ⊕ (Int × Int × Int) := match o with
  | some s => .inr (s.At, s.Else, s.End)
  | none => .inl ()
theorem mfind_lp (S : List Span) (a : Int) (hS : S.length ≤ 1000000) : ∀ (n v : Nat), v + n = S.length → Lp (fun k => match_Find.b2 k a S) (v : Int) (· = outR ((S.drop v).find? (fun s => s.At == a)))
  | 0, v, h => by
    refine .step ?_
    simp only [match_Find.b2]
    refine .neg (by omega) (.right ?_)
    rw [List.drop_eq_nil_of_le (by omega)]; rfl
  | n + 1, v, h => by
    refine .step ?_
    simp only [match_Find.b2]
    have hg : S[v]? = some S[v] := List.getElem?_eq_getElem (by omega)
    rw [find_drop _ S hg]
    generalize S[v] = x at hg
    refine .pos (by omega) (.pos ⟨by omega, by omega⟩ (.bind (Q := (· = x)) ⟨x, rfl, 0, fun _ _ => by rw [Int.toNat_natCast]; exact hg⟩ (fun y hy => ?_)))
    subst hy
    refine .ite (fun h1 => .right ?_) (fun h1 => .left ?_)
    · rw [if_pos (by simpa using h1)]; rfl
    · rw [if_neg (by simpa using h1), iadd64 (by omega) (by omega)]
      exact mfind_lp S a hS n (v + 1) (by omega)
theorem rfind_lp (S : List Span) (a : Int) (hS : S.length ≤ 1000000) : ∀ (n v : Nat), v + n = S.length → Lp (fun k => ref7_Find.b2 k a (S.map conv)) (v : Int) (· = outR ((S.drop v).find? (fun s => s.At == a)))
  | 0, v, h => by
    refine .step ?_
    simp only [ref7_Find.b2]
    refine .neg (by rw [List.length_map]; omega) (.right ?_)
    rw [List.drop_eq_nil_of_le (by omega)]; rfl
  | n + 1, v, h => by
    refine .step ?_
    simp only [ref7_Find.b2, List.length_map]
    have hg : S[v]? = some S[v] := List.getElem?_eq_getElem (by omega)
    rw [find_drop _ S hg]
    generalize S[v] = x at hg
    have gw : Wp (fun _ => (S.map conv)[((v : Nat) : Int).toNat]?) (· = conv x) := ⟨_, rfl, 0, fun _ _ => by rw [Int.toNat_natCast, List.getElem?_map, hg]; rfl⟩
    refine .pos (by omega) (.pos ⟨by omega, by omega⟩ (.bind gw (fun y hy => ?_)))
    subst hy
    refine .ite (fun h1 => .pos ⟨by omega, by omega⟩ (.bind gw (fun z hz => .right ?_))) (fun h1 => .left ?_)
    · subst hz
      rw [if_pos (by simpa [conv] using h1)]; rfl
    · rw [if_neg (by simpa [conv] using h1), iadd64 (by omega) (by omega)]
      exact rfind_lp S a hS n (v + 1) (by omega)
theorem mfind_wp {S : List Span} (a : Int) (hS : S.length ≤ 1000000) : Wp (fun k => match_Find.f k a S) (· = findR S a) := by
  refine .succ ?_
  simp only [match_Find.f]
  have h := (mfind_lp S a hS S.length 0 (by omega)).wp
  rw [List.drop_zero] at h
  unfold findR
  cases hf : S.find? (fun s => s.At == a) with
  | none =>
    rw [hf] at h
    exact .alt (Q := fun _ => True) (Q2 := fun _ => False) (h.mono fun o ho => by subst ho; trivial) (fun _ _ => .one rfl) (fun _ h => h.elim)
  | some s =>
    rw [hf] at h
    refine .alt (Q := fun _ => False) (Q2 := fun o => o = (s.At, s.Else, s.End)) (h.mono fun o ho => by subst ho; rfl) (fun _ h => h.elim) (fun o ho => ?_)
    subst ho
    exact .one rfl
theorem rfind_wp {S : List Span} (a : Int) (hS : S.length ≤ 1000000) : Wp (fun k => ref7_Find.f k a (S.map conv)) (· = (conv (findR S a).1, (findR S a).2)) := by
  refine .succ ?_
  simp only [ref7_Find.f]
  have h := (rfind_lp S a hS S.length 0 (by omega)).wp
  rw [List.drop_zero] at h
  unfold findR
  cases hf : S.find? (fun s => s.At == a) with
  | none =>
    rw [hf] at h
    exact .alt (Q := fun _ => True) (Q2 := fun _ => False) (h.mono fun o ho => by subst ho; trivial) (fun _ _ => .one rfl) (fun _ h => h.elim)
  | some s =>
    rw [hf] at h
    refine .alt (Q := fun _ => False) (Q2 := fun o => o = (s.At, s.Else, s.End)) (h.mono fun o ho => by subst ho; rfl) (fun _ h => h.elim) (fun o ho => ?_)
    subst ho
    exact .one rfl
/-! ### same -/
theorem same_wp {c : List api_Inst} (hc : c.length ≤ 100000) : Wp (fun k => law7_same.f k c) (· = true) := by
  obtain ⟨q, S, hS, h1, h2⟩ := of_both hc
  refine .succ ?_
  simp only [law7_same.f]
  refine .bind h1 (fun r hr => ?_)
  subst hr
  refine .bind h2 (fun r hr => ?_)
  subst hr
  refine .pos rfl (.pos (by rw [List.length_map]) (.alt (Q := fun _ => True) (Q2 := fun _ => False) ?_ (fun _ _ => .alt (Q := fun _ => True) (Q2 := fun _ => False) ?_ (fun _ _ => .one rfl) (fun _ h => h.elim)) (fun _ h => h.elim)))
  · refine .loop (fun (n : Nat) (v : Int) => 0 ≤ v ∧ v + (n : Int) = S.length) (fun n v hv => ?_) (n := S.length) ⟨by simp, by simp⟩
    simp only [law7_same.b6, List.length_map]
    refine .ite (fun hi => ?_) (fun _ => .right (show Either (fun _ => True) (fun _ => False) (.inl ()) from trivial))
    have hl : v.toNat < S.length := by omega
    have hg : S[v.toNat]? = some S[v.toNat] := List.getElem?_eq_getElem hl
    generalize S[v.toNat] = x at hg
    have gm : Wp (fun _ => S[v.toNat]?) (· = x) := ⟨_, rfl, 0, fun _ _ => hg⟩
    have gw : Wp (fun _ => (S.map conv)[v.toNat]?) (· = conv x) := ⟨_, rfl, 0, fun _ _ => by rw [List.getElem?_map, hg]; rfl⟩
    have b0 : (0 : Int) ≤ v ∧ v < (S.length : Int) := ⟨hv.1, hi⟩
    refine .pos b0 (.bind gm (fun a ha => .pos b0 (.bind gw (fun b hb => ?_))))
    subst ha; subst hb
    refine .pos rfl (.pos b0 (.bind gm (fun a' ha => .pos b0 (.bind gw (fun b hb => ?_)))))
    subst ha; subst hb
    refine .pos rfl (.pos b0 (.bind gm (fun a ha => .pos b0 (.bind gw (fun b hb => ?_)))))
    subst ha; subst hb
    exact .pos rfl (.left ⟨n - 1, by omega, by rw [iadd64 (by omega) (by omega)]; omega, by rw [iadd64 (by omega) (by omega)]; omega⟩)
  · refine .loop (fun (n : Nat) (v : Int) => -1 ≤ v ∧ v + (n : Int) = 8) (fun n v hv => ?_) (n := 9) ⟨by decide, by decide⟩
    simp only [law7_same.b11]
    refine .ite (fun hi => ?_) (fun _ => .right (show Either (fun _ => True) (fun _ => False) (.inl ()) from trivial))
    refine .bind (mfind_wp v hS) (fun r hr => ?_)
    subst hr
    refine .bind (rfind_wp v hS) (fun r hr => ?_)
    subst hr
    generalize findR S v = f
    obtain ⟨s, b⟩ := f
    dsimp only
    refine .neg (by simp) (.pos rfl (.pos rfl (.pos rfl (.left ⟨n - 1, by omega, ?_⟩))))
    rw [iadd64 (by omega) (by omega)]
    omega
/-! ### the rows, the known -/
theorem known7 (j : Nat) : law7_known.f (j + 60) = some true := by kernel_rfl
theorem known7_wp : Wp (fun k => law7_known.f k) (· = true) := by
  refine .at_ 60 (fun k hk => ?_) rfl
  obtain ⟨k, rfl⟩ : ∃ j, k = j + 60 := ⟨k - 60, by omega⟩
  exact known7 k
theorem digits_wp (n : Int) (h0 : 0 ≤ n) (h1 : n < 15625) : Wp (fun k => loopS (law7_MatchNumbers.b7 k) k (n, [])) (fun r => r.length ≤ 15625) := by
  refine .loop (fun (m : Nat) (v : Int × List api_Inst) => 0 ≤ v.1 ∧ v.1 = (m : Int) ∧ (v.2.length : Int) + v.1 ≤ 15625) (fun m v hv => ?_) (n := n.toNat) ⟨h0, by omega, by simp; omega⟩
  obtain ⟨x, l⟩ := v
  obtain ⟨g1, g2, g3⟩ := hv
  dsimp only at g1 g2 g3
  simp only [law7_MatchNumbers.b7]
  refine .ite (fun hx => ?_) (fun hx => .right (by omega))
  have e1 : irem .i64 x 5 = x % 5 := irem_ok (by omega)
  have e2 : iquo .i64 x 5 = x / 5 := iquo64 g1 (by omega) (by decide)
  rw [e1, e2]
  have a1 : 0 ≤ x % 5 := Int.emod_nonneg _ (by omega)
  have a2 : x % 5 < 5 := Int.emod_lt_of_pos _ (by decide)
  refine .pos ⟨a1, a2⟩ (.bind (Q := fun _ => True) (.mono (.get (by simp; omega)) (fun _ _ => trivial)) (fun y _ => .pos (room_small (by omega) (by omega)) (.left ⟨(x / 5).toNat, by omega, ?_⟩)))
  dsimp only
  exact ⟨by omega, by omega, by simp; omega⟩
theorem first_wp : Wp (fun k => loopS (law7_MatchNumbers.b3 k) k (0 : Int)) (Either (fun _ => True) (fun _ => False)) := by
  refine .loop (fun (m : Nat) (v : Int) => 0 ≤ v ∧ v + (m : Int) = 15625) (fun m v hv => ?_) (n := 15625) ⟨by omega, by omega⟩
  obtain ⟨g1, g2⟩ := hv
  simp only [law7_MatchNumbers.b3]
  refine .ite (fun hx => ?_) (fun hx => .right trivial)
  refine .bind (digits_wp v g1 hx) (fun l hl => ?_)
  refine .bind (same_wp (by omega)) (fun r hr => ?_)
  subst hr
  refine .neg (by simp) (.pos (room_small (by omega) (by omega)) ?_)
  refine .bind (same_wp (by simp; omega)) (fun r hr => ?_)
  subst hr
  refine .neg (by simp) (.left ⟨m - 1, by omega, ?_⟩)
  rw [iadd64 (by omega) (by omega)]
  exact ⟨by omega, by omega⟩
theorem heads_wp (n : Int) (h1 : n ≤ 66) : Wp (fun k => loopS (law7_MatchNumbers.b17 k n) k (0, [])) (fun r => r.length ≤ 66) := by
  refine .loop (fun (m : Nat) (v : Int × List api_Inst) => 0 ≤ v.1 ∧ v.1 + (m : Int) = 66 ∧ (v.2.length : Int) = v.1) (fun m v hv => ?_) (n := 66) ⟨by simp, by simp, by simp⟩
  obtain ⟨x, l⟩ := v
  obtain ⟨g1, g2, g3⟩ := hv
  dsimp only at g1 g2 g3
  simp only [law7_MatchNumbers.b17]
  refine .ite (fun hx => .pos (room_small (by omega) (by omega)) (.left ⟨m - 1, by omega, ?_⟩)) (fun hx => .right (by omega))
  rw [iadd64 (by omega) (by omega)]
  dsimp only
  exact ⟨by omega, by omega, by simp; omega⟩
theorem ends_wp (n : Int) (h1 : n ≤ 66) {l0 : List api_Inst} (hl : l0.length ≤ 66) : Wp (fun k => loopS (law7_MatchNumbers.b21 k n) k (0, l0)) (fun r => r.length ≤ 132) := by
  refine .loop (fun (m : Nat) (v : Int × List api_Inst) => 0 ≤ v.1 ∧ v.1 + (m : Int) = 66 ∧ (v.2.length : Int) ≤ 66 + v.1) (fun m v hv => ?_) (n := 66) ⟨by simp, by simp, by simp; omega⟩
  obtain ⟨x, l⟩ := v
  obtain ⟨g1, g2, g3⟩ := hv
  dsimp only at g1 g2 g3
  simp only [law7_MatchNumbers.b21]
  refine .ite (fun hx => .pos (room_small (by omega) (by omega)) (.left ⟨m - 1, by omega, ?_⟩)) (fun hx => .right (by omega))
  rw [iadd64 (by omega) (by omega)]
  dsimp only
  exact ⟨by omega, by omega, by simp; omega⟩
theorem four_le {i : Nat} {e : Int} (h : ([63, 64, 65, 66] : List Int)[i]? = some e) : e ≤ 66 := by
  have := List.mem_of_getElem? h
  simp at this
  omega
theorem second_wp : Wp (fun k => loopS (law7_MatchNumbers.b13 k) k (0 : Int)) (Either (fun _ => True) (fun _ => False)) := by
  refine .loop (fun (m : Nat) (v : Int) => 0 ≤ v ∧ v + (m : Int) = 4) (fun m v hv => ?_) (n := 4) ⟨by omega, by omega⟩
  obtain ⟨g1, g2⟩ := hv
  simp only [law7_MatchNumbers.b13]
  refine .ite (fun hx => ?_) (fun hx => .right trivial)
  refine .pos ⟨g1, hx⟩ (.bind (.get (by simp; omega)) (fun e he => ?_))
  have he := four_le he
  refine .bind (heads_wp e he) (fun l hl => ?_)
  refine .bind (ends_wp e he hl) (fun q hq => ?_)
  refine .bind (same_wp (by omega)) (fun r hr => ?_)
  subst hr
  refine .neg (by simp) (.pos (room_small (by omega) (by omega)) ?_)
  refine .bind (same_wp (by simp; omega)) (fun r hr => ?_)
  subst hr
  refine .neg (by simp) (.pos (room_small (by omega) (by omega)) ?_)
  refine .bind (same_wp (by simp; omega)) (fun r hr => ?_)
  subst hr
  refine .neg (by simp) (.left ⟨m - 1, by omega, ?_⟩)
  rw [iadd64 (by omega) (by omega)]
  exact ⟨by omega, by omega⟩
theorem numbers_wp : Wp (fun k => law7_MatchNumbers.f k) (· = true) := by
  refine .succ ?_
  simp only [law7_MatchNumbers.f]
  refine .alt first_wp (fun _ _ => .alt second_wp (fun _ _ => .bind known7_wp (fun r hr => .one hr)) (fun _ h => h.elim)) (fun _ h => h.elim)
theorem MatchNumbers : ∃ k, law7_MatchNumbers.f k = some true := numbers_wp.fuel
end Go.R3M
