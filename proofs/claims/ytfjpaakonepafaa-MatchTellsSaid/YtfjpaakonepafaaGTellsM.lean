/- MatchTells: the plain law. -/
import Derived.Test.YtfjpaakonepafaaGSame
set_option linter.all false
namespace Go.R3M
open Go.Proofs Go.Ev
set_option maxRecDepth 100000
theorem rel_start : Rel 0 0 [] [] false [] [] := ⟨rfl, ⟨Int.le_refl _, Int.le_refl _⟩, .nil, .nil, .nil, (fun _ h => by cases h), (fun _ h => by cases h), Nat.le_refl _⟩
theorem of_both {c : List api_Inst} (hc : c.length ≤ 100000) : ∃ (q : Int) (S : List Span), S.length ≤ 1000000 ∧ Wp (fun k => match_Of.f k c) (· = (q, S)) ∧ Wp (fun k => ref7_Of.f k c) (· = (q, S.map conv)) := by
  by_cases h0 : c.length = 0
  · refine ⟨12, [], by simp, .succ ?_, .succ ?_⟩
    · simp only [match_Of.f]
      exact .pos (by omega) (.one rfl)
    · simp only [ref7_Of.f]
      refine .alt (Q := fun _ => True) (Q2 := fun _ => False) (Lp.wp (.stop (ref_out (i := 0) (by omega)) trivial)) (fun _ _ => .one rfl) (fun _ h => h.elim)
  · rcases both hc c.length 0 0 [] [] false [] [] (by omega) (by omega) rel_start with ⟨⟨d, op, dn⟩, h1, h2⟩ | ⟨d, op, dn, h1, h2, h3, h4⟩
    · refine ⟨12, [], by simp, .succ ?_, .succ ?_⟩
      · simp only [match_Of.f]
        refine .neg (by omega) (.alt (Q := fun _ => False) (Q2 := fun _ => True) (h1.wp.mono fun a ha => by subst ha; trivial) (fun _ h => h.elim) (fun o _ => .one rfl))
      · simp only [ref7_Of.f]
        refine .alt (Q := fun _ => True) (Q2 := fun o => o = (12, [])) (h2.wp.mono fun a ha => ?_) (fun _ _ => .one rfl) (fun o h => ?_)
        · rcases ha with rfl | rfl
          · trivial
          · rfl
        · subst h; exact .one rfl
    · by_cases h64 : d > 64
      · refine ⟨26, [], by simp, .succ ?_, .succ ?_⟩
        · simp only [match_Of.f]
          refine .neg (by omega) (.alt (Q := fun o => o.1 > 64) (Q2 := fun _ => False) (h1.wp.mono fun a ha => by subst ha; exact h64) (fun o h => ?_) (fun _ h => h.elim))
          obtain ⟨a, b, e⟩ := o
          exact .pos h (.one rfl)
        · simp only [ref7_Of.f]
          refine .alt (Q := fun _ => False) (Q2 := fun o => o = (26, [])) (h2.wp.mono fun a ha => ?_) (fun _ h => h.elim) (fun o h => ?_)
          · subst ha; rw [if_pos h64]; rfl
          · subst h; exact .one rfl
      · refine ⟨0, isortBy kAt dn, by rw [isort_len]; exact h4, .succ ?_, .succ ?_⟩
        · simp only [match_Of.f]
          refine .neg (by omega) (.alt (Q := fun o => o.1 = d ∧ o.2.2 = dn) (Q2 := fun _ => False) (h1.wp.mono fun a ha => by subst ha; exact ⟨rfl, rfl⟩) (fun o h => ?_) (fun _ h => h.elim))
          obtain ⟨a, b, e⟩ := o
          obtain ⟨h5, h6⟩ := h
          dsimp only at h5 h6 ⊢
          subst h5; subst h6
          refine .neg h64 (.bind (Q := fun _ => True) ⟨(), trivial, 1, fun k hk => ?_⟩ (fun _ _ => .one rfl))
          obtain ⟨k, rfl⟩ : ∃ j, k = j + 1 := ⟨k - 1, by omega⟩
          simp only [sortO]
          rw [if_pos ⟨h3, by omega⟩]
        · simp only [ref7_Of.f]
          refine .alt (Q := fun _ => False) (Q2 := fun o => o = (0, (isortBy kAt dn).map conv)) (h2.wp.mono fun a ha => ?_) (fun _ h => h.elim) (fun o h => ?_)
          · subst ha; rw [if_neg h64]; rfl
          · subst h; exact .one rfl
/-! ### Find -/
def findR (S : List Span) (a : Int) : Span × Bool := match S.find? (fun s => s.At == a) with
  | some s => (s, true)
  | none => (⟨0, 0, 0⟩, false)
theorem find_drop {α : Type} (p : α → Bool) (S : List α) {v : Nat} {x : α} (hx : S[v]? = some x) : (S.drop v).find? p = if p x then some x else (S.drop (v + 1)).find? p := by
  obtain ⟨hlt, rfl⟩ := List.getElem?_eq_some_iff.1 hx
  rw [List.drop_eq_getElem_cons hlt, List.find?_cons]
  split <;> rename_i h <;> simp [h]
def outR (o : Option Span) : Unit ⊕ (Int × Int × Int) := match o with
  | some s => .inr (s.At, s.Else, s.End)
  | none => .inl ()
theorem mfind_lp (S : List Span) (a : Int) (hS : S.length ≤ 1000000) : ∀ (n v : Nat), v + n = S.length → Lp (fun k => match_Find.b2 k a S) (v : Int) (· = outR ((S.drop v).find? (fun s => s.At == a)))
  | 0, v, h => by
    refine .step ?_
    simp only [match_Find.b2]
    refine .neg (by omega) (.right ?_)
    rw [List.drop_eq_nil_of_le (by omega)]; rfl
  | n + 1, v, h => by
    refine .step ?_
    simp only [match_Find.b2]
    have hg : S[v]? = some S[v] := List.getElem?_eq_getElem (by omega)
    rw [find_drop _ S hg]
    generalize S[v] = x at hg
    refine .pos (by omega) (.pos ⟨by omega, by omega⟩ (.bind (Q := (· = x)) ⟨x, rfl, 0, fun _ _ => by rw [Int.toNat_natCast]; exact hg⟩ (fun y hy => ?_)))
    subst hy
    refine .ite (fun h1 => .right ?_) (fun h1 => .left ?_)
    · rw [if_pos (by simpa using h1)]; rfl
    · rw [if_neg (by simpa using h1), iadd64 (by omega) (by omega)]
      exact mfind_lp S a hS n (v + 1) (by omega)
theorem rfind_lp (S : List Span) (a : Int) (hS : S.length ≤ 1000000) : ∀ (n v : Nat), v + n = S.length → Lp (fun k => ref7_Find.b2 k a (S.map conv)) (v : Int) (· = outR ((S.drop v).find? (fun s => s.At == a)))
  | 0, v, h => by
    refine .step ?_
    simp only [ref7_Find.b2]
    refine .neg (by rw [List.length_map]; omega) (.right ?_)
    rw [List.drop_eq_nil_of_le (by omega)]; rfl
  | n + 1, v, h => by
    refine .step ?_
    simp only [ref7_Find.b2, List.length_map]
    have hg : S[v]? = some S[v] := List.getElem?_eq_getElem (by omega)
    rw [find_drop _ S hg]
    generalize S[v] = x at hg
    have gw : Wp (fun _ => (S.map conv)[((v : Nat) : Int).toNat]?) (· = conv x) := ⟨_, rfl, 0, fun _ _ => by rw [Int.toNat_natCast, List.getElem?_map, hg]; rfl⟩
    refine .pos (by omega) (.pos ⟨by omega, by omega⟩ (.bind gw (fun y hy => ?_)))
    subst hy
    refine .ite (fun h1 => .pos ⟨by omega, by omega⟩ (.bind gw (fun z hz => .right ?_))) (fun h1 => .left ?_)
    · subst hz
      rw [if_pos (by simpa [conv] using h1)]; rfl
    · rw [if_neg (by simpa [conv] using h1), iadd64 (by omega) (by omega)]
      exact rfind_lp S a hS n (v + 1) (by omega)
theorem mfind_wp {S : List Span} (a : Int) (hS : S.length ≤ 1000000) : Wp (fun k => match_Find.f k a S) (· = findR S a) := by
  refine .succ ?_
  simp only [match_Find.f]
  have h := (mfind_lp S a hS S.length 0 (by omega)).wp
  rw [List.drop_zero] at h
  unfold findR
  cases hf : S.find? (fun s => s.At == a) with
  | none =>
    rw [hf] at h
    exact .alt (Q := fun _ => True) (Q2 := fun _ => False) (h.mono fun o ho => by subst ho; trivial) (fun _ _ => .one rfl) (fun _ h => h.elim)
  | some s =>
    rw [hf] at h
    refine .alt (Q := fun _ => False) (Q2 := fun o => o = (s.At, s.Else, s.End)) (h.mono fun o ho => by subst ho; rfl) (fun _ h => h.elim) (fun o ho => ?_)
    subst ho
    exact .one rfl
theorem rfind_wp {S : List Span} (a : Int) (hS : S.length ≤ 1000000) : Wp (fun k => ref7_Find.f k a (S.map conv)) (· = (conv (findR S a).1, (findR S a).2)) := by
  refine .succ ?_
  simp only [ref7_Find.f]
  have h := (rfind_lp S a hS S.length 0 (by omega)).wp
  rw [List.drop_zero] at h
  unfold findR
  cases hf : S.find? (fun s => s.At == a) with
  | none =>
    rw [hf] at h
    exact .alt (Q := fun _ => True) (Q2 := fun _ => False) (h.mono fun o ho => by subst ho; trivial) (fun _ _ => .one rfl) (fun _ h => h.elim)
  | some s =>
    rw [hf] at h
    refine .alt (Q := fun _ => False) (Q2 := fun o => o = (s.At, s.Else, s.End)) (h.mono fun o ho => by subst ho; rfl) (fun _ h => h.elim) (fun o ho => ?_)
    subst ho
    exact .one rfl
/-! ### same -/
theorem same_wp {c : List api_Inst} (hc : c.length ≤ 100000) : Wp (fun k => law7_same.f k c) (· = true) := by
  obtain ⟨q, S, hS, h1, h2⟩ := of_both hc
  refine .succ ?_
  simp only [law7_same.f]
  refine .bind h1 (fun r hr => ?_)
  subst hr
  refine .bind h2 (fun r hr => ?_)
  subst hr
  refine .pos rfl (.pos (by rw [List.length_map]) (.alt (Q := fun _ => True) (Q2 := fun _ => False) ?_ (fun _ _ => .alt (Q := fun _ => True) (Q2 := fun _ => False) ?_ (fun _ _ => .one rfl) (fun _ h => h.elim)) (fun _ h => h.elim)))
  · refine .loop (fun (n : Nat) (v : Int) => 0 ≤ v ∧ v + (n : Int) = S.length) (fun n v hv => ?_) (n := S.length) ⟨by simp, by simp⟩
    simp only [law7_same.b6, List.length_map]
    refine .ite (fun hi => ?_) (fun _ => .right (show Either (fun _ => True) (fun _ => False) (.inl ()) from trivial))
    have hl : v.toNat < S.length := by omega
    have hg : S[v.toNat]? = some S[v.toNat] := List.getElem?_eq_getElem hl
    generalize S[v.toNat] = x at hg
    have gm : Wp (fun _ => S[v.toNat]?) (· = x) := ⟨_, rfl, 0, fun _ _ => hg⟩
    have gw : Wp (fun _ => (S.map conv)[v.toNat]?) (· = conv x) := ⟨_, rfl, 0, fun _ _ => by rw [List.getElem?_map, hg]; rfl⟩
    have b0 : (0 : Int) ≤ v ∧ v < (S.length : Int) := ⟨hv.1, hi⟩
    refine .pos b0 (.bind gm (fun a ha => .pos b0 (.bind gw (fun b hb => ?_))))
    subst ha; subst hb
    refine .pos rfl (.pos b0 (.bind gm (fun a' ha => .pos b0 (.bind gw (fun b hb => ?_)))))
    subst ha; subst hb
    refine .pos rfl (.pos b0 (.bind gm (fun a ha => .pos b0 (.bind gw (fun b hb => ?_)))))
    subst ha; subst hb
    exact .pos rfl (.left ⟨n - 1, by omega, by rw [iadd64 (by omega) (by omega)]; omega, by rw [iadd64 (by omega) (by omega)]; omega⟩)
  · refine .loop (fun (n : Nat) (v : Int) => -1 ≤ v ∧ v + (n : Int) = 8) (fun n v hv => ?_) (n := 9) ⟨by decide, by decide⟩
    simp only [law7_same.b11]
    refine .ite (fun hi => ?_) (fun _ => .right (show Either (fun _ => True) (fun _ => False) (.inl ()) from trivial))
    refine .bind (mfind_wp v hS) (fun r hr => ?_)
    subst hr
    refine .bind (rfind_wp v hS) (fun r hr => ?_)
    subst hr
    generalize findR S v = f
    obtain ⟨s, b⟩ := f
    dsimp only
    refine .neg (by simp) (.pos rfl (.pos rfl (.pos rfl (.left ⟨n - 1, by omega, ?_⟩))))
    rw [iadd64 (by omega) (by omega)]
    omega
/-! ### the rows, the known -/
theorem ten_get (i : Int) : ∃ v, 0 ≤ irem .i64 (iadd .i64 (irem .i64 i 10) 10) 10 ∧ irem .i64 (iadd .i64 (irem .i64 i 10) 10) 10 < 10 ∧ ([(2 : Int), (3 : Int), (4 : Int), (4 : Int), (5 : Int), (11 : Int), (11 : Int), (11 : Int), (1 : Int), (106 : Int)] : List Int)[(irem .i64 (iadd .i64 (irem .i64 i 10) 10) 10).toNat]? = some v := by
  have e1 : -10 < irem .i64 i 10 := by unfold irem; exact Int.lt_tmod_of_pos _ (by decide)
  have e2 : irem .i64 i 10 < 10 := by unfold irem; exact Int.tmod_lt_of_pos _ (by decide)
  generalize irem .i64 i 10 = z at e1 e2
  rw [iadd64 (a := z) (by omega) (by omega), irem_ok (by omega)]
  have a1 : 0 ≤ (z + 10) % 10 := Int.emod_nonneg _ (by omega)
  have a2 : (z + 10) % 10 < 10 := Int.emod_lt_of_pos _ (by decide)
  exact ⟨_, a1, a2, List.getElem?_eq_getElem (by simp; omega)⟩
theorem row_wp (l : List Int) : Wp (fun k => law7_row.f k l) (fun r => r.length ≤ 60) := by
  refine .succ ?_
  simp only [law7_row.f]
  refine .bind (Q := fun r => r.length ≤ 60) ?_ (fun r hr => .one hr)
  refine .loop (fun (n : Nat) (v : Int × List api_Inst) => 0 ≤ v.1 ∧ v.1 + (n : Int) = 60 ∧ (v.2.length : Int) = v.1) (fun n v hv => ?_) (n := 60) ⟨by simp, by simp, by simp⟩
  obtain ⟨i, h⟩ := v
  obtain ⟨h1, h2, h3⟩ := hv
  dsimp only at h1 h2 h3
  simp only [law7_row.b3]
  refine .ite (fun hi => .ite (fun h60 => ?_) (fun _ => .right (by omega))) (fun _ => .right (by omega))
  refine .bind (.idx h1 hi) (fun x _ => ?_)
  obtain ⟨v, g1, g2, g3⟩ := ten_get x
  refine .pos ⟨g1, g2⟩ (.bind (Q := fun _ => True) ⟨v, trivial, 0, fun _ _ => g3⟩ (fun y _ => .pos (room_small (by omega) (by omega)) (.left ⟨n - 1, by omega, ?_⟩)))
  rw [iadd64 (by omega) (by omega)]
  dsimp only
  exact ⟨by omega, by omega, by simp; omega⟩
theorem known7 (j : Nat) : law7_known.f (j + 60) = some true := by kernel_rfl
theorem known7_wp : Wp (fun k => law7_known.f k) (· = true) := by
  refine .at_ 60 (fun k hk => ?_) rfl
  obtain ⟨k, rfl⟩ : ∃ j, k = j + 60 := ⟨k - 60, by omega⟩
  exact known7 k
theorem tells_wp {l tape : List Int} {odd : List plainsongkeep_Turn} (ht : tape.length ≤ bigN) : Wp (fun k => law7_MatchTells.f k l tape odd) (· = true) := by
  refine .succ ?_
  simp only [law7_MatchTells.f]
  refine .bind (module_wp ht) (fun r hr => ?_)
  obtain ⟨T, I, G, D, F, M, E⟩ := r
  refine .bind (Odd_wp (odd_start hr)) (fun m hm => ?_)
  refine .alt (Q := fun _ => True) (Q2 := fun _ => False) ?_ (fun _ _ => ?_) (fun _ h => h.elim)
  · have hf := hm.f
    refine .loop (fun (n : Nat) (v : Int) => 0 ≤ v ∧ v + (n : Int) = m.Funcs.length) (fun n v hv => ?_) (n := m.Funcs.length) ⟨by simp, by simp⟩
    simp only [law7_MatchTells.b3]
    refine .ite (fun hi => ?_) (fun _ => .right (show Either (fun _ => True) (fun _ => False) (.inl ()) from trivial))
    refine .bind (.idx hv.1 hi) (fun f hf' => ?_)
    have := (hm.fs f (List.mem_of_getElem? hf')).1
    refine .bind (same_wp (by omega)) (fun b hb => ?_)
    subst hb
    exact .neg (by decide) (.left ⟨n - 1, by omega, by rw [iadd64 (by omega) (by omega)]; omega, by rw [iadd64 (by omega) (by omega)]; omega⟩)
  · refine .bind (row_wp l) (fun r hr => .bind (same_wp (by omega)) (fun b hb => .pos hb (.bind (row_wp l) (fun r hr => .pos (room_small (by omega) (by omega)) (.bind (same_wp (by simp; omega)) (fun b hb => .pos hb (.bind known7_wp (fun r hr => .one hr))))))))
def api_Inst.wf (x : api_Inst) : Prop := inR .i64 x.Op ∧ inR .i64 x.A ∧ inR .i64 x.B ∧ inR .u64 x.N ∧ x.L.length * 8 ≤ bigN ∧ (∀ y ∈ x.L, inR .i64 y)
theorem api_Inst.dec {n : Nat} {cs : List FV} (h : Fits Try.prog (n + 7) 41 cs) : ∃ x : api_Inst, cs = x.e ∧ x.wf := by
  obtain ⟨parts, rfl, hl, hp⟩ := Fits.struct (n := n + 6) Try.underlying41 h
  match parts, hl with
  | [p0, p1, p2, p3, p4], _ =>
    have h0 := hp 0 _ p0 rfl rfl
    obtain ⟨x0, rfl, w0⟩ := Fits.int (n := n + 5) Try.underlying3 h0
    have h1 := hp 1 _ p1 rfl rfl
    obtain ⟨x1, rfl, w1⟩ := Fits.int (n := n + 5) Try.underlying3 h1
    have h2 := hp 2 _ p2 rfl rfl
    obtain ⟨x2, rfl, w2⟩ := Fits.int (n := n + 5) Try.underlying3 h2
    have h3 := hp 3 _ p3 rfl rfl
    obtain ⟨x3, rfl, w3⟩ := Fits.int (n := n + 5) Try.underlying39 h3
    have h4 := hp 4 _ p4 rfl rfl
    obtain ⟨x4, rfl, z4, w4⟩ := (Fits.slice (n := n + 5) (sz := 1) (by_ := 8) Try.underlying22 (by kernel_rfl) (by kernel_rfl) (fun _ h => Fits.int Try.underlying3 h)) h4
    exact ⟨⟨x0, x1, x2, x3, x4⟩, rfl, w0, w1, w2, w3, z4, w4⟩
def plainsongkeep_Turn.wf (x : plainsongkeep_Turn) : Prop := inR .i64 x.What ∧ inR .i64 x.At ∧ inR .i64 x.To ∧ inR .u64 x.N ∧ api_Inst.wf x.Raw
theorem plainsongkeep_Turn.dec {n : Nat} {cs : List FV} (h : Fits Try.prog (n + 8) 103 cs) : ∃ x : plainsongkeep_Turn, cs = x.e ∧ x.wf := by
  obtain ⟨parts, rfl, hl, hp⟩ := Fits.struct (n := n + 7) Try.underlying103 h
  match parts, hl with
  | [p0, p1, p2, p3, p4], _ =>
    have h0 := hp 0 _ p0 rfl rfl
    obtain ⟨x0, rfl, w0⟩ := Fits.int (n := n + 6) Try.underlying3 h0
    have h1 := hp 1 _ p1 rfl rfl
    obtain ⟨x1, rfl, w1⟩ := Fits.int (n := n + 6) Try.underlying3 h1
    have h2 := hp 2 _ p2 rfl rfl
    obtain ⟨x2, rfl, w2⟩ := Fits.int (n := n + 6) Try.underlying3 h2
    have h3 := hp 3 _ p3 rfl rfl
    obtain ⟨x3, rfl, w3⟩ := Fits.int (n := n + 6) Try.underlying39 h3
    have h4 := hp 4 _ p4 rfl rfl
    obtain ⟨x4, rfl, w4⟩ := api_Inst.dec (n := n) h4
    exact ⟨⟨x0, x1, x2, x3, x4⟩, rfl, w0, w1, w2, w3, w4⟩
theorem MatchTells {l tape : List Int} {odd : List plainsongkeep_Turn} (_ : l.length * 8 ≤ bigN) (_ : ∀ x ∈ l, inR .i64 x) (h2 : tape.length * 8 ≤ bigN) (_ : ∀ x ∈ tape, inR .i64 x) {n : Nat} (_ : odd.length * n ≤ bigN) {P : plainsongkeep_Turn → Prop} (_ : ∀ x ∈ odd, P x) : ∃ k, law7_MatchTells.f k l tape odd = some true :=
  (tells_wp (by omega)).fuel
end Go.R3M
