/- draft.Leave: labels that lead out of code are more; DraftLeaves. -/
import Derived.Test.YtfjpaakonepafaaGMod
import Derived.Test.YtfjpaakonepafaaGL
set_option linter.all false
namespace Go.R3M
open Go.Proofs Go.Ev
set_option maxRecDepth 100000

def labelS (n d b : Int) : Int := if n < d then n else if 0 ≤ n + b ∧ n + b ≤ 1073741824 then n + b else n
def Near (n : Int) : Prop := -2000000000 ≤ n ∧ n ≤ 2000000000
theorem more_wp {n b : Int} (hn : Near n) (hb : -1000000 ≤ b ∧ b ≤ 1000000) : Wp (fun k => draft_more.f k n b) (· = if 0 ≤ n + b ∧ n + b ≤ 1073741824 then n + b else n) := by
  obtain ⟨h1, h2⟩ := hn
  refine .succ ?_
  simp only [draft_more.f]
  rw [iadd64 (by omega) (by omega)]
  have last : Wp (fun _ => if n + b < 0 then some n else if n + b > 1073741824 then some n else some (n + b)) (· = if 0 ≤ n + b ∧ n + b ≤ 1073741824 then n + b else n) := by
    refine .ite (fun h => .one ?_) (fun h => .ite (fun h => .one ?_) (fun h => .one ?_))
    · rw [if_neg (by omega)]
    · rw [if_neg (by omega)]
    · rw [if_pos (by omega)]
  refine .ite (fun h => .neg (by omega) (.neg (by omega) last)) (fun h => .ite (fun h => .neg (by omega) last) (fun h => last))
theorem label_wp {n d b : Int} (hn : Near n) (hb : -1000000 ≤ b ∧ b ≤ 1000000) : Wp (fun k => draft_label.f k n d b) (· = labelS n d b) := by
  refine .succ ?_
  simp only [draft_label.f, labelS]
  refine .ite (fun h => .one ?_) (fun h => .bind (more_wp hn hb) (fun r hr => .one ?_))
  · rw [if_pos h]
  · rw [if_neg h]; exact hr
/-- What becomes of an instruction, and of the depth. -/
def leaveI (b d : Int) (i : api_Inst) : api_Inst × Int :=
  if 2 ≤ i.Op ∧ i.Op ≤ 4 then (i, d + 1) else if i.Op = 11 then (i, if 0 < d then d - 1 else 0)
  else if i.Op = 12 ∨ i.Op = 13 then (⟨i.Op, labelS i.A d b, i.B, i.N, i.L⟩, d)
  else if i.Op = 14 then (⟨i.Op, i.A, i.B, i.N, i.L.map fun x => labelS x d b⟩, d) else (i, d)
def leaveL (b : Int) : Int → List api_Inst → List api_Inst
  | _, [] => []
  | d, i :: r => (leaveI b d i).1 :: leaveL b (leaveI b d i).2 r
theorem leaveL_len (b : Int) : ∀ (d : Int) (l : List api_Inst), (leaveL b d l).length = l.length
  | _, [] => rfl
  | d, i :: r => by simp [leaveL, leaveL_len b]
structure Small (i : api_Inst) : Prop where
  a : Near i.A
  l : ∀ x ∈ i.L, Near x
  n : i.L.length ≤ 1000000
theorem set_mid {α : Type} (a : List α) (x y : α) (r : List α) : (a ++ x :: r).set a.length y = a ++ y :: r := by
  rw [List.set_append_right _ _ (Nat.le_refl _), Nat.sub_self]; rfl
theorem get_mid {α : Type} (a : List α) (x : α) (r : List α) : (a ++ x :: r)[a.length]? = some x := by
  rw [List.getElem?_append_right (Nat.le_refl _), Nat.sub_self]; rfl
theorem labels_wp {b d : Int} {e : api_Inst} (hb : -1000000 ≤ b ∧ b ≤ 1000000) (hl : ∀ x ∈ e.L, Near x) (hn : e.L.length ≤ 1000000) :
    Wp (fun k => loopS (draft_Leave.b16 k b d e) k ((0 : Int), e.L)) (· = e.L.map fun x => labelS x d b) := by
  refine .loop (fun (n : Nat) (v : Int × List Int) => ∃ a r, e.L = a ++ r ∧ v.1 = a.length ∧ v.2 = (a.map fun x => labelS x d b) ++ r ∧ r.length = n) (fun n v hv => ?_) (n := e.L.length) ⟨[], e.L, rfl, rfl, rfl, rfl⟩
  obtain ⟨j, h⟩ := v
  obtain ⟨a, r, h1, h2, h3, h4⟩ := hv
  dsimp only at h2 h3
  subst h2; subst h3
  have hlen : e.L.length = a.length + r.length := by rw [h1, List.length_append]
  simp only [draft_Leave.b16]
  cases r with
  | nil =>
    refine .neg (by simp only [List.length_nil] at hlen; omega) (.right ?_)
    rw [h1, List.append_nil, List.append_nil]
  | cons x r =>
    simp only [List.length_cons] at hlen
    have ll : ((a.map fun x => labelS x d b) ++ x :: r).length = a.length + (r.length + 1) := by simp
    refine .pos (by omega) (.pos ⟨by omega, by omega⟩ ?_)
    have tn : ((a.length : Nat) : Int).toNat = (a.map fun x => labelS x d b).length := by simp
    have gx : ((a.map fun x => labelS x d b) ++ x :: r)[((a.length : Nat) : Int).toNat]? = some x := by rw [tn]; exact get_mid _ x r
    refine .bind (Q := fun y => y = x) ⟨x, rfl, 0, fun _ _ => gx⟩ (fun y hy => ?_)
    subst hy
    refine .bind (label_wp (hl y (by rw [h1]; simp)) hb) (fun z hz => ?_)
    subst hz
    refine .pos ⟨by omega, by omega⟩ (.bind (Q := fun y' => y' = y) ⟨y, rfl, 0, fun _ _ => gx⟩ (fun y' _ => ?_))
    refine .left ⟨r.length, by simp at h4; omega, a ++ [y], r, by rw [h1]; simp, ?_, ?_, rfl⟩
    · dsimp only; rw [iadd64 (by omega) (by omega)]; simp
    · dsimp only
      rw [tn, set_mid]
      simp
theorem leave_wp2 {b : Int} {code : List api_Inst} (hb : -1000000 ≤ b ∧ b ≤ 1000000) (hc : code.length ≤ 1000000) (hs : ∀ i ∈ code, Small i) : Wp (fun k => draft_Leave.f k code b) (· = leaveL b 0 code) := by
  refine .succ ?_
  simp only [draft_Leave.f]
  refine .bind (Q := fun _ => True) ⟨(), trivial, 1, fun k hk => tick_ok (room_small (by omega) (by omega)) hk⟩ (fun _ _ => ?_)
  refine .bind (Q := (· = leaveL b 0 code)) ?_ (fun r hr => .one hr)
  refine .loop (fun (n : Nat) (v : Int × Int × List api_Inst) => ∃ a r, v.2.2 = a ++ r ∧ v.2.1 = a.length ∧ a ++ leaveL b v.1 r = leaveL b 0 code ∧ r.length = n ∧ (∀ i ∈ r, Small i) ∧ 0 ≤ v.1 ∧ v.1 ≤ v.2.1 ∧ v.2.2.length = code.length) (fun n v hv => ?_) (n := code.length) ⟨[], code, rfl, rfl, rfl, rfl, hs, Int.le_refl _, Int.le_refl _, rfl⟩
  obtain ⟨d, j, h⟩ := v
  obtain ⟨a, r, h1, h2, h3, h4, h5, h6, h7, h8⟩ := hv
  dsimp only at h1 h2 h3 h6 h7 h8
  subst h2; subst h1
  simp only [draft_Leave.b4]
  have hlen := h8
  rw [List.length_append] at hlen
  cases r with
  | nil =>
    refine .neg (by simp only [List.length_nil] at hlen; omega) (.right ?_)
    simpa [leaveL] using h3
  | cons i r =>
    simp only [List.length_cons] at hlen
    have ll : (a ++ i :: r).length = code.length := h8
    have tn : ((a.length : Nat) : Int).toNat = a.length := by simp
    have gx : (a ++ i :: r)[((a.length : Nat) : Int).toNat]? = some i := by rw [tn]; exact get_mid a i r
    have si := h5 i (List.mem_cons_self ..)
    refine .pos (by omega) ?_
    refine .seg (Q := fun o => (⟨o.2.1, o.2.2.1, o.2.2.2.1, o.2.2.2.2.1, o.2.2.2.2.2⟩, o.1) = leaveI b d i) ?_ (fun o ho => ?_)
    · refine .pos ⟨by omega, by omega⟩ (.bind (Q := fun y => y = i) ⟨i, rfl, 0, fun _ _ => gx⟩ (fun y hy => ?_))
      subst hy
      have sn := si.n
      refine .bind (Q := fun _ => True) ⟨(), trivial, 1, fun k hk => tick_ok (room_small (by omega) (by omega)) hk⟩ (fun _ _ => ?_)
      refine .bind (Q := fun z => z = y) ⟨y, rfl, 0, fun _ _ => gx⟩ (fun z hz => ?_)
      subst hz
      refine .pos (by omega) ?_
      refine .bind (Q := fun x => x = decide (2 ≤ z.Op ∧ z.Op ≤ 4)) ?_ (fun x hx => ?_)
      · refine .succ ?_
        simp only [ops_Opens.f]
        refine .ite (fun h => .one ?_) (fun h => .one ?_)
        · simp [show 2 ≤ z.Op from h]
        · simp [show ¬ 2 ≤ z.Op from h]
      · subst hx
        unfold leaveI
        refine .ite (fun h => .left ?_) (fun h => ?_)
        · rw [decide_eq_true_eq] at h
          rw [if_pos h, iadd64 (by omega) (by omega)]
        · rw [decide_eq_true_eq] at h
          rw [if_neg h]
          refine .ite (fun h2 => .left ?_) (fun h2 => ?_)
          · rw [if_pos h2, isub64 (by omega) (by omega)]
            unfold imax
            by_cases hd : 0 < d
            · rw [if_pos hd]
              by_cases hd2 : d - 1 > 0
              · rw [if_pos hd2]
              · rw [if_neg hd2, show d - 1 = 0 by omega]
            · rw [if_neg hd, if_neg (by omega)]
          · rw [if_neg h2]
            refine .seg (Q := fun x => x = decide (z.Op = 12 ∨ z.Op = 13)) ?_ (fun x hx => ?_)
            · refine .ite (fun h => .left ?_) (fun h => .left ?_)
              · simp [h]
              · simp [h]
            · subst hx
              refine .ite (fun h3 => ?_) (fun h3 => ?_)
              · rw [decide_eq_true_eq] at h3
                rw [if_pos h3]
                exact .bind (label_wp si.a hb) (fun w hw => .left (by subst hw; rfl))
              · rw [decide_eq_true_eq] at h3
                rw [if_neg h3]
                refine .ite (fun h4 => ?_) (fun h4 => .left ?_)
                · rw [if_pos h4]
                  exact .bind (labels_wp hb si.l si.n) (fun w hw => .left (by subst hw; rfl))
                · rw [if_neg h4]
    · obtain ⟨d2, x1, x2, x3, x4, x5⟩ := o
      dsimp only at ho ⊢
      have hd : 0 ≤ d2 ∧ d2 ≤ d + 1 := by
        have := congrArg Prod.snd ho
        dsimp only at this
        rw [this]
        unfold leaveI
        split
        · dsimp only; omega
        · split
          · dsimp only; split <;> omega
          · split
            · dsimp only; omega
            · split <;> dsimp only <;> omega
      refine .pos (by omega) (.left ⟨r.length, by simp at h4; omega, a ++ [⟨x1, x2, x3, x4, x5⟩], r, ?_, ?_, ?_, rfl, fun i hi => h5 i (List.mem_cons_of_mem _ hi), hd.1, ?_, ?_⟩)
      · dsimp only; rw [tn, set_mid]; simp
      · dsimp only; rw [iadd64 (by omega) (by omega)]; simp
      · dsimp only
        rw [← h3, leaveL, ← ho]
        simp
      · dsimp only; rw [iadd64 (by omega) (by omega)]; omega
      · dsimp only; rw [List.length_set]; exact ll
/-! what modules hold is small -/
theorem small_nil {o a b n : Int} (h : Near a) : Small ⟨o, a, b, n, []⟩ := ⟨h, (fun x hx => by cases hx), by simp⟩
theorem Fine.small {i : api_Inst} (h : Fine i) : Small i := by
  cases h <;> first | exact small_nil (by constructor <;> omega) | skip
  rename_i l h1 h2 h3
  refine ⟨by constructor <;> (dsimp only; omega), fun x hx => ?_, by dsimp only; omega⟩
  have := h3 x hx
  exact ⟨by omega, by omega⟩
theorem Seq.small {n : Nat} {c : List api_Inst} (h : Seq n c) : ∀ i ∈ c, Small i := by
  have nil : ∀ {o a : Int}, -4 ≤ a → a < 9 → Small ⟨o, a, 0, 0, []⟩ := fun h1 h2 => small_nil ⟨by omega, by omega⟩
  induction h with
  | nil => intro i hi; cases hi
  | one h => intro i hi; rw [List.mem_singleton] at hi; subst hi; exact h.small
  | app _ _ ha hb => intro i hi; rcases List.mem_append.1 hi with h | h; exact ha i h; exact hb i h
  | blk _ h1 h2 _ ih =>
    intro i hi
    rcases List.mem_cons.1 hi with rfl | hi
    · exact nil h1 h2
    · rcases List.mem_append.1 hi with h | h
      · exact ih i h
      · rw [List.mem_singleton] at h; subst h; exact nil (by decide) (by decide)
  | ite h1 h2 _ _ ih1 ih2 =>
    intro i hi
    rcases List.mem_cons.1 hi with rfl | hi
    · exact nil h1 h2
    · rcases List.mem_append.1 hi with h | h
      · exact ih1 i h
      · rcases List.mem_cons.1 h with rfl | h
        · exact nil (by decide) (by decide)
        · rcases List.mem_append.1 h with h | h
          · exact ih2 i h
          · rw [List.mem_singleton] at h; subst h; exact nil (by decide) (by decide)
theorem CodeOk.small {c : List api_Inst} (h : CodeOk c) : ∀ i ∈ c, Small i := by
  obtain ⟨_, b, rfl, hs⟩ := h
  intro i hi
  rcases List.mem_append.1 hi with h | h
  · exact hs.small i h
  · rw [List.mem_singleton] at h; subst h; exact small_nil (by constructor <;> decide)
/-! what labels of modules are: no more than a few -/
theorem Fine.few {i : api_Inst} (h : Fine i) : -4 ≤ i.A ∧ i.A < 100 := by cases h <;> dsimp only <;> omega
theorem Seq.few {n : Nat} {c : List api_Inst} (h : Seq n c) : ∀ i ∈ c, -4 ≤ i.A ∧ i.A < 100 := by
  induction h with
  | nil => intro i hi; cases hi
  | one h => intro i hi; rw [List.mem_singleton] at hi; subst hi; exact h.few
  | app _ _ ha hb => intro i hi; rcases List.mem_append.1 hi with h | h; exact ha i h; exact hb i h
  | blk _ h1 h2 _ ih =>
    intro i hi
    rcases List.mem_cons.1 hi with rfl | hi
    · dsimp only; omega
    · rcases List.mem_append.1 hi with h | h
      · exact ih i h
      · rw [List.mem_singleton] at h; subst h; decide
  | ite h1 h2 _ _ ih1 ih2 =>
    intro i hi
    rcases List.mem_cons.1 hi with rfl | hi
    · dsimp only; omega
    · rcases List.mem_append.1 hi with h | h
      · exact ih1 i h
      · rcases List.mem_cons.1 h with rfl | h
        · decide
        · rcases List.mem_append.1 h with h | h
          · exact ih2 i h
          · rw [List.mem_singleton] at h; subst h; decide
theorem CodeOk.few {c : List api_Inst} (h : CodeOk c) : ∀ i ∈ c, -4 ≤ i.A ∧ i.A < 100 := by
  obtain ⟨_, b, rfl, hs⟩ := h
  intro i hi
  rcases List.mem_append.1 hi with h | h
  · exact hs.few i h
  · rw [List.mem_singleton] at h; subst h; decide
theorem known16 (j : Nat) : law16_known.f (j + 60) = some true := by kernel_rfl
theorem known16_wp : Wp (fun k => law16_known.f k) (· = true) := by
  refine .at_ 60 (fun k hk => ?_) rfl
  obtain ⟨k, rfl⟩ : ∃ j, k = j + 60 := ⟨k - 60, by omega⟩
  exact known16 k
theorem leaves_wp {l : List Int} {b : Int} (hl : l.length ≤ bigN) : Wp (fun k => law16_DraftLeaves.f k l b) (· = true) := by
  refine .succ ?_
  simp only [law16_DraftLeaves.f]
  refine .bind (module_wp hl) (fun r hm => ?_)
  obtain ⟨T, I, G, D, F, M, E⟩ := r
  dsimp only at hm ⊢
  refine .bind (within_wp (by decide) (by decide) (by decide)) (fun b hb => ?_)
  refine .alt (Q := fun _ => True) (Q2 := fun _ => False) ?_ (fun o _ => .bind known16_wp (fun r hr => .one hr)) (fun o ho => ho.elim)
  obtain ⟨f1, f2, f3⟩ := hm.funcs
  refine .loop (fun (n : Nat) (v : Int) => 0 ≤ v ∧ v + (n : Int) = F.length) (fun n v hv => ?_) (n := F.length) ⟨by simp, by simp⟩
  simp only [law16_DraftLeaves.b4]
  refine .ite (fun hi => ?_) (fun _ => .right (show Either (fun _ => True) (fun _ => False) (.inl ()) from trivial))
  refine .pos ⟨hv.1, hi⟩ (.bind (.get (by omega)) (fun f hf => ?_))
  obtain ⟨g1, g2⟩ := f3 f (List.mem_of_getElem? hf)
  have hlen : f.Code.length ≤ 20000 := g2.1
  refine .bind (leave_wp2 (by omega) (by omega) g2.small) (fun c hc => ?_)
  subst hc
  have ll := leaveL_len b 0 f.Code
  refine .pos (by omega) ?_
  refine .alt (Q := fun _ => True) (Q2 := fun _ => False) ?_ (fun o _ => .left ⟨n - 1, by omega, ?_, ?_⟩) (fun o ho => ho.elim)
  · refine .loop (fun (m : Nat) (v : Int × Int) => ∃ a a' r, f.Code = a ++ r ∧ leaveL b 0 f.Code = a' ++ leaveL b v.1 r ∧ a'.length = a.length ∧ v.2 = a.length ∧ r.length = m ∧ (∀ i ∈ r, -4 ≤ i.A ∧ i.A < 100) ∧ 0 ≤ v.1 ∧ v.1 ≤ v.2) (fun m v hv => ?_) (n := f.Code.length)
      ⟨[], [], f.Code, rfl, rfl, rfl, rfl, rfl, g2.few, Int.le_refl _, Int.le_refl _⟩
    obtain ⟨d, x⟩ := v
    obtain ⟨a, a', r, h1, h2, h3, h4, h5, h6, h7, h8⟩ := hv
    dsimp only at h2 h4 h7 h8
    subst h4
    have cl : f.Code.length = a.length + r.length := by rw [h1, List.length_append]
    simp only [law16_DraftLeaves.b11]
    rw [ll]
    cases r with
    | nil => exact .neg (by simp only [List.length_nil] at cl; omega) (.right (show Either (fun _ => True) (fun _ => False) (.inl ()) from trivial))
    | cons i r =>
      simp only [List.length_cons] at cl h5
      obtain ⟨ia0, ia1⟩ := h6 i (List.mem_cons_self ..)
      have tn : ((a.length : Nat) : Int).toNat = a.length := by simp
      refine .pos (by omega) ?_
      have hd2 : 0 ≤ (leaveI b d i).2 ∧ (leaveI b d i).2 ≤ d + 1 := by
        unfold leaveI
        split
        · dsimp only; omega
        · split
          · dsimp only; split <;> omega
          · split
            · dsimp only; omega
            · split <;> dsimp only <;> omega
      refine .seg (Q := fun o => o = (leaveI b d i).2) ?_ (fun o ho => ?_)
      · refine .bind (Q := fun y => y = i) ⟨i, rfl, 0, fun _ _ => ?_⟩ (fun y hy => ?_)
        · rw [at?_nat, h1]; exact get_mid a i r
        · subst hy
          refine .pos ⟨by omega, by omega⟩ (.bind (Q := fun z => z = (leaveI b d y).1) ⟨_, rfl, 0, fun _ _ => ?_⟩ (fun z hz => ?_))
          · rw [h2, tn, ← h3, leaveL]; exact get_mid a' _ _
          · subst hz
            refine .seg (Q := fun o => o = (leaveI b d y).2) ?_ (fun o ho => ?_)
            · refine .bind (Q := fun x => x = decide (2 ≤ y.Op ∧ y.Op ≤ 4)) ?_ (fun x hx => ?_)
              · refine .succ ?_
                simp only [ref3_Opens.f]
                refine .ite (fun h => .one ?_) (fun h => .one ?_)
                · simp [show 2 ≤ y.Op from h]
                · simp [show ¬ 2 ≤ y.Op from h]
              · subst hx
                unfold leaveI
                refine .ite (fun h => .left ?_) (fun h => ?_)
                · rw [decide_eq_true_eq] at h
                  rw [if_pos h, iadd64 (by omega) (by omega)]
                · rw [decide_eq_true_eq] at h
                  rw [if_neg h]
                  refine .ite (fun h2 => ?_) (fun h2 => .left ?_)
                  · rw [if_pos h2]
                    refine .ite (fun h3 => .left ?_) (fun h3 => .left ?_)
                    · rw [isub64 (by omega) (by omega), if_pos h3]
                    · rw [if_neg h3]; omega
                  · rw [if_neg h2]
                    split
                    · rfl
                    · split <;> rfl
            · subst ho
              refine .seg (Q := fun _ => y.Op = 12 ∨ y.Op = 13) ?_ (fun o ho => ?_)
              · refine .ite (fun h => .left (.inl h)) (fun h => .ite (fun h => .left (.inr h)) (fun h => .right (Q := _) (P := Either _ _) (show Either _ _ (.inl _) from rfl)))
              · have e : leaveI b d y = (⟨y.Op, labelS y.A d b, y.B, y.N, y.L⟩, d) := by
                  unfold leaveI
                  rw [if_neg (by omega), if_neg (by omega), if_pos ho]
                rw [e]
                dsimp only
                refine .ite (fun hA => ?_) (fun hA => ?_)
                · rw [show labelS y.A d b = y.A by unfold labelS; rw [if_pos hA]]
                  exact .pos rfl (.neg (by omega) (.left rfl))
                · rw [show labelS y.A d b = y.A + b by unfold labelS; rw [if_neg hA, if_pos (by omega)], iadd64 (by omega) (by omega)]
                  exact .pos (by omega) (.pos rfl (.left rfl))
      · subst ho
        refine .left ⟨r.length, by omega, a ++ [i], a' ++ [(leaveI b d i).1], r, by rw [h1]; simp, ?_, by simp [h3], ?_, rfl, fun j hj => h6 j (List.mem_cons_of_mem _ hj), hd2.1, ?_⟩
        · dsimp only; rw [h2, leaveL]; simp
        · dsimp only; rw [iadd64 (by omega) (by omega)]; simp
        · dsimp only; rw [iadd64 (by omega) (by omega)]; omega
  · rw [iadd64 (by omega) (by omega)]; omega
  · rw [iadd64 (by omega) (by omega)]; omega
theorem DraftLeaves {tape : List Int} {b : Int} (hl : tape.length * 8 ≤ bigN) (_ : ∀ x ∈ tape, inR .i64 x) (_ : inR .i64 b) : ∃ k, law16_DraftLeaves.f k tape b = some true :=
  (leaves_wp (by omega)).fuel
end Go.R3M
