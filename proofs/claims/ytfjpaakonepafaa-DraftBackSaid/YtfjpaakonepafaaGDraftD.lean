import Derived.Test.YtfjpaakonepafaaGModD
import Derived.Test.YtfjpaakonepafaaGDc
set_option linter.all false
namespace Go.R3K
open Go.Proofs Go.Ev Mo
set_option maxRecDepth 100000
def labelS (n d b : Int) : Int := if n < d then n else if 0 ≤ n + b ∧ n + b ≤ 1073741824 then n + b else n
def Near (n : Int) : Prop := -2000000000 ≤ n ∧ n ≤ 2000000000
theorem more_wp {n b : Int} (hn : Near n) (hb : -1000000 ≤ b ∧ b ≤ 1000000) : Wp (fun k => draft_more.f k n b) (· = if 0 ≤ n + b ∧ n + b ≤ 1073741824 then n + b else n) := by
 obtain ⟨h1, h2⟩ := hn
 refine .succ ?_
 simp only [draft_more.f]
 rw [iadd64 (by omega) (by omega)]
 have last : Wp (fun _ => if n + b < 0 then some n else if n + b > 1073741824 then some n else some (n + b)) (· = if 0 ≤ n + b ∧ n + b ≤ 1073741824 then n + b else n) := by
  refine .ite (fun h => .one ?_) (fun h => .ite (fun h => .one ?_) (fun h => .one ?_))
  ·rw [if_neg (by omega)]
  ·rw [if_neg (by omega)]
  ·rw [if_pos (by omega)]
 refine .ite (fun h => .neg (by omega) (.neg (by omega) last)) (fun h => .ite (fun h => .neg (by omega) last) (fun h => last))
theorem label_wp {n d b : Int} (hn : Near n) (hb : -1000000 ≤ b ∧ b ≤ 1000000) : Wp (fun k => draft_label.f k n d b) (· = labelS n d b) := by
 refine .succ ?_
 simp only [draft_label.f, labelS]
 refine .ite (fun h => .one ?_) (fun h => .bind (more_wp hn hb) (fun r hr => .one ?_))
 ·rw [if_pos h]
 ·rw [if_neg h]; exact hr
def leaveI (b d : Int) (i : AInst) : AInst × Int :=
 if 2 ≤ i.Op ∧ i.Op ≤ 4 then (i, d + 1) else if i.Op = 11 then (i, if 0 < d then d - 1 else 0)
 else if i.Op = 12 ∨ i.Op = 13 then (⟨i.Op, labelS i.A d b, i.B, i.N, i.L⟩, d)
 else if i.Op = 14 then (⟨i.Op, i.A, i.B, i.N, i.L.map fun x => labelS x d b⟩, d) else (i, d)
def leaveL (b : Int) : Int → List AInst → List AInst
 | _, [] => []
 | d, i :: r => (leaveI b d i).1 :: leaveL b (leaveI b d i).2 r
theorem leaveL_len (b : Int) : ∀ (d : Int) (l : List AInst), (leaveL b d l).length = l.length
 | _, [] => rfl
 | d, i :: r => by simp [leaveL, leaveL_len b]
structure Small (i : AInst) : Prop where
 a : Near i.A
 l : ∀ x ∈ i.L, Near x
 n : i.L.length ≤ 1000000
theorem set_mid {α : Type} (a : List α) (x y : α) (r : List α) : (a ++ x :: r).set a.length y = a ++ y :: r := by
 rw [List.set_append_right _ _ (Nat.le_refl _), Nat.sub_self]; rfl
theorem get_mid {α : Type} (a : List α) (x : α) (r : List α) : (a ++ x :: r)[a.length]? = some x := by
 rw [List.getElem?_append_right (Nat.le_refl _), Nat.sub_self]; rfl
theorem labels_wp {b d : Int} {e : AInst} (hb : -1000000 ≤ b ∧ b ≤ 1000000) (hl : ∀ x ∈ e.L, Near x) (hn : e.L.length ≤ 1000000) :
  Wp (fun k => loopS (draft_Leave.b16 k b d e) k ((0 : Int), e.L)) (· = e.L.map fun x => labelS x d b) := by
 refine .loop (fun (n : Nat) (v : Int × List Int) => ∃ a r, e.L = a ++ r ∧ v.1 = a.length ∧ v.2 = (a.map fun x => labelS x d b) ++ r ∧ r.length = n) (fun n v hv => ?_) (n := e.L.length) ⟨[], e.L, rfl, rfl, rfl, rfl⟩
 obtain ⟨j, h⟩ := v
 obtain ⟨a, r, h1, h2, h3, h4⟩ := hv
 dsimp only at h2 h3
 subst h2; subst h3
 have hlen : e.L.length = a.length + r.length := by rw [h1, List.length_append]
 simp only [draft_Leave.b16]
 cases r with
 | nil =>
  refine .neg (by simp only [List.length_nil] at hlen; omega) (.right ?_)
  rw [h1, List.append_nil, List.append_nil]
 | cons x r =>
  simp only [List.length_cons] at hlen
  have ll : ((a.map fun x => labelS x d b) ++ x :: r).length = a.length + (r.length + 1) := by simp
  refine .pos (by omega) (.pos ⟨by omega, by omega⟩ ?_)
  have tn : ((a.length : Nat) : Int).toNat = (a.map fun x => labelS x d b).length := by simp
  have gx : ((a.map fun x => labelS x d b) ++ x :: r)[((a.length : Nat) : Int).toNat]? = some x := by rw [tn]; exact get_mid _ x r
  refine .bind (Q := fun y => y = x) ⟨x, rfl, 0, fun _ _ => gx⟩ (fun y hy => ?_)
  subst hy
  refine .bind (label_wp (hl y (by rw [h1]; simp)) hb) (fun z hz => ?_)
  subst hz
  refine .pos ⟨by omega, by omega⟩ (.bind (Q := fun y' => y' = y) ⟨y, rfl, 0, fun _ _ => gx⟩ (fun y' _ => ?_))
  refine .left ⟨r.length, by simp at h4; omega, a ++ [y], r, by rw [h1]; simp, ?_, ?_, rfl⟩
  ·dsimp only; rw [iadd64 (by omega) (by omega)]; simp
  ·dsimp only
   rw [tn, set_mid]
   simp
theorem leave_wp2 {b : Int} {code : List AInst} (hb : -1000000 ≤ b ∧ b ≤ 1000000) (hc : code.length ≤ 1000000) (hs : ∀ i ∈ code, Small i) : Wp (fun k => draft_Leave.f k code b) (· = leaveL b 0 code) := by
 refine .succ ?_
 simp only [draft_Leave.f]
 refine .bind (Q := fun _ => True) ⟨(), trivial, 1, fun k hk => tick_ok (room_small (by omega) (by omega)) hk⟩ (fun _ _ => ?_)
 refine .bind (Q := (· = leaveL b 0 code)) ?_ (fun r hr => .one hr)
 refine .loop (fun (n : Nat) (v : Int × Int × List AInst) => ∃ a r, v.2.2 = a ++ r ∧ v.2.1 = a.length ∧ a ++ leaveL b v.1 r = leaveL b 0 code ∧ r.length = n ∧ (∀ i ∈ r, Small i) ∧ 0 ≤ v.1 ∧ v.1 ≤ v.2.1 ∧ v.2.2.length = code.length) (fun n v hv => ?_) (n := code.length) ⟨[], code, rfl, rfl, rfl, rfl, hs, Int.le_refl _, Int.le_refl _, rfl⟩
 obtain ⟨d, j, h⟩ := v
 obtain ⟨a, r, h1, h2, h3, h4, h5, h6, h7, h8⟩ := hv
 dsimp only at h1 h2 h3 h6 h7 h8
 subst h2; subst h1
 simp only [draft_Leave.b4]
 have hlen := h8
 rw [List.length_append] at hlen
 cases r with
 | nil =>
  refine .neg (by simp only [List.length_nil] at hlen; omega) (.right ?_)
  simpa [leaveL] using h3
 | cons i r =>
  simp only [List.length_cons] at hlen
  have ll : (a ++ i :: r).length = code.length := h8
  have tn : ((a.length : Nat) : Int).toNat = a.length := by simp
  have gx : (a ++ i :: r)[((a.length : Nat) : Int).toNat]? = some i := by rw [tn]; exact get_mid a i r
  have si := h5 i (List.mem_cons_self ..)
  refine .pos (by omega) ?_
  refine .seg (Q := fun o => (⟨o.2.1, o.2.2.1, o.2.2.2.1, o.2.2.2.2.1, o.2.2.2.2.2⟩, o.1) = leaveI b d i) ?_ (fun o ho => ?_)
  ·refine .pos ⟨by omega, by omega⟩ (.bind (Q := fun y => y = i) ⟨i, rfl, 0, fun _ _ => gx⟩ (fun y hy => ?_))
   subst hy
   have sn := si.n
   refine .bind (Q := fun _ => True) ⟨(), trivial, 1, fun k hk => tick_ok (room_small (by omega) (by omega)) hk⟩ (fun _ _ => ?_)
   refine .bind (Q := fun z => z = y) ⟨y, rfl, 0, fun _ _ => gx⟩ (fun z hz => ?_)
   subst hz
   refine .pos (by omega) ?_
   refine .bind (Q := fun x => x = decide (2 ≤ z.Op ∧ z.Op ≤ 4)) ?_ (fun x hx => ?_)
   ·refine .succ ?_
    simp only [ops_Opens.f]
    refine .ite (fun h => .one ?_) (fun h => .one ?_)
    ·simp [show 2 ≤ z.Op from h]
    ·simp [show ¬ 2 ≤ z.Op from h]
   ·subst hx
    unfold leaveI
    refine .ite (fun h => .left ?_) (fun h => ?_)
    ·rw [decide_eq_true_eq] at h
     rw [if_pos h, iadd64 (by omega) (by omega)]
    ·rw [decide_eq_true_eq] at h
     rw [if_neg h]
     refine .ite (fun h2 => .left ?_) (fun h2 => ?_)
     ·rw [if_pos h2, isub64 (by omega) (by omega)]
      unfold imax
      by_cases hd : 0 < d
      ·rw [if_pos hd]
       by_cases hd2 : d - 1 > 0
       ·rw [if_pos hd2]
       ·rw [if_neg hd2, show d - 1 = 0 by omega]
      ·rw [if_neg hd, if_neg (by omega)]
     ·rw [if_neg h2]
      refine .seg (Q := fun x => x = decide (z.Op = 12 ∨ z.Op = 13)) ?_ (fun x hx => ?_)
      ·refine .ite (fun h => .left ?_) (fun h => .left ?_)
       ·simp [h]
       ·simp [h]
      ·subst hx
       refine .ite (fun h3 => ?_) (fun h3 => ?_)
       ·rw [decide_eq_true_eq] at h3
        rw [if_pos h3]
        exact .bind (label_wp si.a hb) (fun w hw => .left (by subst hw; rfl))
       ·rw [decide_eq_true_eq] at h3
        rw [if_neg h3]
        refine .ite (fun h4 => ?_) (fun h4 => .left ?_)
        ·rw [if_pos h4]
         exact .bind (labels_wp hb si.l si.n) (fun w hw => .left (by subst hw; rfl))
        ·rw [if_neg h4]
  ·obtain ⟨d2, x1, x2, x3, x4, x5⟩ := o
   dsimp only at ho ⊢
   have hd : 0 ≤ d2 ∧ d2 ≤ d + 1 := by
    have := congrArg Prod.snd ho
    dsimp only at this
    rw [this]
    unfold leaveI
    split
    ·dsimp only; omega
    ·split
     ·dsimp only; split <;> omega
     ·split
      ·dsimp only; omega
      ·split <;> dsimp only <;> omega
   refine .pos (by omega) (.left ⟨r.length, by simp at h4; omega, a ++ [⟨x1, x2, x3, x4, x5⟩], r, ?_, ?_, ?_, rfl, fun i hi => h5 i (List.mem_cons_of_mem _ hi), hd.1, ?_, ?_⟩)
   ·dsimp only; rw [tn, set_mid]; simp
   ·dsimp only; rw [iadd64 (by omega) (by omega)]; simp
   ·dsimp only
    rw [← h3, leaveL, ← ho]
    simp
   ·dsimp only; rw [iadd64 (by omega) (by omega)]; omega
   ·dsimp only; rw [List.length_set]; exact ll
theorem small_nil {o a b n : Int} (h : Near a) : Small ⟨o, a, b, n, []⟩ := ⟨h, (fun x hx => by cases hx), by simp⟩
theorem Mo.Fine.small {i : AInst} (h : Fine i) : Small i := by
 cases h <;> first | exact small_nil (by constructor <;> omega) | skip
 rename_i l h1 h2 h3
 refine ⟨by constructor <;> (dsimp only; omega), fun x hx => ?_, by dsimp only; omega⟩
 have := h3 x hx
 exact ⟨by omega, by omega⟩
theorem Mo.Seq.small {n : Nat} {c : List AInst} (h : Seq n c) : ∀ i ∈ c, Small i := by
 have nil : ∀ {o a : Int}, -4 ≤ a → a < 9 → Small ⟨o, a, 0, 0, []⟩ := fun h1 h2 => small_nil ⟨by omega, by omega⟩
 induction h with
 | nil => intro i hi; cases hi
 | one h => intro i hi; rw [List.mem_singleton] at hi; subst hi; exact h.small
 | app _ _ ha hb => intro i hi; rcases List.mem_append.1 hi with h | h; exact ha i h; exact hb i h
 | blk _ h1 h2 _ ih =>
  intro i hi
  rcases List.mem_cons.1 hi with rfl | hi
  ·exact nil h1 h2
  ·rcases List.mem_append.1 hi with h | h
   ·exact ih i h
   ·rw [List.mem_singleton] at h; subst h; exact nil (by decide) (by decide)
 | ite h1 h2 _ _ ih1 ih2 =>
  intro i hi
  rcases List.mem_cons.1 hi with rfl | hi
  ·exact nil h1 h2
  ·rcases List.mem_append.1 hi with h | h
   ·exact ih1 i h
   ·rcases List.mem_cons.1 h with rfl | h
    ·exact nil (by decide) (by decide)
    ·rcases List.mem_append.1 h with h | h
     ·exact ih2 i h
     ·rw [List.mem_singleton] at h; subst h; exact nil (by decide) (by decide)
theorem Mo.CodeOk.small {c : List AInst} (h : CodeOk c) : ∀ i ∈ c, Small i := by
 obtain ⟨_, b, rfl, hs⟩ := h
 intro i hi
 rcases List.mem_append.1 hi with h | h
 ·exact hs.small i h
 ·rw [List.mem_singleton] at h; subst h; exact small_nil (by constructor <;> decide)
theorem Mo.Fine.few {i : AInst} (h : Fine i) : -4 ≤ i.A ∧ i.A < 100 := by cases h <;> dsimp only <;> omega
theorem Mo.Seq.few {n : Nat} {c : List AInst} (h : Seq n c) : ∀ i ∈ c, -4 ≤ i.A ∧ i.A < 100 := by
 induction h with
 | nil => intro i hi; cases hi
 | one h => intro i hi; rw [List.mem_singleton] at hi; subst hi; exact h.few
 | app _ _ ha hb => intro i hi; rcases List.mem_append.1 hi with h | h; exact ha i h; exact hb i h
 | blk _ h1 h2 _ ih =>
  intro i hi
  rcases List.mem_cons.1 hi with rfl | hi
  ·dsimp only; omega
  ·rcases List.mem_append.1 hi with h | h
   ·exact ih i h
   ·rw [List.mem_singleton] at h; subst h; decide
 | ite h1 h2 _ _ ih1 ih2 =>
  intro i hi
  rcases List.mem_cons.1 hi with rfl | hi
  ·dsimp only; omega
  ·rcases List.mem_append.1 hi with h | h
   ·exact ih1 i h
   ·rcases List.mem_cons.1 h with rfl | h
    ·decide
    ·rcases List.mem_append.1 h with h | h
     ·exact ih2 i h
     ·rw [List.mem_singleton] at h; subst h; decide
theorem Mo.CodeOk.few {c : List AInst} (h : CodeOk c) : ∀ i ∈ c, -4 ≤ i.A ∧ i.A < 100 := by
 obtain ⟨_, b, rfl, hs⟩ := h
 intro i hi
 rcases List.mem_append.1 hi with h | h
 ·exact hs.few i h
 ·rw [List.mem_singleton] at h; subst h; decide
theorem known16 (j : Nat) : law16_known.f (j + 60) = some true := by kernel_rfl
theorem known16_wp : Wp (fun k => law16_known.f k) (· = true) := by
 refine .at_ 60 (fun k hk => ?_) rfl
 obtain ⟨k, rfl⟩ : ∃ j, k = j + 60 := ⟨k - 60, by omega⟩
 exact known16 k
end Go.R3K
