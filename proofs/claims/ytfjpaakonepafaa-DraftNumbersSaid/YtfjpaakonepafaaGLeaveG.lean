import Derived.Test.YtfjpaakonepafaaGBackD
set_option linter.all false
namespace Go.R3K
open Go.Proofs Go.Ev Mo
set_option maxRecDepth 100000
structure Lv (i : AInst) : Prop where
 a : I64 i.A
 l : ∀ x ∈ i.L, I64 x
 n : i.L.length * 8 ≤ 140737488355328
theorem labelG_wp {n d b : Int} (hn : I64 n) (hb : -1000000 ≤ b ∧ b ≤ 1000000) : Wp (fun k => draft_label.f k n d b) (· = labelS n d b) := by
 refine .succ ?_
 simp only [draft_label.f, labelS]
 refine .ite (fun h => .one ?_) (fun h => .bind (more_any hn hb) (fun r hr => .one ?_))
 ·rw [if_pos h]
 ·rw [if_neg h]; exact hr
theorem labelsG_wp {b d : Int} {e : AInst} (hb : -1000000 ≤ b ∧ b ≤ 1000000) (hl : ∀ x ∈ e.L, I64 x) (hn : e.L.length * 8 ≤ 140737488355328) :
  Wp (fun k => loopS (draft_Leave.b16 k b d e) k ((0 : Int), e.L)) (· = e.L.map fun x => labelS x d b) := by
 refine .loop (fun (n : Nat) (v : Int × List Int) => ∃ a r, e.L = a ++ r ∧ v.1 = a.length ∧ v.2 = (a.map fun x => labelS x d b) ++ r ∧ r.length = n) (fun n v hv => ?_) (n := e.L.length) ⟨[], e.L, rfl, rfl, rfl, rfl⟩
 obtain ⟨j, h⟩ := v
 obtain ⟨a, r, h1, h2, h3, h4⟩ := hv
 dsimp only at h2 h3
 subst h2; subst h3
 have hlen : e.L.length = a.length + r.length := by rw [h1, List.length_append]
 simp only [draft_Leave.b16]
 cases r with
 | nil =>
  refine .neg (by simp only [List.length_nil] at hlen; omega) (.right ?_)
  rw [h1, List.append_nil, List.append_nil]
 | cons x r =>
  simp only [List.length_cons] at hlen
  have ll : ((a.map fun x => labelS x d b) ++ x :: r).length = a.length + (r.length + 1) := by simp
  refine .pos (by omega) (.pos ⟨by omega, by omega⟩ ?_)
  have tn : ((a.length : Nat) : Int).toNat = (a.map fun x => labelS x d b).length := by simp
  have gx : ((a.map fun x => labelS x d b) ++ x :: r)[((a.length : Nat) : Int).toNat]? = some x := by rw [tn]; exact get_mid _ x r
  refine .bind (Q := fun y => y = x) ⟨x, rfl, 0, fun _ _ => gx⟩ (fun y hy => ?_)
  subst hy
  refine .bind (labelG_wp (hl y (by rw [h1]; simp)) hb) (fun z hz => ?_)
  subst hz
  refine .pos ⟨by omega, by omega⟩ (.bind (Q := fun y' => y' = y) ⟨y, rfl, 0, fun _ _ => gx⟩ (fun y' _ => ?_))
  refine .left ⟨r.length, by simp at h4; omega, a ++ [y], r, by rw [h1]; simp, ?_, ?_, rfl⟩
  ·dsimp only; rw [iadd64 (by omega) (by omega)]; simp
  ·dsimp only
   rw [tn, set_mid]
   simp
theorem leaveG_wp {b : Int} {code : List AInst} (hb : -1000000 ≤ b ∧ b ≤ 1000000) (hc : code.length * 56 ≤ 140737488355328) (hs : ∀ i ∈ code, Lv i) : Wp (fun k => draft_Leave.f k code b) (· = leaveL b 0 code) := by
 refine .succ ?_
 simp only [draft_Leave.f]
 refine .bind (Q := fun _ => True) ⟨(), trivial, 1, fun k hk => tick_ok (room_small (by omega) (by omega)) hk⟩ (fun _ _ => ?_)
 refine .bind (Q := (· = leaveL b 0 code)) ?_ (fun r hr => .one hr)
 refine .loop (fun (n : Nat) (v : Int × Int × List AInst) => ∃ a r, v.2.2 = a ++ r ∧ v.2.1 = a.length ∧ a ++ leaveL b v.1 r = leaveL b 0 code ∧ r.length = n ∧ (∀ i ∈ r, Lv i) ∧ 0 ≤ v.1 ∧ v.1 ≤ v.2.1 ∧ v.2.2.length = code.length) (fun n v hv => ?_) (n := code.length) ⟨[], code, rfl, rfl, rfl, rfl, hs, Int.le_refl _, Int.le_refl _, rfl⟩
 obtain ⟨d, j, h⟩ := v
 obtain ⟨a, r, h1, h2, h3, h4, h5, h6, h7, h8⟩ := hv
 dsimp only at h1 h2 h3 h6 h7 h8
 subst h2; subst h1
 simp only [draft_Leave.b4]
 have hlen := h8
 rw [List.length_append] at hlen
 cases r with
 | nil =>
  refine .neg (by simp only [List.length_nil] at hlen; omega) (.right ?_)
  simpa [leaveL] using h3
 | cons i r =>
  simp only [List.length_cons] at hlen
  have ll : (a ++ i :: r).length = code.length := h8
  have tn : ((a.length : Nat) : Int).toNat = a.length := by simp
  have gx : (a ++ i :: r)[((a.length : Nat) : Int).toNat]? = some i := by rw [tn]; exact get_mid a i r
  have si := h5 i (List.mem_cons_self ..)
  refine .pos (by omega) ?_
  refine .seg (Q := fun o => (⟨o.2.1, o.2.2.1, o.2.2.2.1, o.2.2.2.2.1, o.2.2.2.2.2⟩, o.1) = leaveI b d i) ?_ (fun o ho => ?_)
  ·refine .pos ⟨by omega, by omega⟩ (.bind (Q := fun y => y = i) ⟨i, rfl, 0, fun _ _ => gx⟩ (fun y hy => ?_))
   subst hy
   have sn := si.n
   refine .bind (Q := fun _ => True) ⟨(), trivial, 1, fun k hk => tick_ok (room_small (by omega) (by omega)) hk⟩ (fun _ _ => ?_)
   refine .bind (Q := fun z => z = y) ⟨y, rfl, 0, fun _ _ => gx⟩ (fun z hz => ?_)
   subst hz
   refine .pos (by omega) ?_
   refine .bind (Q := fun x => x = decide (2 ≤ z.Op ∧ z.Op ≤ 4)) ?_ (fun x hx => ?_)
   ·refine .succ ?_
    simp only [ops_Opens.f]
    refine .ite (fun h => .one ?_) (fun h => .one ?_)
    ·simp [show 2 ≤ z.Op from h]
    ·simp [show ¬ 2 ≤ z.Op from h]
   ·subst hx
    unfold leaveI
    refine .ite (fun h => .left ?_) (fun h => ?_)
    ·rw [decide_eq_true_eq] at h
     rw [if_pos h, iadd64 (by omega) (by omega)]
    ·rw [decide_eq_true_eq] at h
     rw [if_neg h]
     refine .ite (fun h2 => .left ?_) (fun h2 => ?_)
     ·rw [if_pos h2, isub64 (by omega) (by omega)]
      unfold imax
      by_cases hd : 0 < d
      ·rw [if_pos hd]
       by_cases hd2 : d - 1 > 0
       ·rw [if_pos hd2]
       ·rw [if_neg hd2, show d - 1 = 0 by omega]
      ·rw [if_neg hd, if_neg (by omega)]
     ·rw [if_neg h2]
      refine .seg (Q := fun x => x = decide (z.Op = 12 ∨ z.Op = 13)) ?_ (fun x hx => ?_)
      ·refine .ite (fun h => .left ?_) (fun h => .left ?_)
       ·simp [h]
       ·simp [h]
      ·subst hx
       refine .ite (fun h3 => ?_) (fun h3 => ?_)
       ·rw [decide_eq_true_eq] at h3
        rw [if_pos h3]
        exact .bind (labelG_wp si.a hb) (fun w hw => .left (by subst hw; rfl))
       ·rw [decide_eq_true_eq] at h3
        rw [if_neg h3]
        refine .ite (fun h4 => ?_) (fun h4 => .left ?_)
        ·rw [if_pos h4]
         exact .bind (labelsG_wp hb si.l si.n) (fun w hw => .left (by subst hw; rfl))
        ·rw [if_neg h4]
  ·obtain ⟨d2, x1, x2, x3, x4, x5⟩ := o
   dsimp only at ho ⊢
   have hd : 0 ≤ d2 ∧ d2 ≤ d + 1 := by
    have := congrArg Prod.snd ho
    dsimp only at this
    rw [this]
    unfold leaveI
    split
    ·dsimp only; omega
    ·split
     ·dsimp only; split <;> omega
     ·split
      ·dsimp only; omega
      ·split <;> dsimp only <;> omega
   refine .pos (by omega) (.left ⟨r.length, by simp at h4; omega, a ++ [⟨x1, x2, x3, x4, x5⟩], r, ?_, ?_, ?_, rfl, fun i hi => h5 i (List.mem_cons_of_mem _ hi), hd.1, ?_, ?_⟩)
   ·dsimp only; rw [tn, set_mid]; simp
   ·dsimp only; rw [iadd64 (by omega) (by omega)]; simp
   ·dsimp only
    rw [← h3, leaveL, ← ho]
    simp
   ·dsimp only; rw [iadd64 (by omega) (by omega)]; omega
   ·dsimp only; rw [List.length_set]; exact ll
theorem movedR_wp {n l b : Int} (hn : I64 n) (hb : -1000000 ≤ b ∧ b ≤ 1000000) : Wp (fun k => law16_moved.f k n l b) (· = fromZ n l b) := by
 have hs := iadd_any hn hb
 obtain ⟨h1, h2⟩ := hn
 refine .succ ?_
 simp only [law16_moved.f]
 generalize iadd .i64 n b = s at hs ⊢
 have hs' : (n + b > 9223372036854775807 ∧ s = n + b - 18446744073709551616) ∨ (n + b < -9223372036854775808 ∧ s = n + b + 18446744073709551616) ∨ (-9223372036854775808 ≤ n + b ∧ n + b ≤ 9223372036854775807 ∧ s = n + b) := by
  split at hs
  ·exact .inl ⟨by assumption, hs⟩
  ·split at hs
   ·exact .inr (.inl ⟨by assumption, hs⟩)
   ·exact .inr (.inr ⟨by omega, by omega, hs⟩)
 clear hs
 have leaf : ∀ r : Int, ((n < l ∧ r = n) ∨ (¬ n < l ∧ 0 ≤ n + b ∧ n + b ≤ 1073741824 ∧ r = n + b) ∨ (¬ n < l ∧ ¬ (0 ≤ n + b ∧ n + b ≤ 1073741824) ∧ r = n)) → r = fromZ n l b := fun r h => by
  unfold fromZ moreZ
  split
  ·omega
  ·split <;> omega
 exact .ite (fun h => .ite (fun h => .ite (fun h => .one (leaf _ (by omega))) (fun h => .one (leaf _ (by omega)))) (fun h => .one (leaf _ (by omega)))) (fun h => .one (leaf _ (by omega)))
theorem labelS_from {n d b : Int} (hd : 0 ≤ d) (h : n ≥ d) : fromZ n 0 b = labelS n d b := by
 unfold fromZ moreZ labelS
 rw [if_neg (show ¬ n < 0 by omega), if_neg (show ¬ n < d by omega)]
theorem labelS_lt {n d b : Int} (h : ¬ n ≥ d) : labelS n d b = n := by
 unfold labelS
 rw [if_pos (by omega)]
theorem tableR_wp {b d : Int} {e : AInst} (hb : -1000000 ≤ b ∧ b ≤ 1000000) (hd : 0 ≤ d) (hl : Lv e) :
  Wp (fun k => loopS (law16_leave.b14 k b e d) k ((0 : Int), ([] : List Int))) (· = e.L.map fun x => if e.Op = 14 then labelS x d b else x) := by
 obtain ⟨-, h1, h2⟩ := hl
 refine build_wp (fun x a y hx ha hy hm => ?_) (fun a => ?_)
 ·simp only [law16_leave.b14]
  refine .pos (by omega) (.bind (.idx (by omega) (by omega)) (fun z hz => ?_))
  rw [Int.toNat_natCast, hy] at hz; cases hz
  refine .seg (Q := fun r => r = if e.Op = 14 then labelS y d b else y) ?_ (fun r hr => ?_)
  ·refine .ite (fun ho => ?_) (fun ho => .left (by rw [if_neg ho]))
   rw [if_pos ho]
   exact .ite (fun h => .bind (movedR_wp (h1 y hm) hb) (fun r hr => .left (hr.trans (labelS_from hd h)))) (fun h => .left (labelS_lt h).symm)
  ·subst hr
   exact .pos (room_small (by omega) (by omega)) (.one (by rw [iadd64 (by omega) (by omega)]))
 ·simp only [law16_leave.b14]
  exact .neg (by omega) (.one rfl)
theorem leaveR_wp {b : Int} {code : List AInst} (hb : -1000000 ≤ b ∧ b ≤ 1000000) (hc : code.length ≤ 1000000) (hs : ∀ i ∈ code, Lv i) : Wp (fun k => law16_leave.f k code b) (· = leaveL b 0 code) := by
 refine .succ ?_
 simp only [law16_leave.f]
 refine .bind (Q := (· = leaveL b 0 code)) ?_ (fun r hr => .one hr)
 refine .loop (fun (n : Nat) (v : Int × Int × List AInst) => ∃ a r, code = a ++ r ∧ v.2.1 = a.length ∧ v.2.2 ++ leaveL b v.1 r = leaveL b 0 code ∧ v.2.2.length = a.length ∧ r.length = n ∧ 0 ≤ v.1 ∧ v.1 ≤ v.2.1) (fun n v hv => ?_) (n := code.length) ⟨[], code, rfl, rfl, rfl, rfl, rfl, Int.le_refl _, Int.le_refl _⟩
 obtain ⟨d, j, h⟩ := v
 obtain ⟨a, r, h1, h2, h3, h4, h5, h6, h7⟩ := hv
 dsimp only at h2 h3 h4 h6 h7
 subst h2
 have hlen : code.length = a.length + r.length := by rw [h1, List.length_append]
 simp only [law16_leave.b4]
 cases r with
 | nil =>
  refine .neg (by simp only [List.length_nil] at hlen; omega) (.right ?_)
  simpa [leaveL] using h3
 | cons i r =>
  simp only [List.length_cons] at hlen h5
  have si := hs i (by rw [h1]; simp)
  refine .pos (by omega) (.bind (Q := fun y => y = i) ⟨i, rfl, 0, fun _ _ => by rw [at?_nat, h1]; exact get_mid a i r⟩ (fun y hy => ?_))
  subst hy
  have hd2 : 0 ≤ (leaveI b d y).2 ∧ (leaveI b d y).2 ≤ d + 1 := by
   unfold leaveI
   split
   ·dsimp only; omega
   ·split
    ·dsimp only; split <;> omega
    ·split
     ·dsimp only; omega
     ·split <;> dsimp only <;> omega
  refine .seg (Q := fun o => o = (leaveI b d y).2) ?_ (fun o ho => ?_)
  ·refine .bind (Q := fun x => x = decide (2 ≤ y.Op ∧ y.Op ≤ 4)) ?_ (fun x hx => ?_)
   ·refine .succ ?_
    simp only [ref3_Opens.f]
    refine .ite (fun h => .one ?_) (fun h => .one ?_)
    ·simp [show 2 ≤ y.Op from h]
    ·simp [show ¬ 2 ≤ y.Op from h]
   ·subst hx
    refine .ite (fun h => .left ?_) (fun h => ?_)
    ·have q : 2 ≤ y.Op ∧ y.Op ≤ 4 := by simpa using h
     unfold leaveI
     rw [if_pos q, iadd64 (by omega) (by omega)]
    ·have q : ¬ (2 ≤ y.Op ∧ y.Op ≤ 4) := by simpa using h
     have e2 : (leaveI b d y).2 = if y.Op = 11 then (if 0 < d then d - 1 else 0) else d := by
      unfold leaveI
      rw [if_neg q]
      split
      ·rfl
      ·split
       ·rfl
       ·split <;> rfl
     rw [e2]
     refine .ite (fun h => .ite (fun h' => .left ?_) (fun h' => .left ?_)) (fun h => .left ?_)
     ·rw [if_pos h, if_pos (by omega), isub64 (by omega) (by omega)]
     ·rw [if_pos h, if_neg (by omega)]; omega
     ·rw [if_neg h]
  ·-- the label is looked at where the op opens nothing, ends nothing: there the depth is as it was
   have e1 : (leaveI b d y).1 = ⟨y.Op, if y.Op = 12 ∨ y.Op = 13 then labelS y.A o b else y.A, y.B, y.N, y.L.map fun x => if y.Op = 14 then labelS x o b else x⟩ := by
    subst ho
    by_cases c1 : 2 ≤ y.Op ∧ y.Op ≤ 4
    ·have n12 : ¬ (y.Op = 12 ∨ y.Op = 13) := by omega
     have n14 : ¬ y.Op = 14 := by omega
     simp only [leaveI, if_pos c1, if_neg n12, if_neg n14, List.map_id']
    ·by_cases c2 : y.Op = 11
     ·have n12 : ¬ (y.Op = 12 ∨ y.Op = 13) := by omega
      have n14 : ¬ y.Op = 14 := by omega
      simp only [leaveI, if_neg c1, if_pos c2, if_neg n12, if_neg n14, List.map_id']
     ·by_cases c3 : y.Op = 12 ∨ y.Op = 13
      ·have n14 : ¬ y.Op = 14 := by omega
       simp only [leaveI, if_neg c1, if_neg c2, if_pos c3, if_neg n14, List.map_id']
      ·by_cases c4 : y.Op = 14
       ·simp only [leaveI, if_neg c1, if_neg c2, if_neg c3, if_pos c4]
       ·simp only [leaveI, if_neg c1, if_neg c2, if_neg c3, if_neg c4, List.map_id']
   subst ho
   simp only [leaveL] at h3
   generalize (leaveI b d y).2 = o at *
   refine .seg (Q := fun z => z = if y.Op = 12 ∨ y.Op = 13 then labelS y.A o b else y.A) ?_ (fun z hz => ?_)
   ·refine .ite (fun h => ?_) (fun h => .ite (fun h' => ?_) (fun h' => .left ?_))
    ·rw [if_pos (.inl h)]
     exact .ite (fun h => .bind (movedR_wp si.a hb) (fun r hr => .left (hr.trans (labelS_from (by omega) h)))) (fun h => .left (labelS_lt h).symm)
    ·rw [if_pos (.inr h')]
     exact .ite (fun h => .bind (movedR_wp si.a hb) (fun r hr => .left (hr.trans (labelS_from (by omega) h)))) (fun h => .left (labelS_lt h).symm)
    ·rw [if_neg (by omega)]
   ·refine .bind (tableR_wp hb (by omega) si) (fun l hl => .pos (room_small (by omega) (by omega)) (.left ⟨r.length, by omega, a ++ [y], r, by rw [h1]; simp, ?_, ?_, ?_, rfl, ?_, ?_⟩))
    ·dsimp only; rw [iadd64 (by omega) (by omega)]; simp
    ·dsimp only
     rw [← h3, hz, hl, ← e1]
     simp only [List.append_assoc, List.singleton_append]
    ·dsimp only; simp [h4]
    ·dsimp only; omega
    ·dsimp only; rw [iadd64 (by omega) (by omega)]; omega
end Go.R3K
