import Derived.Test.YtganajogkdinaaaGreatGKnK
set_option linter.all false
namespace Go.R4
open Go.Proofs Go.Ev
set_option maxRecDepth 100000
theorem acc_near1 (j : Nat) : (List.range 197).all (fun n => ((ops_Access.f (j + 12) (n : Int)).map (·.2.2.2) == some (acc (n : Int))) && (((ref3_Access.f (j + 12) (n : Int)).map (fun r => decide (r.1 > 0))) == some (acc (n : Int)))) = true := by kernel_rfl
theorem acc_near2 (j : Nat) : (List.range 10).all (fun n => ((ops_Access.f (j + 12) ((n + 64514 : Nat) : Int)).map (·.2.2.2) == some (acc ((n + 64514 : Nat) : Int))) && (((ref3_Access.f (j + 12) ((n + 64514 : Nat) : Int)).map (fun r => decide (r.1 > 0))) == some (acc ((n + 64514 : Nat) : Int)))) = true := by kernel_rfl
theorem acc_iff {op : Int} : acc op = true ↔ (op = 40 ∨ op = 41 ∨ op = 43 ∨ op = 44 ∨ op = 45 ∨ op = 46 ∨ op = 47 ∨ op = 48 ∨ op = 49 ∨ op = 50 ∨ op = 51 ∨ op = 52 ∨ op = 53 ∨ op = 54 ∨ op = 55 ∨ op = 57 ∨ op = 58 ∨ op = 59 ∨ op = 60 ∨ op = 61 ∨ op = 62) := by simp [acc]
theorem acc_in {op : Int} (h : acc op = true) : 40 ≤ op ∧ op ≤ 62 := by have := acc_iff.1 h; omega
theorem acc_out {op : Int} (h : op < 40 ∨ 62 < op) : acc op = false := by
 cases e : acc op with
 | false => rfl
 | true => have := acc_in e; omega
theorem acc_ok (j : Nat) (op : Int) : (ops_Access.f (j + 12) op).map (·.2.2.2) = some (acc op) ∧ (ref3_Access.f (j + 12) op).map (fun r => decide (r.1 > 0)) = some (acc op) := by
 by_cases h : Far op
 ·rw [far_acc h, far_acc3 h, acc_out (by unfold Far at h; omega)]; exact ⟨rfl, rfl⟩
 ·have := near_all (f := fun op => ((ops_Access.f (j + 12) op).map (·.2.2.2) == some (acc op)) && (((ref3_Access.f (j + 12) op).map (fun r => decide (r.1 > 0))) == some (acc op))) (acc_near1 j) (acc_near2 j) h
  simpa only [Bool.and_eq_true, beq_iff_eq] using this
theorem opt_ge {α : Type} {f : Nat → Option α} {a : α} {n : Nat} (h : ∀ j, f (j + n) = some a) {P : α → Prop} (hp : P a) : Wp f P :=
 .at_ n (fun k hk => by obtain ⟨j, rfl⟩ := Nat.exists_eq_add_of_le' hk; exact h j) hp
theorem wp_map {α β : Type} {x : Option α} {g : α → β} {b : β} (h : x.map g = some b) : Wp (fun _ => x) (fun r => g r = b) := by
 cases x with
 | none => cases h
 | some x => exact .one (Option.some.inj h)
theorem accs_wp (op : Int) : Wp (fun k => ops_Access.f k op) (fun r => r.2.2.2 = acc op) := by
 have h0 := wp_map (acc_ok 0 op).1
 refine .succ ?_
 simp only [ops_Access.f] at h0 ⊢
 exact h0
theorem acc3s_wp (op : Int) : Wp (fun k => ref3_Access.f k op) (fun r => (0 < r.1 ↔ acc op = true)) := by
 have h0 := (wp_map (acc_ok 0 op).2).mono (Q := fun r : Int × Int × Bool => decide (r.1 > 0) = acc op) (P := fun r : Int × Int × Bool => (0 < r.1 ↔ acc op = true)) (fun r h => by rw [← h]; simp)
 refine .succ ?_
 simp only [ref3_Access.f] at h0 ⊢
 exact h0
theorem con_wp (op : Int) : Wp (fun k => ops_Const.f k op) (fun r => Tell (op = 65 ∨ op = 66 ∨ op = 68) r.2) := by
 refine .succ ?_
 simp only [ops_Const.f]
 exact .ite (fun h => .one (.yes (by omega))) (fun _ => .ite (fun h => .one (.yes (by omega))) (fun _ => .ite (fun h => .one (.yes (by omega))) (fun _ => .one (.no (by omega)))))
theorem con3_wp (op : Int) : Wp (fun k => ref3_Const.f k op) (fun r => r = 0 ↔ ¬ (op = 65 ∨ op = 66 ∨ op = 68)) := by
 refine .succ ?_
 simp only [ref3_Const.f]
 exact .ite (fun h => .one (by omega)) (fun _ => .ite (fun h => .one (by omega)) (fun _ => .ite (fun h => .one (by omega)) (fun _ => .one (by omega))))
theorem opens_wp (op : Int) : Wp (fun k => ops_Opens.f k op) (Tell (2 ≤ op ∧ op ≤ 4)) := by
 refine .succ ?_
 simp only [ops_Opens.f]
 exact .ite (fun h => .one (.dec (by omega))) (fun h => .one (.no (by omega)))
theorem opens3_wp (op : Int) : Wp (fun k => ref3_Opens.f k op) (Tell (2 ≤ op ∧ op ≤ 4)) := by
 refine .succ ?_
 simp only [ref3_Opens.f]
 exact .ite (fun h => .one (.dec (by omega))) (fun h => .one (.no (by omega)))
theorem in_wp (n m : Int) : Wp (fun k => ref6_in.f k n m) (Tell (0 ≤ n ∧ n ≤ m)) := by
 refine .succ ?_
 simp only [ref6_in.f]
 exact .ite (fun h => .one (.dec (by omega))) (fun h => .one (.no (by omega)))
theorem within_t (n m : Int) : Wp (fun k => module_within.f k n m) (Tell (0 ≤ n ∧ n < m)) := by
 refine .succ ?_
 simp only [module_within.f]
 exact .ite (fun h => .one (.dec (by omega))) (fun h => .one (.no (by omega)))
theorem cls_cases (op : Int) : (cls op = 0 ∧ 2 ≤ op ∧ op ≤ 4) ∨ (cls op = 1 ∧ acc op = true) ∨ (cls op = 2 ∧ op = 65) ∨ (cls op = 3 ∧ (op = 66 ∨ op = 68)) ∨ (cls op = 4 ∧ (op = 12 ∨ op = 13)) ∨ (cls op = 5 ∧ op = 14) ∨ (cls op = 6 ∧ (op = 16 ∨ op = 18))
  ∨ (cls op = 7 ∧ (op = 32 ∨ op = 33 ∨ op = 34)) ∨ (cls op = 8 ∧ (op = 35 ∨ op = 36)) ∨ (cls op = 9 ∧ (op = 63 ∨ op = 64 ∨ op = 64523)) ∨ (cls op = 10 ∧ op = 64520) ∨ (cls op = 11 ∧ op = 64521) ∨ (cls op = 12 ∧ op = 64522)
  ∨ (cls op = 13 ∧ acc op = false ∧ ¬ (2 ≤ op ∧ op ≤ 4) ∧ op ≠ 65 ∧ op ≠ 66 ∧ op ≠ 68 ∧ op ≠ 12 ∧ op ≠ 13 ∧ op ≠ 14 ∧ op ≠ 16 ∧ op ≠ 18 ∧ op ≠ 32 ∧ op ≠ 33 ∧ op ≠ 34 ∧ op ≠ 35 ∧ op ≠ 36 ∧ op ≠ 63 ∧ op ≠ 64 ∧ op ≠ 64523 ∧ op ≠ 64520 ∧ op ≠ 64521 ∧ op ≠ 64522) := by
 by_cases h0 : 2 ≤ op ∧ op ≤ 4
 ·exact .inl ⟨by unfold cls; rw [if_pos h0], h0⟩
 by_cases h1 : acc op = true
 ·exact .inr (.inl ⟨by unfold cls; rw [if_neg h0, if_pos h1], h1⟩)
 by_cases h2 : op = 65
 ·exact .inr (.inr (.inl ⟨by unfold cls; rw [if_neg h0, if_neg h1, if_pos h2], h2⟩))
 by_cases h3 : op = 66 ∨ op = 68
 ·exact .inr (.inr (.inr (.inl ⟨by unfold cls; rw [if_neg h0, if_neg h1, if_neg h2, if_pos h3], h3⟩)))
 by_cases h4 : op = 12 ∨ op = 13
 ·exact .inr (.inr (.inr (.inr (.inl ⟨by unfold cls; rw [if_neg h0, if_neg h1, if_neg h2, if_neg h3, if_pos h4], h4⟩))))
 by_cases h5 : op = 14
 ·exact .inr (.inr (.inr (.inr (.inr (.inl ⟨by unfold cls; rw [if_neg h0, if_neg h1, if_neg h2, if_neg h3, if_neg h4, if_pos h5], h5⟩)))))
 by_cases h6 : op = 16 ∨ op = 18
 ·exact .inr (.inr (.inr (.inr (.inr (.inr (.inl ⟨by unfold cls; rw [if_neg h0, if_neg h1, if_neg h2, if_neg h3, if_neg h4, if_neg h5, if_pos h6], h6⟩))))))
 by_cases h7 : op = 32 ∨ op = 33 ∨ op = 34
 ·exact .inr (.inr (.inr (.inr (.inr (.inr (.inr (.inl ⟨by unfold cls; rw [if_neg h0, if_neg h1, if_neg h2, if_neg h3, if_neg h4, if_neg h5, if_neg h6, if_pos h7], h7⟩)))))))
 by_cases h8 : op = 35 ∨ op = 36
 ·exact .inr (.inr (.inr (.inr (.inr (.inr (.inr (.inr (.inl ⟨by unfold cls; rw [if_neg h0, if_neg h1, if_neg h2, if_neg h3, if_neg h4, if_neg h5, if_neg h6, if_neg h7, if_pos h8], h8⟩))))))))
 by_cases h9 : op = 63 ∨ op = 64 ∨ op = 64523
 ·exact .inr (.inr (.inr (.inr (.inr (.inr (.inr (.inr (.inr (.inl ⟨by unfold cls; rw [if_neg h0, if_neg h1, if_neg h2, if_neg h3, if_neg h4, if_neg h5, if_neg h6, if_neg h7, if_neg h8, if_pos h9], h9⟩)))))))))
 by_cases h10 : op = 64520
 ·exact .inr (.inr (.inr (.inr (.inr (.inr (.inr (.inr (.inr (.inr (.inl ⟨by unfold cls; rw [if_neg h0, if_neg h1, if_neg h2, if_neg h3, if_neg h4, if_neg h5, if_neg h6, if_neg h7, if_neg h8, if_neg h9, if_pos h10], h10⟩))))))))))
 by_cases h11 : op = 64521
 ·exact .inr (.inr (.inr (.inr (.inr (.inr (.inr (.inr (.inr (.inr (.inr (.inl ⟨by unfold cls; rw [if_neg h0, if_neg h1, if_neg h2, if_neg h3, if_neg h4, if_neg h5, if_neg h6, if_neg h7, if_neg h8, if_neg h9, if_neg h10, if_pos h11], h11⟩)))))))))))
 by_cases h12 : op = 64522
 ·exact .inr (.inr (.inr (.inr (.inr (.inr (.inr (.inr (.inr (.inr (.inr (.inr (.inl ⟨by unfold cls; rw [if_neg h0, if_neg h1, if_neg h2, if_neg h3, if_neg h4, if_neg h5, if_neg h6, if_neg h7, if_neg h8, if_neg h9, if_neg h10, if_neg h11, if_pos h12], h12⟩))))))))))))
 exact .inr (.inr (.inr (.inr (.inr (.inr (.inr (.inr (.inr (.inr (.inr (.inr (.inr (⟨by unfold cls; rw [if_neg h0, if_neg h1, if_neg h2, if_neg h3, if_neg h4, if_neg h5, if_neg h6, if_neg h7, if_neg h8, if_neg h9, if_neg h10, if_neg h11, if_neg h12], Bool.eq_false_iff.2 h1, by omega⟩)))))))))))))
def shp : Nat → module_shape
 | 0 | 4 | 6 | 7 | 8 | 9 | 11 => ⟨true, false, false, false⟩
 | 1 => ⟨true, false, true, false⟩
 | 2 | 3 => ⟨false, false, true, false⟩
 | 5 => ⟨false, false, false, true⟩
 | 10 | 12 => ⟨true, true, false, false⟩
 | _ => ⟨false, false, false, false⟩
def okA (i : AInst) : Nat → Prop
 | 0 => -4 ≤ i.A ∧ i.A < 64
 | 1 => (0 ≤ i.A ∧ i.A < 4) ∧ i.N ≤ 4294967295
 | 2 => i.N ≤ 4294967295
 | 4 => 0 ≤ i.A ∧ i.A < 65
 | 5 => (1 ≤ i.L.length ∧ i.L.length ≤ 17) ∧ ∀ e ∈ i.L, 0 ≤ e ∧ e < 65
 | 6 | 7 | 8 => 0 ≤ i.A ∧ i.A < 256
 | 9 => 0 ≤ i.A ∧ i.A < 4
 | 10 => (0 ≤ i.A ∧ i.A < 4) ∧ (0 ≤ i.B ∧ i.B < 16)
 | 11 => 0 ≤ i.A ∧ i.A < 16
 | 12 => (0 ≤ i.A ∧ i.A < 4) ∧ (0 ≤ i.B ∧ i.B < 4)
 | _ => True
end Go.R4
namespace Go.R4
open Go.Proofs Go.Ev
set_option maxRecDepth 100000
theorem or2 {α : Type} {a b : Prop} [Decidable a] [Decidable b] {P : α → Prop} : Wp (fun _ => if a then some (.inl true : Bool ⊕ α) else if b then some (.inl true) else some (.inl false)) (Either (Tell (a ∨ b)) P) :=
 .ite (fun h => .left (.yes (.inl h))) (fun h => .ite (fun h => .left (.yes (.inr h))) (fun h2 => .left (.no fun q => q.elim h h2)))
theorem or3 {α : Type} {a b c : Prop} [Decidable a] [Decidable b] [Decidable c] {P : α → Prop} : Wp (fun _ => if a then some (.inl true : Bool ⊕ α) else if b then some (.inl true) else if c then some (.inl true) else some (.inl false)) (Either (Tell (a ∨ b ∨ c)) P) :=
 .ite (fun h => .left (.yes (.inl h))) (fun h => .ite (fun h => .left (.yes (.inr (.inl h)))) (fun h2 => .ite (fun h => .left (.yes (.inr (.inr h)))) (fun h3 => .left (.no fun q => q.elim h (fun q => q.elim h2 h3)))))
def ShP (i : AInst) (r : module_shape × Bool) : Prop := r.1 = shp (cls i.Op) ∧ Tell (okA i (cls i.Op)) r.2
theorem ShP.mk_ {i : AInst} {c : Nat} (hc : cls i.Op = c) {s : module_shape} {b : Bool} (h1 : s = shp c) (h2 : Tell (okA i c) b) : ShP i (s, b) := by subst hc; exact ⟨h1, h2⟩
theorem all64 (i : AInst) (hL : i.L.length ≤ 17) : Wp (fun k => ContainsFunc_180_1.f k i.L) (Tell (¬ ∀ e ∈ i.L, 0 ≤ e ∧ e < 65)) := by
 refine .succ ?_
 simp only [ContainsFunc_180_1.f]
 refine contains_wp (.succ ?_)
 simp only [IndexFunc_264_1.f]
 refine index_wp i.L (by omega) (fun e => 0 ≤ e ∧ e < 65) (fun e _ => .succ ?_)
 simp only [module_shapeOf_1.f]
 exact not_wp (within_t _ _)
theorem shape_wp (i : AInst) : Wp (fun k => module_shapeOf.f k i) (ShP i) := by
 refine .succ ?_
 simp only [module_shapeOf.f]
 refine .bind (accs_wp _) (fun r ha => ?_)
 obtain ⟨r1, r2, r3, r87⟩ := r
 dsimp only at ha ⊢
 refine .bind (con_wp _) (fun r hc => ?_)
 obtain ⟨r89, r90⟩ := r
 dsimp only at hc ⊢
 refine .bind (opens_wp _) (fun r96 ho => ?_)
 refine .tif ho (fun h0 => ?_) (fun h0 => ?_)
 ·have hc : cls i.Op = 0 := by unfold cls; rw [if_pos h0]
  exact .ite (fun h => .one (.mk_ hc rfl (.dec (by simp only [okA]; omega)))) (fun h => .one (.mk_ hc rfl (.no (by simp only [okA]; omega))))
 refine .ite (fun h1 => ?_) (fun h1 => ?_)
 ·have hc : cls i.Op = 1 := by unfold cls; rw [if_neg h0, if_pos (ha ▸ h1)]
  refine .bind (within_t _ _) (fun r hr => .tif hr (fun h => .one (.mk_ hc rfl (.dec (by simp only [okA]; omega)))) (fun h => .one (.mk_ hc rfl (.no (by simp only [okA]; omega)))))
 have h1' : acc i.Op = false := by rw [← ha]; exact Bool.eq_false_iff.2 h1
 refine .tif hc (fun h => ?_) (fun h3 => ?_)
 ·refine .ite (fun h2 => ?_) (fun h2 => ?_)
  ·exact .one (.mk_ (c := 2) (by rw [h2]; rfl) rfl (.dec (by simp only [okA])))
  ·refine .one (.mk_ (c := 3) ?_ rfl (.yes (by simp only [okA])))
   rcases h with h | h | h
   ·exact (h2 h).elim
   ·rw [h]; rfl
   ·rw [h]; rfl
 refine .seg (Q := Tell (i.Op = 12 ∨ i.Op = 13)) or2 (fun x hx => .tif hx (fun h => ?_) (fun h4 => ?_))
 ·refine .bind (within_t _ _) (fun r hr => .one (.mk_ (c := 4) ?_ rfl (hr.iff (by simp only [okA]))))
  rcases h with h | h <;> rw [h] <;> rfl
 refine .ite (fun h => ?_) (fun h5 => ?_)
 ·have hc : cls i.Op = 5 := by rw [h]; rfl
  refine .ite (fun h1 => .ite (fun h2 => ?_) (fun h2 => .one (.mk_ hc rfl (.no (by simp only [okA]; omega))))) (fun h1 => .one (.mk_ hc rfl (.no (by simp only [okA]; omega))))
  refine .bind (all64 i (by omega)) (fun r hr => .one (.mk_ hc rfl (hr.not.iff ?_)))
  rw [Classical.not_not]
  exact ⟨fun h => ⟨⟨by omega, by omega⟩, h⟩, fun h => h.2⟩
 refine .seg (Q := Tell (i.Op = 16 ∨ i.Op = 18)) or2 (fun x hx => .tif hx (fun h => ?_) (fun h6 => ?_))
 ·refine .bind (within_t _ _) (fun r hr => .one (.mk_ (c := 6) ?_ rfl (hr.iff (by simp only [okA]))))
  rcases h with h | h <;> rw [h] <;> rfl
 refine .seg (Q := Tell (i.Op = 32 ∨ i.Op = 33 ∨ i.Op = 34)) or3 (fun x hx => .tif hx (fun h => ?_) (fun h7 => ?_))
 ·refine .bind (within_t _ _) (fun r hr => .one (.mk_ (c := 7) ?_ rfl (hr.iff (by simp only [okA]))))
  rcases h with h | h | h <;> rw [h] <;> rfl
 refine .seg (Q := Tell (i.Op = 35 ∨ i.Op = 36)) or2 (fun x hx => .tif hx (fun h => ?_) (fun h8 => ?_))
 ·refine .bind (within_t _ _) (fun r hr => .one (.mk_ (c := 8) ?_ rfl (hr.iff (by simp only [okA]))))
  rcases h with h | h <;> rw [h] <;> rfl
 refine .seg (Q := Tell (i.Op = 63 ∨ i.Op = 64 ∨ i.Op = 64523)) or3 (fun x hx => .tif hx (fun h => ?_) (fun h9 => ?_))
 ·refine .bind (within_t _ _) (fun r hr => .one (.mk_ (c := 9) ?_ rfl (hr.iff (by simp only [okA]))))
  rcases h with h | h | h <;> rw [h] <;> rfl
 refine .ite (fun h => ?_) (fun h10 => ?_)
 ·have hc : cls i.Op = 10 := by rw [h]; rfl
  refine .bind (within_t _ _) (fun r hr => .tif hr (fun h => ?_) (fun h => .one (.mk_ hc rfl (.no (fun q => h q.1)))))
  exact .bind (within_t _ _) (fun r hr => .one (.mk_ hc rfl (hr.iff ⟨fun q => ⟨h, q⟩, fun q => q.2⟩)))
 refine .ite (fun h => ?_) (fun h11 => ?_)
 ·have hc : cls i.Op = 11 := by rw [h]; rfl
  exact .bind (within_t _ _) (fun r hr => .one (.mk_ hc rfl (hr.iff (by simp only [okA]))))
 refine .ite (fun h => ?_) (fun h12 => ?_)
 ·have hc : cls i.Op = 12 := by rw [h]; rfl
  refine .bind (within_t _ _) (fun r hr => .tif hr (fun h => ?_) (fun h => .one (.mk_ hc rfl (.no (fun q => h q.1)))))
  exact .bind (within_t _ _) (fun r hr => .one (.mk_ hc rfl (hr.iff ⟨fun q => ⟨h, q⟩, fun q => q.2⟩)))
 refine .one (.mk_ (c := 13) ?_ rfl (.yes (by simp only [okA])))
 unfold cls
 rw [if_neg h0, if_neg (by rw [h1']; decide), if_neg (by omega), if_neg (by omega), if_neg h4, if_neg h5, if_neg h6, if_neg h7, if_neg h8, if_neg h9, if_neg h10, if_neg h11, if_neg h12]
def InstP (i : AInst) : Prop := kn i.Op = true ∧ okA i (cls i.Op) ∧ ((shp (cls i.Op)).a = false → i.A = 0) ∧ ((shp (cls i.Op)).b = false → i.B = 0) ∧ ((shp (cls i.Op)).n = false → i.N = 0) ∧ ((shp (cls i.Op)).l = false → i.L.length = 0)
theorem known_wp (op : Int) : Wp (fun k => ops_Known.f k op) (Tell (kn op = true)) := opt_ge (n := 12) (fun j => (kn_ok j op).1) Iff.rfl
theorem known3_wp (op : Int) : Wp (fun k => ref3_Known.f k op) (Tell (kn op = true)) := opt_ge (n := 12) (fun j => (kn_ok j op).2) Iff.rfl
theorem inst_wp (i : AInst) : Wp (fun k => module_Inst.f k i) (Tell (InstP i)) := by
 refine .succ ?_
 simp only [module_Inst.f]
 refine .bind (shape_wp i) (fun r hr => ?_)
 obtain ⟨r8, r9⟩ := r
 obtain ⟨h8, h9⟩ := hr
 dsimp only at h8 h9 ⊢
 refine .bind (known_wp _) (fun r11 hk => ?_)
 refine .tif hk (fun hk => ?_) (fun hk => .one (.no fun q => hk q.1))
 refine .tif h9 (fun ho => ?_) (fun ho => .one (.no fun q => ho q.2.1))
 unfold InstP
 rw [← h8]
 obtain ⟨a, b, n, l⟩ := r8
 cases a <;> cases b <;> cases n <;> cases l <;> simp only [Bool.false_eq_true, if_false, if_true, false_implies, true_implies, and_true, true_and, hk, ho, reduceCtorEq]
 all_goals repeat' (first | exact .one (.yes (by simp_all)) | exact .one (.dec (by simp_all; try omega)) | exact .one (.no (by simp_all)) | refine .ite (fun _ => ?_) (fun _ => ?_))
end Go.R4
namespace Go.R4
open Go.Proofs Go.Ev
set_option maxRecDepth 100000
theorem rng_wp {n a b : Int} {α : Type} {P : α → Prop} : Wp (fun _ => if n ≥ a then some (.inl (decide (n ≤ b)) : Bool ⊕ α) else some (.inl false)) (Either (Tell (a ≤ n ∧ n ≤ b)) P) :=
 .ite (fun h => .left (.dec (by omega))) (fun h => .left (.no (by omega)))
def onA (op : Int) : Prop := (2 ≤ op ∧ op ≤ 4) ∨ op = 12 ∨ op = 13 ∨ op = 16 ∨ op = 18 ∨ (32 ≤ op ∧ op ≤ 36) ∨ op = 63 ∨ op = 64 ∨ op = 64521 ∨ op = 64523
theorem onA_cls {op : Int} (h : onA op) : shp (cls op) = ⟨true, false, false, false⟩ := by
 unfold onA at h
 rcases cls_cases op with h1 | h1 | h1 | h1 | h1 | h1 | h1 | h1 | h1 | h1 | h1 | h1 | h1 | h1 <;> first | (rw [h1.1]; rfl) | (exfalso; omega) | (exfalso; have := acc_iff.1 h1.2; omega)
theorem asks_wp (op : Int) : Wp (fun k => ref6_asks.f k op) (fun r => shp (cls op) = ⟨r.1, r.2.1, r.2.2.1, r.2.2.2⟩) := by
 refine .succ ?_
 simp only [ref6_asks.f]
 refine .bind (acc3s_wp _) (fun r ha => ?_)
 obtain ⟨r38, r39, r40⟩ := r
 dsimp only at ha ⊢
 refine .seg (Q := Tell (onA op)) ?_ (fun x hx => .tif hx (fun h => .one (onA_cls h)) (fun hn => ?_))
 ·refine .bind (opens3_wp _) (fun r hr => .tif hr (fun h => .left (.yes (.inl h))) (fun h1 => ?_))
  refine .ite (fun h => .left (.yes (by unfold onA; omega))) (fun h2 => .ite (fun h => .left (.yes (by unfold onA; omega))) (fun h3 => .ite (fun h => .left (.yes (by unfold onA; omega))) (fun h4 => .ite (fun h => .left (.yes (by unfold onA; omega))) (fun h5 => ?_))))
  refine .seg (Q := Tell (32 ≤ op ∧ op ≤ 36)) rng_wp (fun x hx => .tif hx (fun h => .left (.yes (by unfold onA; omega))) (fun h6 => ?_))
  refine .ite (fun h => .left (.yes (by unfold onA; omega))) (fun h7 => .ite (fun h => .left (.yes (by unfold onA; omega))) (fun h8 => .ite (fun h => .left (.yes (by unfold onA; omega))) (fun h9 => .ite (fun h => .left (.yes (by unfold onA; omega))) (fun h10 => .left (.no (by unfold onA; omega))))))
 refine .ite (fun h => .one (by rw [h]; rfl)) (fun h14 => ?_)
 refine .ite (fun h => .one ?_) (fun hacc => ?_)
 ·have h1 := ha.1 h
  have h2 := acc_iff.1 h1
  have : cls op = 1 := by unfold cls; rw [if_neg (by omega), if_pos h1]
  rw [this]; rfl
 have hacc' : ¬ acc op = true := fun q => hacc (ha.2 q)
 refine .seg (Q := Tell (op = 64520 ∨ op = 64522)) or2 (fun x hx => .tif hx (fun h => .one ?_) (fun h2 => ?_))
 ·rcases h with h | h <;> rw [h] <;> rfl
 refine .bind (con3_wp _) (fun r hr => .ite (fun h => .one ?_) (fun h => .one ?_))
 ·have hc := hr.1 h
  unfold onA at hn
  have : cls op = 13 := by
   rcases cls_cases op with h1 | h1 | h1 | h1 | h1 | h1 | h1 | h1 | h1 | h1 | h1 | h1 | h1 | h1 <;> first | exact h1.1 | (exfalso; omega) | exact (hacc' h1.2).elim
  rw [this]; rfl
 ·have hc : op = 65 ∨ op = 66 ∨ op = 68 := Classical.not_not.1 (fun q => h (hr.2 q))
  rcases hc with h | h | h <;> rw [h] <;> rfl
def mA (c : Nat) : Int := match c with
 | 0 => 63 | 4 => 64 | 6 | 7 | 8 => 255 | 11 => 15 | _ => 3
theorem mostA_wp (op : Int) : Wp (fun k => ref6_mostA.f k op) (· = mA (cls op)) := by
 refine .succ ?_
 simp only [ref6_mostA.f]
 refine .bind (opens3_wp _) (fun r hr => .tif hr (fun h => .one ?_) (fun h0 => ?_))
 ·rw [show cls op = 0 from by unfold cls; rw [if_pos h]]; rfl
 refine .seg (Q := Tell (op = 12 ∨ op = 13)) or2 (fun x hx => .tif hx (fun h => .one (by rcases h with h | h <;> rw [h] <;> rfl)) (fun h4 => ?_))
 refine .seg (Q := Tell (op = 16 ∨ op = 18)) or2 (fun x hx => .tif hx (fun h => .one (by rcases h with h | h <;> rw [h] <;> rfl)) (fun h6 => ?_))
 refine .seg (Q := Tell (32 ≤ op ∧ op ≤ 34)) rng_wp (fun x hx => .tif hx (fun h => .one ?_) (fun h7 => ?_))
 ·have : op = 32 ∨ op = 33 ∨ op = 34 := by omega
  rcases this with h | h | h <;> rw [h] <;> rfl
 refine .seg (Q := Tell (op = 35 ∨ op = 36)) or2 (fun x hx => .tif hx (fun h => .one (by rcases h with h | h <;> rw [h] <;> rfl)) (fun h8 => ?_))
 refine .ite (fun h => .one (by rw [h]; rfl)) (fun h11 => .one ?_)
 rcases cls_cases op with h1 | h1 | h1 | h1 | h1 | h1 | h1 | h1 | h1 | h1 | h1 | h1 | h1 | h1 <;> first | (rw [h1.1]; rfl) | (exfalso; omega)
theorem okA_iff (i : AInst) : okA i (cls i.Op) ↔
  ((shp (cls i.Op)).a = true → (if 2 ≤ i.Op ∧ i.Op ≤ 4 then -4 else 0) ≤ i.A ∧ i.A ≤ mA (cls i.Op)) ∧ ((shp (cls i.Op)).b = true → 0 ≤ i.B ∧ i.B ≤ (if i.Op = 64520 then 15 else 3)) ∧
  ((shp (cls i.Op)).n = true → i.Op = 66 ∨ i.Op = 68 ∨ i.N < 4294967296) ∧ ((shp (cls i.Op)).l = true → (1 ≤ i.L.length ∧ i.L.length ≤ 17) ∧ ∀ e ∈ i.L, 0 ≤ e ∧ e ≤ 64) := by
 have e64 : (∀ e ∈ i.L, 0 ≤ e ∧ e < 65) ↔ ∀ e ∈ i.L, 0 ≤ e ∧ e ≤ 64 := ⟨fun h e he => ⟨(h e he).1, by have := (h e he).2; omega⟩, fun h e he => ⟨(h e he).1, by have := (h e he).2; omega⟩⟩
 rcases cls_cases i.Op with h1 | h1 | h1 | h1 | h1 | h1 | h1 | h1 | h1 | h1 | h1 | h1 | h1 | h1
 all_goals simp only [h1.1, okA, shp, mA, true_implies, false_implies, Bool.false_eq_true, and_true, true_and, reduceCtorEq, e64]
 ·rw [if_pos h1.2]; omega
 ·have := acc_iff.1 h1.2; rw [if_neg (by omega)]; omega
 ·omega
 ·simp only [true_iff]; omega
 ·rw [if_neg (by omega)]; omega
 ·rw [if_neg (by omega)]; omega
 ·rw [if_neg (by omega)]; omega
 ·rw [if_neg (by omega)]; omega
 ·rw [if_neg (by omega)]; omega
 ·rw [if_neg (by omega), if_pos h1.2]; omega
 ·rw [if_neg (by omega)]; omega
 ·rw [if_neg (by omega), if_neg (by omega)]; omega
end Go.R4
namespace Go.R4
open Go.Proofs Go.Ev
set_option maxRecDepth 100000
theorem refinst_wp (i : AInst) (hL : i.L.length ≤ 4000000000000000000) : Wp (fun k => ref6_Inst.f k i) (Tell (InstP i)) := by
 refine .succ ?_
 simp only [ref6_Inst.f]
 refine .bind (known3_wp _) (fun r hk => .nif hk (fun hk => .one (.no fun q => hk q.1)) (fun hk => ?_))
 refine .bind (asks_wp _) (fun r hs => ?_)
 obtain ⟨a, b, n, l⟩ := r
 dsimp only at hs ⊢
 have hI : InstP i ↔ ((a = true → (if 2 ≤ i.Op ∧ i.Op ≤ 4 then -4 else 0) ≤ i.A ∧ i.A ≤ mA (cls i.Op)) ∧ (a = false → i.A = 0)) ∧ ((b = true → 0 ≤ i.B ∧ i.B ≤ (if i.Op = 64520 then 15 else 3)) ∧ (b = false → i.B = 0)) ∧
   ((n = true → i.Op = 66 ∨ i.Op = 68 ∨ i.N < 4294967296) ∧ (n = false → i.N = 0)) ∧ ((l = true → (1 ≤ i.L.length ∧ i.L.length ≤ 17) ∧ ∀ e ∈ i.L, 0 ≤ e ∧ e ≤ 64) ∧ (l = false → i.L.length = 0)) := by
  unfold InstP
  rw [okA_iff, hs]
  dsimp only
  constructor
  ·rintro ⟨_, ⟨h1, h2, h3, h4⟩, h5, h6, h7, h8⟩; exact ⟨⟨h1, h5⟩, ⟨h2, h6⟩, ⟨h3, h7⟩, h4, h8⟩
  ·rintro ⟨⟨h1, h5⟩, ⟨h2, h6⟩, ⟨h3, h7⟩, h4, h8⟩; exact ⟨hk, ⟨h1, h2, h3, h4⟩, h5, h6, h7, h8⟩
 refine .seg (Q := fun (x : Int) => x = if 2 ≤ i.Op ∧ i.Op ≤ 4 then -4 else 0) ?_ (fun x hx => ?_)
 ·refine .bind (opens3_wp _) (fun r hr => .tif hr (fun h => .left (by rw [if_pos h])) (fun h => .left (by rw [if_neg h])))
 rw [← hx] at hI
 refine .seg (Q := fun _ => (a = true → x ≤ i.A ∧ i.A ≤ mA (cls i.Op)) ∧ (a = false → i.A = 0)) ?_ (fun _ hA => ?_)
 ·cases a with
  | true =>
   simp only [if_true, Bool.not_true, Bool.false_eq_true, if_false]
   refine .ite (fun h => .right (.no fun q => ?_)) (fun h => .bind (mostA_wp _) (fun r hr => .ite (fun h2 => .right (.no fun q => ?_)) (fun h2 => .left ⟨fun _ => ⟨by omega, by omega⟩, fun q => by cases q⟩)))
   ·have := ((hI.1 q).1.1 rfl).1; omega
   ·have := ((hI.1 q).1.1 rfl).2; omega
  | false =>
   simp only [Bool.false_eq_true, if_false, Bool.not_false, if_true]
   exact .ite (fun h => .left ⟨fun q => (by cases q), fun _ => h⟩) (fun h => .right (.no fun q => h ((hI.1 q).1.2 rfl)))
 refine .seg (Q := fun (y : Int) => y = if i.Op = 64520 then 15 else 3) (.ite (fun h => .left (by rw [if_pos h])) (fun h => .left (by rw [if_neg h]))) (fun y hy => ?_)
 rw [← hy] at hI
 refine .seg (Q := fun _ => (b = true → 0 ≤ i.B ∧ i.B ≤ y) ∧ (b = false → i.B = 0)) ?_ (fun _ hB => ?_)
 ·cases b with
  | true =>
   simp only [if_true, Bool.not_true, Bool.false_eq_true, if_false]
   refine .bind (in_wp _ _) (fun r hr => .nif hr (fun h => .right (.no fun q => h ((hI.1 q).2.1.1 rfl))) (fun h => .left ⟨fun _ => h, fun q => by cases q⟩))
  | false =>
   simp only [Bool.false_eq_true, if_false, Bool.not_false, if_true]
   exact .ite (fun h => .left ⟨fun q => (by cases q), fun _ => h⟩) (fun h => .right (.no fun q => h ((hI.1 q).2.1.2 rfl)))
 refine .seg (Q := fun _ => (n = true → i.Op = 66 ∨ i.Op = 68 ∨ i.N < 4294967296) ∧ (n = false → i.N = 0)) ?_ (fun _ hN => ?_)
 ·cases n with
  | true =>
   simp only [if_true, Bool.not_true, Bool.false_eq_true, if_false]
   refine .ite (fun h => .left ⟨fun _ => .inl h, fun q => by cases q⟩) (fun h => .ite (fun h2 => .left ⟨fun _ => .inr (.inl h2), fun q => by cases q⟩) (fun h2 => .ite (fun h3 => .right (.no fun q => ?_)) (fun h3 => .left ⟨fun _ => by omega, fun q => by cases q⟩)))
   have := (hI.1 q).2.2.1.1 rfl; omega
  | false =>
   simp only [Bool.false_eq_true, if_false, Bool.not_false, if_true]
   exact .ite (fun h => .left ⟨fun q => (by cases q), fun _ => h⟩) (fun h => .right (.no fun q => h ((hI.1 q).2.2.1.2 rfl)))
 cases l with
 | false =>
  simp only [Bool.not_false, if_true]
  exact .one (.dec ⟨fun h => hI.2 ⟨hA, hB, hN, fun q => (by cases q), fun _ => by omega⟩, fun q => by have := (hI.1 q).2.2.2.2 rfl; omega⟩)
 | true =>
  simp only [Bool.not_true, Bool.false_eq_true, if_false]
  refine .alt (scanm_wp (O := Unit) i.L hL (fun e => 0 ≤ e ∧ e ≤ 64) (fun _ _ => True) (fun j e he hm => at_nat he (.bind (in_wp _ _) (fun r hr => .nif hr (fun h => .one (.off h)) (fun h => .one (.on h)))))) (fun _ hall => ?_) (fun _ hno => .one (.no fun q => hno.1 ((hI.1 q).2.2.2.1 rfl).2))
  exact .ite (fun h => .one (.dec ⟨fun h2 => hI.2 ⟨hA, hB, hN, fun _ => ⟨⟨by omega, by omega⟩, hall⟩, fun q => by cases q⟩, fun q => by have := ((hI.1 q).2.2.2.1 rfl).1; omega⟩)) (fun h => .one (.no fun q => by have := ((hI.1 q).2.2.2.1 rfl).1; omega))
end Go.R4
