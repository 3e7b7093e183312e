import Derived.Test.YtfjpaakonepafaaEvPl
set_option linter.all false
namespace Go.Ev
set_option maxRecDepth 100000
def Tell (Q : Prop) (r : Bool) : Prop := r = true ↔ Q
theorem Tell.dec {Q : Prop} {c : Prop} [Decidable c] (h : c ↔ Q) : Tell Q (decide c) := by simp only [Tell, decide_eq_true_iff]; exact h
theorem Tell.yes {Q : Prop} (h : Q) : Tell Q true := ⟨fun _ => h, fun _ => rfl⟩
theorem Tell.no {Q : Prop} (h : ¬ Q) : Tell Q false := ⟨fun e => (by cases e), fun q => (h q).elim⟩
theorem Tell.not {Q : Prop} {r : Bool} (h : Tell Q r) : Tell (¬ Q) (!r) := by cases r <;> simp_all [Tell]
theorem Tell.iff {Q R : Prop} {r : Bool} (h : Tell Q r) (e : Q ↔ R) : Tell R r := Iff.trans h e
theorem Tell.true {Q : Prop} {r : Bool} (h : Tell Q r) (q : Q) : r = Bool.true := h.2 q
theorem tell_wp {F : Nat → Option Bool} {Q R : Prop} (h : Wp F (Tell Q)) (e : Q ↔ R) : Wp F (Tell R) := h.mono fun _ q => q.iff e
section
variable {α : Type} {P : α → Prop} {F G : Nat → Option α} {Q : Prop} {r : Bool}
theorem Wp.tif (hr : Tell Q r) (h1 : Q → Wp F P) (h2 : ¬ Q → Wp G P) : Wp (fun k => if r = true then F k else G k) P :=
 .ite (fun h => h1 (hr.1 h)) (fun h => h2 (fun q => h (hr.2 q)))
theorem Wp.nif (hr : Tell Q r) (h1 : ¬ Q → Wp F P) (h2 : Q → Wp G P) : Wp (fun k => if (!r) = true then F k else G k) P :=
 .ite (fun h => h1 (fun q => by rw [hr.2 q] at h; cases h)) (fun h => h2 (hr.1 (by cases r <;> simp_all)))
end
def Step {O : Type} (q : Prop) (i : Int) (P2 : O → Prop) (r : Int ⊕ (Unit ⊕ O)) : Prop := (q ∧ r = .inl (iadd .i64 i 1)) ∨ (¬ q ∧ ∃ o, P2 o ∧ r = .inr (.inr o))
theorem Step.on {O : Type} {q : Prop} {i : Int} {P2 : O → Prop} (h : q) : Step q i P2 (.inl (iadd .i64 i 1)) := .inl ⟨h, rfl⟩
theorem Step.off {q : Prop} {i : Int} (h : ¬ q) : Step q i (fun _ : Unit => True) (.inr (.inr ())) := .inr ⟨h, (), trivial, rfl⟩
theorem scan_wp {α : Type} {O : Type} (l : List α) (hl : l.length ≤ 4000000000000000000) (q : Nat → α → Prop) (P2 : Int → O → Prop) {B : Nat → Int → Option (Int ⊕ (Unit ⊕ O))}
  (hB : ∀ (i : Nat) e, l[i]? = some e → (∀ (j : Nat) x, j < i → l[j]? = some x → q j x) → Wp (fun k => B k (i : Int)) (Step (q i e) i (P2 i))) :
  Wp (fun k => loopS (fun x : Int => if x < (l.length : Int) then B k x else some (.inr (.inl ()))) k (0 : Int)) (Either (fun _ => ∀ (j : Nat) x, l[j]? = some x → q j x) (fun o => (¬ ∀ (j : Nat) x, l[j]? = some x → q j x) ∧ ∃ i : Nat, P2 i o)) := by
 refine .loop (fun (n : Nat) (i : Int) => 0 ≤ i ∧ i + (n : Int) = l.length ∧ ∀ (j : Nat) x, j < i.toNat → l[j]? = some x → q j x) (fun n i hi => ?_) (n := l.length) ⟨by omega, by omega, fun j x h => by simp at h⟩
 obtain ⟨h1, h2, h3⟩ := hi
 refine .ite (fun hlt => ?_) (fun hge => .right ?_)
 ·have he : l[i.toNat]? = some (l[i.toNat]'(by omega)) := List.getElem?_eq_getElem _
  have hw := hB i.toNat _ he h3
  have ei : ((i.toNat : Nat) : Int) = i := by omega
  rw [ei] at hw
  refine hw.mono fun r hr => ?_
  rcases hr with ⟨hq, rfl⟩ | ⟨hq, o, ho, rfl⟩
  ·refine ⟨n - 1, by omega, ?_⟩
   rw [iadd64 (by omega) (by omega)]
   refine ⟨by omega, by omega, fun j x hj hx => ?_⟩
   by_cases hji : j < i.toNat
   ·exact h3 j x hji hx
   ·have : j = i.toNat := by omega
    subst this
    rw [he] at hx; cases hx
    exact hq
  ·exact ⟨fun hall => hq (hall _ _ he), i.toNat, by rw [ei]; exact ho⟩
 ·intro j x hx
  have := (List.getElem?_eq_some_iff.1 hx).1
  exact h3 j x (by omega) hx
theorem scanm_wp {α : Type} {O : Type} (l : List α) (hl : l.length ≤ 4000000000000000000) (q : α → Prop) (P2 : Int → O → Prop) {B : Nat → Int → Option (Int ⊕ (Unit ⊕ O))}
  (hB : ∀ (i : Nat) e, l[i]? = some e → e ∈ l → Wp (fun k => B k (i : Int)) (Step (q e) i (P2 i))) :
  Wp (fun k => loopS (fun x : Int => if x < (l.length : Int) then B k x else some (.inr (.inl ()))) k (0 : Int)) (Either (fun _ => ∀ e ∈ l, q e) (fun o => (¬ ∀ e ∈ l, q e) ∧ ∃ i : Nat, P2 i o)) := by
 have e1 : (∀ (j : Nat) x, l[j]? = some x → q x) ↔ ∀ e ∈ l, q e := ⟨fun h e he => by obtain ⟨j, hj⟩ := List.getElem?_of_mem he; exact h j e hj, fun h j x hx => h x (List.mem_of_getElem? hx)⟩
 refine (scan_wp l hl (fun _ => q) P2 (fun i e he _ => hB i e he (List.mem_of_getElem? he))).mono fun r hr => ?_
 rcases r with u | o
 ·exact e1.1 hr
 ·exact ⟨fun h => hr.1 (e1.2 h), hr.2⟩
theorem at_nat {α β : Type} {l : List α} {i : Nat} {e : α} (h : l[i]? = some e) {f : Nat → α → Option β} {P : β → Prop} (hf : Wp (fun k => f k e) P) : Wp (fun k => (at? l (i : Int)).bind (f k)) P := by
 simp only [at?_nat, h, Option.bind_some]; exact hf
theorem index_wp {α : Type} (l : List α) (hl : l.length ≤ 4000000000000000000) (good : α → Prop) {g : Nat → α → Option Bool} (hg : ∀ e ∈ l, Wp (fun k => g k e) (Tell (¬ good e))) :
  Wp (fun k => altB (loopS (fun x : Int => if x < (l.length : Int) then (at? l x).bind (fun e => (g k e).bind fun r => if r = true then some (.inr (.inr x)) else some (.inl (iadd .i64 x 1))) else some (.inr (.inl ()) : Int ⊕ (Unit ⊕ Int))) k (0 : Int)) (fun _ => some (-1 : Int)) (fun x => some x)) (fun r => 0 ≤ r ↔ ¬ ∀ e ∈ l, good e) := by
 refine .alt (scanm_wp (O := Int) l hl good (fun i o => o = i) (fun i e he hm => at_nat he (.bind (hg e hm) (fun r hr => .tif hr (fun h => .one (.inr ⟨h, _, rfl, rfl⟩)) (fun h => .one (.on (Classical.not_not.1 h))))))) (fun _ h => .one ?_) (fun o h => .one ?_)
 ·exact ⟨fun q => by omega, fun q => (q h).elim⟩
 ·obtain ⟨h1, i, rfl⟩ := h
  exact ⟨fun _ => h1, fun _ => by omega⟩
theorem contains_wp {F : Nat → Option Int} {A : Prop} (h : Wp F (fun r => 0 ≤ r ↔ ¬ A)) : Wp (fun k => (F k).bind fun r => some (decide (r ≥ 0))) (Tell (¬ A)) := .bind h (fun _ q => .one (.dec q))
theorem equal_wp {α : Type} (a b : List α) (hb : a.length ≤ 4000000000000000000) (same : α → α → Prop) {B : Nat → Int → Option (Int ⊕ (Unit ⊕ Unit))}
  (hB : ∀ (i : Nat) x y, a[i]? = some x → b[i]? = some y → x ∈ a → Wp (fun k => B k (i : Int)) (Step (same x y) i (fun _ => True))) (hlen : a.length = b.length) :
  Wp (fun k => loopS (fun x : Int => if x < (a.length : Int) then B k x else some (.inr (.inl ()))) k (0 : Int)) (Either (fun _ => ∀ (j : Nat) x y, a[j]? = some x → b[j]? = some y → same x y) (fun _ => ¬ ∀ (j : Nat) x y, a[j]? = some x → b[j]? = some y → same x y)) := by
 have hy : ∀ {i : Nat} {e : α}, a[i]? = some e → b[i]? = some (b[i]?.getD e) := fun {i e} h => by
  have h1 := (List.getElem?_eq_some_iff.1 h).1
  rw [List.getElem?_eq_getElem (by omega)]; rfl
 have e1 : (∀ (j : Nat) x, a[j]? = some x → ∀ y, b[j]? = some y → same x y) ↔ (∀ (j : Nat) x y, a[j]? = some x → b[j]? = some y → same x y) := ⟨fun h j x y p q => h j x p y q, fun h j x p y q => h j x y p q⟩
 refine (scan_wp a hb (fun j x => ∀ y, b[j]? = some y → same x y) (fun _ _ => True) (fun i e he _ => ?_)).mono fun r hr => ?_
 ·refine (hB i e _ he (hy he) (List.mem_of_getElem? he)).mono fun r hr => ?_
  rcases hr with ⟨h1, h2⟩ | ⟨h1, h2⟩
  ·refine .inl ⟨fun y h => ?_, h2⟩
   rw [hy he] at h; cases h; exact h1
  ·exact .inr ⟨fun h => h1 (h _ (hy he)), h2⟩
 ·rcases r with u | o
  ·exact e1.1 hr
  ·exact fun h => hr.1 (e1.2 h)
def Alike {α : Type} (same : α → α → Prop) (a b : List α) : Prop := a.length = b.length ∧ ∀ (j : Nat) x y, a[j]? = some x → b[j]? = some y → same x y
theorem alike_wp {α : Type} (a b : List α) (hb : a.length ≤ 4000000000000000000) (same : α → α → Prop) {B : Nat → Int → Option (Int ⊕ (Unit ⊕ Unit))}
  (hB : ∀ (i : Nat) x y, a[i]? = some x → b[i]? = some y → x ∈ a → Wp (fun k => B k (i : Int)) (Step (same x y) i (fun _ => True))) :
  Wp (fun k => if (a.length : Int) = (b.length : Int) then altB (loopS (fun x : Int => if x < (a.length : Int) then B k x else some (.inr (.inl ()))) k (0 : Int)) (fun _ => some true) (fun _ => some false) else some false) (Tell (Alike same a b)) := by
 refine .ite (fun h => ?_) (fun h => .one (.no fun q => h (by rw [q.1])))
 exact .alt (equal_wp a b hb same hB (by omega)) (fun _ q => .one (.yes ⟨by omega, q⟩)) (fun _ q => .one (.no fun p => q p.2))
theorem alike_self {α : Type} {same : α → α → Prop} {l : List α} (h : ∀ x ∈ l, same x x) : Alike same l l := ⟨rfl, fun j x y p q => by rw [p] at q; cases q; exact h x (List.mem_of_getElem? p)⟩
end Go.Ev
