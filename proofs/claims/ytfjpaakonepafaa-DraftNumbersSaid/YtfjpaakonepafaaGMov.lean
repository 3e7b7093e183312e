import Derived.Test.YtfjpaakonepafaaGDraftD
import Derived.Test.YtfjpaakonepafaaGCon
set_option linter.all false
namespace Go.R3K
open Go.Proofs Go.Ev Mo
set_option maxRecDepth 100000
theorem _root_.Go.Ev.Wp.congr {α : Type} {F G : Nat → Option α} {P : α → Prop} (h : Wp F P) (e : ∀ k, F k = G k) : Wp G P := (funext e : F = G) ▸ h
def I64 (n : Int) : Prop := -9223372036854775808 ≤ n ∧ n ≤ 9223372036854775807
theorem iadd_any {n b : Int} (h : I64 n) (hb : -1000000 ≤ b ∧ b ≤ 1000000) : iadd .i64 n b = if n + b > 9223372036854775807 then n + b - 18446744073709551616 else if n + b < -9223372036854775808 then n + b + 18446744073709551616 else n + b := by
 obtain ⟨h1, h2⟩ := h
 show IntKind.wrap .i64 (n + b) = _
 simp [IntKind.wrap, IntKind.signed, IntKind.bits]
 split <;> split <;> (try split) <;> omega
def moreZ (n b : Int) : Int := if 0 ≤ n + b ∧ n + b ≤ 1073741824 then n + b else n
def fromZ (n l b : Int) : Int := if n < l then n else moreZ n b
theorem more_any {n b : Int} (hn : I64 n) (hb : -1000000 ≤ b ∧ b ≤ 1000000) : Wp (fun k => draft_more.f k n b) (· = moreZ n b) := by
 have hs := iadd_any hn hb
 obtain ⟨h1, h2⟩ := hn
 refine .succ ?_
 simp only [draft_more.f]
 generalize iadd .i64 n b = s at hs ⊢
 have hs' : (n + b > 9223372036854775807 ∧ s = n + b - 18446744073709551616) ∨ (n + b < -9223372036854775808 ∧ s = n + b + 18446744073709551616) ∨ (-9223372036854775808 ≤ n + b ∧ n + b ≤ 9223372036854775807 ∧ s = n + b) := by
  split at hs
  ·exact .inl ⟨by assumption, hs⟩
  ·split at hs
   ·exact .inr (.inl ⟨by assumption, hs⟩)
   ·exact .inr (.inr ⟨by omega, by omega, hs⟩)
 clear hs
 have leaf : ∀ r : Int, ((0 ≤ n + b ∧ n + b ≤ 1073741824 ∧ r = n + b) ∨ (¬ (0 ≤ n + b ∧ n + b ≤ 1073741824) ∧ r = n)) → r = moreZ n b := fun r h => by
  unfold moreZ
  split <;> omega
 have last : ¬ (b > 0 ∧ s < n) → ¬ (b < 0 ∧ s > n) → Wp (fun _ => if s < 0 then some n else if s > 1073741824 then some n else some s) (· = moreZ n b) := fun q1 q2 =>
  .ite (fun h => .one (leaf _ (by omega))) (fun h => .ite (fun h => .one (leaf _ (by omega))) (fun h => .one (leaf _ (by omega))))
 exact .ite (fun h => .ite (fun h => .one (leaf _ (by omega))) (fun h => .ite (fun h => .ite (fun h => .one (leaf _ (by omega))) (fun h => last (by omega) (by omega))) (fun h => last (by omega) (by omega))))
  (fun h => .ite (fun h => .ite (fun h => .one (leaf _ (by omega))) (fun h => last (by omega) (by omega))) (fun h => last (by omega) (by omega)))
theorem from_wp {n l b : Int} (hn : I64 n) (hb : -1000000 ≤ b ∧ b ≤ 1000000) : Wp (fun k => draft_from.f k n l b) (· = fromZ n l b) := by
 refine .succ ?_
 simp only [draft_from.f]
 unfold fromZ
 refine .ite (fun h => .one ?_) (fun h => .bind (more_any hn hb) (fun r hr => .one ?_))
 ·rw [if_pos h]
 ·rw [if_neg h]; exact hr
theorem contains2_wp (l : List Int) (hl : l.length ≤ 1000) (v : Int) : Wp (fun k => Contains_60.f k l v) (Tell (v ∈ l)) := by
 refine .succ ?_
 simp only [Contains_60.f]
 refine (contains_wp (A := ∀ e ∈ l, ¬ v = e) ?_).mono (fun r hr => hr.iff ?_)
 ·refine .succ ?_
  simp only [Index_86.f, Index_86.b2]
  have := index_wp l (by omega) (fun e => ¬ v = e) (g := fun _ e => some (decide (v = e))) (fun e _ => .one (Tell.dec (by simp)))
  have hx : ∀ (x e : Int), ((some (decide (v = e))).bind fun r => if r = true then some (.inr (.inr x)) else some (.inl (iadd .i64 x 1)) : Option (Int ⊕ (Unit ⊕ Int))) = if v = e then some (.inr (.inr x)) else some (.inl (iadd .i64 x 1)) := fun x e => by
   by_cases h : v = e <;> simp [h]
  simp only [hx] at this
  exact this
 ·constructor
  ·intro h
   exact Classical.byContradiction fun q => h fun e he hv => q (hv ▸ he)
  ·intro h q
   exact q v h rfl
theorem mapset_wp {α : Type} {b : Nat → Int × List α → Option ((Int × List α) ⊕ List α)} {g : α → α} {l0 : List α}
  (hs : ∀ (x : Nat) (l : List α) (e : α), x < l0.length → l.length = l0.length → l[x]? = some e → e ∈ l0 → Wp (fun k => b k ((x : Int), l)) (· = .inl ((x : Int) + 1, l.set x (g e))))
  (he : ∀ l : List α, Wp (fun k => b k ((l0.length : Int), l)) (· = .inr l)) : Wp (fun k => loopS (b k) k ((0 : Int), l0)) (· = l0.map g) := by
 refine .loop (fun (n : Nat) (v : Int × List α) => ∃ x : Nat, v = ((x : Int), (l0.take x).map g ++ l0.drop x) ∧ x + n = l0.length) (fun n v hv => ?_) (n := l0.length) ⟨0, by simp, by omega⟩
 obtain ⟨x, rfl, hx⟩ := hv
 cases n with
 | zero =>
  have : x = l0.length := by omega
  subst this
  refine (he _).mono (fun a ha => ?_)
  subst ha
  show _ = _
  simp
 | succ n =>
  have hlt : x < l0.length := by omega
  have ha : ((l0.take x).map g).length = x := by simp; omega
  have hd : l0.drop x = l0[x] :: l0.drop (x + 1) := List.drop_eq_getElem_cons hlt
  have hl : ((l0.take x).map g ++ l0.drop x)[x]? = some l0[x] := by
   rw [hd]
   have := get_mid ((l0.take x).map g) l0[x] (l0.drop (x + 1))
   rwa [ha] at this
  refine (hs x _ l0[x] hlt (by simp; omega) hl (List.getElem_mem hlt)).mono (fun a h => ?_)
  subst h
  refine ⟨n, by omega, x + 1, ?_, by omega⟩
  have := set_mid ((l0.take x).map g) l0[x] (g l0[x]) (l0.drop (x + 1))
  rw [ha, ← hd] at this
  have ht : l0.take (x + 1) = l0.take x ++ [l0[x]] := by rw [List.take_add_one, List.getElem?_eq_getElem hlt]; rfl
  rw [this, ht, List.map_append, List.append_assoc]
  rfl
theorem build_wp {α β : Type} {b : Nat → Int × List β → Option ((Int × List β) ⊕ List β)} {g : α → β} {l0 : List α}
  (hs : ∀ (x : Nat) (a : List β) (e : α), x < l0.length → a.length = x → l0[x]? = some e → e ∈ l0 → Wp (fun k => b k ((x : Int), a)) (· = .inl ((x : Int) + 1, a ++ [g e])))
  (he : ∀ l : List β, Wp (fun k => b k ((l0.length : Int), l)) (· = .inr l)) : Wp (fun k => loopS (b k) k ((0 : Int), ([] : List β))) (· = l0.map g) := by
 refine .loop (fun (n : Nat) (v : Int × List β) => ∃ x : Nat, v = ((x : Int), (l0.take x).map g) ∧ x + n = l0.length) (fun n v hv => ?_) (n := l0.length) ⟨0, by simp, by omega⟩
 obtain ⟨x, rfl, hx⟩ := hv
 cases n with
 | zero =>
  have : x = l0.length := by omega
  subst this
  refine (he _).mono (fun a ha => ?_)
  subst ha
  show _ = _
  simp
 | succ n =>
  have hlt : x < l0.length := by omega
  refine (hs x _ l0[x] hlt (by simp; omega) (List.getElem?_eq_getElem hlt) (List.getElem_mem hlt)).mono (fun a h => ?_)
  subst h
  refine ⟨n, by omega, x + 1, ?_, by omega⟩
  have ht : l0.take (x + 1) = l0.take x ++ [l0[x]] := by rw [List.take_add_one, List.getElem?_eq_getElem hlt]; rfl
  rw [ht, List.map_append]
  rfl
end Go.R3K
