/- Ev: loops: where a code begins, its loops' bodies. -/
import Derived.Test.YtdghpmnhlhhcnaaEvSym3
set_option linter.all false
namespace Go.Ev

/-- The bodies of a code's loops, as they stand. -/
def loopsOf : Code → List Code
  | .seq a b => loopsOf a ++ loopsOf b
  | .cond _ a b => loopsOf a ++ loopsOf b
  | .block _ b => loopsOf b
  | .loop b => b :: loopsOf b
  | _ => []
def loopAt (f : Func) (i : Nat) : Code := match f.body with
  | some c => (loopsOf c).getD i .skip
  | none => .skip
def bodyOf (f : Func) : Code := match f.body with
  | some c => c
  | none => .skip
/-- What is left of a code from a region on. -/
def tailAt (id : Nat) : Code → Option Code
  | .seq a b => if headId b = some id then some b else match tailAt id a with
    | some x => some x
    | none => tailAt id b
  | .block _ b => tailAt id b
  | .loop b => tailAt id b
  | .cond _ a b => match tailAt id a with
    | some x => some x
    | none => tailAt id b
  | _ => none
def tail (f : Func) (id : Nat) : Code := ((f.body).bind (tailAt id)).getD .skip
/-- Slots written out: those that are told, of n. -/
def mk (n : Nat) (l : List (Nat × A)) : List A := (List.range n).map fun i => ((l.find? fun p => p.1 == i).map (·.2)).getD .und
def mkU (n : Nat) (l : List (Nat × A)) : List A := (List.range n).map fun i => ((l.find? fun p => p.1 == i).map (·.2)).getD undA

variable {P : Program} {cf : Callees} {ann : Ann} {np n id m : Nat} {its : List Or} {L : Loops} {c : Code} {st st1 st2 : St} {ps : List Prop} {e : Ex} {r : Option (Ex × St)}
/-- A round of a loop, from a canonical state to the next one. -/
def codeG (P : Program) (cf : Callees) (ann : Ann) (np n : Nat) (its : List Or) (c : Code) (st : St) (L : Loops) : Option (St × List Prop) :=
  match codeD P cf ann np n its c st [] L, headId c with
  | some (.normal, st1, ps, []), some id => (match ghosts np (ann id) st1 with
    | some st2 => some (st2, ps)
    | none => none)
  | _, _ => none
theorem round (h : codeG P cf ann np n its c st L = some (st2, ps)) (hp : All ps) (hh : headId c = some id) (hg : ghosts np (ann id) st2 = some st2) (hi : loopG P cf ann np n c m st2 = r) : loopG P cf ann np n c (m + 1) st = r := by
  unfold codeG at h
  split at h
  · rename_i st1 ps1 id' hc hid
    rw [hh] at hid; cases hid
    split at h
    · rename_i st3 hg1
      simp only [Option.some.injEq, Prod.mk.injEq] at h
      obtain ⟨rfl, rfl⟩ := h
      rw [← hi, ← loop_head hh (hg1.trans hg.symm)]
      simp only [loopG, iter, codeD_run hc hp]
    · cases h
  · cases h
/-- A loop's last round. -/
def codeX (P : Program) (cf : Callees) (ann : Ann) (np n : Nat) (its : List Or) (c : Code) (st : St) (L : Loops) : Option (Ex × St × List Prop) :=
  match codeD P cf ann np n its c st [] L with
  | some (.exit i, st1, ps, []) => (match ghosts np (ann (behind c)) st1 with
    | some st2 => some (.exit i, st2, ps)
    | none => none)
  | some (.ret, st1, ps, []) => (match ghosts np (ann (behind c)) st1 with
    | some st2 => some (.ret, st2, ps)
    | none => none)
  | _ => none
theorem leaves (h : codeX P cf ann np n its c st L = some (e, st2, ps)) (hp : All ps) : loopG P cf ann np n c (m + 1) st = some (e, st2) := by
  unfold codeX at h
  split at h
  · rename_i i st1 ps1 hc
    split at h
    · rename_i st3 hg
      simp only [Option.some.injEq, Prod.mk.injEq] at h
      obtain ⟨rfl, rfl, rfl⟩ := h
      simp only [loopG, iter, codeD_run hc hp, hg]
    · cases h
  · rename_i st1 ps1 hc
    split at h
    · rename_i st3 hg
      simp only [Option.some.injEq, Prod.mk.injEq] at h
      obtain ⟨rfl, rfl, rfl⟩ := h
      simp only [loopG, iter, codeD_run hc hp, hg]
    · cases h
  · cases h
/-- A code's end, and what is said behind it. -/
def codeE (P : Program) (cf : Callees) (ann : Ann) (np n : Nat) (its : List Or) (c : Code) (st : St) (L : Loops) (g : List Gh) : Option (Ex × St × List Prop) :=
  match codeD P cf ann np n its c st [] L with
  | some (e, st1, ps, []) => (match ghosts np g st1 with
    | some st2 => some (e, st2, ps)
    | none => none)
  | _ => none
theorem ends {g : List Gh} (h : codeE P cf ann np n its c st L g = some (e, st2, ps)) (hp : All ps) : ∃ st1, evCode P cf ann np n c st = some (e, st1) ∧ ghosts np g st1 = some st2 := by
  unfold codeE at h
  split at h
  · rename_i e1 st1 ps1 hc
    split at h
    · rename_i st3 hg
      simp only [Option.some.injEq, Prod.mk.injEq] at h
      obtain ⟨rfl, rfl, rfl⟩ := h
      exact ⟨st1, codeD_run hc hp, hg⟩
    · cases h
  · cases h
end Go.Ev
