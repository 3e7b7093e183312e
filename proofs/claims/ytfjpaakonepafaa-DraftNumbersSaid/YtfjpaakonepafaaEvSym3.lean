import Derived.Test.YtfjpaakonepafaaEvSym2
set_option linter.all false
namespace Go.Ev
set_option linter.unusedSimpArgs false
def renD (it : Option It) (a : A) (p : List Prop) : Option (A × List Prop) := match it, a with
 | some (.bo b), .c (.v (.bool t)) => some (A.bool b, p ++ [t = b])
 | some (.num n'), .c (.v (.int k n)) => some (A.int k n', p ++ [n = n'])
 | some (.as a'), a => some (a', p ++ [a = a'])
 | _, a => some (a, p)
theorem renD_ok {it : Option It} {a a' : A} {p p' : List Prop} (h : renD it a p = some (a', p')) (hp : All p') : All p ∧ a = a' := by
 unfold renD at h
 split at h <;> simp only [Option.some.injEq, Prod.mk.injEq] at h <;> obtain ⟨rfl, rfl⟩ := h
 ·simp only [All_app, All, and_true] at hp; exact ⟨hp.1, by rw [hp.2]⟩
 ·simp only [All_app, All, and_true] at hp; exact ⟨hp.1, by rw [hp.2]⟩
 ·simp only [All_app, All, and_true] at hp; exact ⟨hp.1, hp.2⟩
 ·exact ⟨hp, rfl⟩
def opR (P : Program) (cf : Callees) (s : List A) (h : Heap) (it : Option It) (op : Op) : Option (A × Heap × List Prop) :=
 match opD P cf s h it op with
 | some (a, h', p) => (match renD it a p with
  | some (a', p') => some (a', h', p')
  | none => none)
 | none => none
theorem opR_ok {P : Program} {cf : Callees} {s : List A} {h h' : Heap} {it : Option It} {op : Op} {r : A} {p : List Prop} (hd : opR P cf s h it op = some (r, h', p)) (hp : All p) : evOp P cf s h op = some (r, h') := by
 unfold opR at hd
 split at hd
 ·rename_i a h1 q hq
  split at hd
  ·rename_i a' p' hr
   simp only [Option.some.injEq, Prod.mk.injEq] at hd
   obtain ⟨rfl, rfl, rfl⟩ := hd
   obtain ⟨g1, rfl⟩ := renD_ok hr hp
   exact opD_ok hq g1
  ·cases hd
 ·cases hd
noncomputable def loopG (P : Program) (cf : Callees) (ann : Ann) (np n : Nat) (b : Code) (m : Nat) (st : St) : Option (Ex × St) := match iter (evCode P cf ann np n b) m st with
 | some (e, st') => (match ghosts np (ann (behind b)) st' with
  | some st'' => some (e, st'')
  | none => none)
 | none => none
theorem ghosts_app {np : Nat} : ∀ {a b : List Gh} {st : St}, ghosts np (a ++ b) st = (match ghosts np a st with
  | some st' => ghosts np b st'
  | none => none)
 | [], b, st => rfl
 | g :: a, b, st => by
  simp only [List.cons_append, ghosts]
  cases ghost np st g with
  | none => rfl
  | some st' => exact ghosts_app
theorem head_eq {P : Program} {cf : Callees} {ann : Ann} {np n id : Nat} : ∀ {c : Code} {st st' : St}, headId c = some id → ghosts np (ann id) st = ghosts np (ann id) st' → evCode P cf ann np n c st = evCode P cf ann np n c st' := by
 intro c
 induction c with
 | region i ops d =>
  intro st st' h hg
  simp only [headId, Option.some.injEq] at h
  subst h
  simp only [evCode, ghosts_app, hg]
 | seq a b iha ihb =>
  intro st st' h hg
  simp only [evCode, iha h hg]
 | block i b ih =>
  intro st st' h hg
  simp only [evCode, ih h hg]
 | cond c a b iha ihb =>
  intro st st' h hg
  cases c with
  | tmp t =>
   simp only [headId, Option.some.injEq] at h
   subst h
   simp only [evCode, condId, hg]
  | _ => simp [headId] at h
 | _ => intro st st' h; simp [headId] at h
theorem iter_head {P : Program} {cf : Callees} {ann : Ann} {np n id : Nat} {c : Code} {st st' : St} (h : headId c = some id) (hg : ghosts np (ann id) st = ghosts np (ann id) st') (m : Nat) :
  iter (evCode P cf ann np n c) m st = iter (evCode P cf ann np n c) m st' := by
 cases m with
 | zero => rfl
 | succ m => simp only [iter, head_eq h hg]
theorem loop_head {P : Program} {cf : Callees} {ann : Ann} {np n id : Nat} {c : Code} {st st1 : St} (h : headId c = some id) (hg : ghosts np (ann id) st = ghosts np (ann id) st1) (m : Nat) : loopG P cf ann np n c m st = loopG P cf ann np n c m st1 := by
 unfold loopG; rw [iter_head h hg]
def canon (ann : Ann) (np : Nat) (b : Code) (st : St) : Option St := (headId b).bind fun id => ghosts np (ann id) st
theorem canon_code {P : Program} {cf : Callees} {ann : Ann} {np n : Nat} {b : Code} {st stc : St} (h : canon ann np b st = some stc) (hi : canon ann np b stc = some stc) : evCode P cf ann np n b st = evCode P cf ann np n b stc := by
 unfold canon at h hi
 cases hb : headId b with
 | none => simp [hb] at h
 | some id => simp only [hb, Option.bind_some] at h hi; exact head_eq hb (h.trans hi.symm)
theorem canon_loop {P : Program} {cf : Callees} {ann : Ann} {np n : Nat} {b : Code} {st stc : St} (h : canon ann np b st = some stc) (hi : canon ann np b stc = some stc) (m : Nat) : loopG P cf ann np n b m st = loopG P cf ann np n b m stc := by
 unfold canon at h hi
 cases hb : headId b with
 | none => simp [hb] at h
 | some id => simp only [hb, Option.bind_some] at h hi; exact loop_head hb (h.trans hi.symm) m
theorem evFun_of {P : Program} {cfg : Cfg} {cf : Callees} {k : Nat} {f : FuncId} {fn : Func} {body : Code} {args : List A} {h : Heap} {e : Ex} {st st' : St} {x : A} {r : A × Heap}
  (hf : P.funcs[f]? = some fn) (hb : fn.body = some body) (he : evCode P cf (cfg.ann f) h.length k body ⟨args ++ List.replicate (fn.ntmps - args.length) undA, h⟩ = some (e, st))
  (hx : ∀ id, e ≠ .exit id) (hg : ghosts h.length (cfg.fin f) st = some st') (hr : resOf P fn st'.s st'.h = some x) (hl : leave h.length x st'.h = r) : evFun P cfg cf k f args h = some r := by
 simp only [evFun, hf, hb, he, hg]
 cases e with
 | exit id => exact absurd rfl (hx id)
 | normal => simp [hr, hl]
 | ret => simp [hr, hl]
def mk (n : Nat) (l : List (Nat × A)) : List A := (List.range n).map fun i => ((l.find? fun p => p.1 == i).map (·.2)).getD .und
end Go.Ev
