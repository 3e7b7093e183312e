/- Ev: the evaluator where not all is known: code. -/
import Derived.Test.YtganajogkdinaaaGreatEvSym2
set_option linter.all false
namespace Go.Ev
set_option linter.unusedSimpArgs false

def renD (it : Option It) (a : A) (p : List Prop) : Option (A × List Prop) := match it, a with
  | some (.bo b), .c (.v (.bool t)) => some (A.bool b, p ++ [t = b])
  | some (.num n'), .c (.v (.int k n)) => some (A.int k n', p ++ [n = n'])
  | some (.as a'), a => some (a', p ++ [a = a'])
  | _, a => some (a, p)
theorem renD_ok {it : Option It} {a a' : A} {p p' : List Prop} (h : renD it a p = some (a', p')) (hp : All p') : All p ∧ a = a' := by
  unfold renD at h
  split at h <;> simp only [Option.some.injEq, Prod.mk.injEq] at h <;> obtain ⟨rfl, rfl⟩ := h
  · simp only [All_app, All, and_true] at hp; exact ⟨hp.1, by rw [hp.2]⟩
  · simp only [All_app, All, and_true] at hp; exact ⟨hp.1, by rw [hp.2]⟩
  · simp only [All_app, All, and_true] at hp; exact ⟨hp.1, hp.2⟩
  · exact ⟨hp, rfl⟩
def opR (P : Program) (cf : Callees) (s : List A) (h : Heap) (it : Option It) (op : Op) : Option (A × Heap × List Prop) :=
  match opD P cf s h it op with
  | some (a, h', p) => (match renD it a p with
    | some (a', p') => some (a', h', p')
    | none => none)
  | none => none
theorem opR_ok {P : Program} {cf : Callees} {s : List A} {h h' : Heap} {it : Option It} {op : Op} {r : A} {p : List Prop} (hd : opR P cf s h it op = some (r, h', p)) (hp : All p) : evOp P cf s h op = some (r, h') := by
  unfold opR at hd
  split at hd
  · rename_i a h1 q hq
    split at hd
    · rename_i a' p' hr
      simp only [Option.some.injEq, Prod.mk.injEq] at hd
      obtain ⟨rfl, rfl, rfl⟩ := hd
      obtain ⟨g1, rfl⟩ := renD_ok hr hp
      exact opD_ok hq g1
    · cases hd
  · cases hd
def opsD (P : Program) (cf : Callees) (its : List Or) (id : Nat) (ops : Array Oper) : Nat → List Oper → St → List Prop → Option (St × List Prop)
  | _, [], st, p => some (st, p)
  | i, o :: r, st, p => match wantA ops st.s o with
    | some true => (match opR P cf st.s st.h (Or.find id i its) o.op with
      | some (a, h, q) => opsD P cf its id ops (i + 1) r ⟨putA st.s o.dst a, h⟩ (p ++ q)
      | none => none)
    | some false => opsD P cf its id ops (i + 1) r ⟨putA st.s o.dst undA, st.h⟩ p
    | none => none
theorem opsD_ok {P : Program} {cf : Callees} {its : List Or} {id : Nat} {ops : Array Oper} : ∀ {l : List Oper} {i : Nat} {st st' : St} {p p' : List Prop}, opsD P cf its id ops i l st p = some (st', p') → All p' → All p ∧ evOps P cf ops l st = some st'
  | [], i, st, st', p, p', h, hp => by
    simp only [opsD, Option.some.injEq, Prod.mk.injEq] at h
    obtain ⟨rfl, rfl⟩ := h
    exact ⟨hp, rfl⟩
  | o :: r, i, st, st', p, p', h, hp => by
    simp only [opsD] at h
    split at h
    · rename_i hw
      split at h
      · rename_i a h1 q hq
        obtain ⟨g1, g2⟩ := opsD_ok h hp
        rw [All_app] at g1
        exact ⟨g1.1, by simp only [evOps, hw, opR_ok hq g1.2]; exact g2⟩
      · cases h
    · rename_i hw
      obtain ⟨g1, g2⟩ := opsD_ok h hp
      exact ⟨g1, by simp only [evOps, hw]; exact g2⟩
    · cases h
def ordD (P : Program) (cf : Callees) (its : List Or) (id : Nat) (ops : Array Oper) (anc : Array Nat) : List Nat → St → Pins → List Prop → Option (St × List Prop)
  | [], st, _, p => some (st, p)
  | i :: r, st, pins, p => match ops[i]? with
    | none => none
    | some o => match wantA ops st.s o with
      | some true => (match opR P cf st.s st.h (Or.find id i its) o.op with
        | some (a, h, q) => if isEff P o then
            (if pinsOk anc i (touched P st.s st.h o.op) pins then ordD P cf its id ops anc r ⟨putA st.s o.dst a, h⟩ pins (p ++ q) else none)
          else ordD P cf its id ops anc r ⟨putA st.s o.dst a, h⟩ ((i, pinned P st.s st.h o.op) :: pins) (p ++ q)
        | none => none)
      | some false => ordD P cf its id ops anc r ⟨putA st.s o.dst undA, st.h⟩ pins p
      | none => none
theorem ordD_ok {P : Program} {cf : Callees} {its : List Or} {id : Nat} {ops : Array Oper} {anc : Array Nat} : ∀ {l : List Nat} {st st' : St} {pins : Pins} {p p' : List Prop}, ordD P cf its id ops anc l st pins p = some (st', p') → All p' → All p ∧ evOrd P cf ops anc l st pins = some st'
  | [], st, st', pins, p, p', h, hp => by
    simp only [ordD, Option.some.injEq, Prod.mk.injEq] at h
    obtain ⟨rfl, rfl⟩ := h
    exact ⟨hp, rfl⟩
  | i :: r, st, st', pins, p, p', h, hp => by
    simp only [ordD] at h
    split at h
    · cases h
    · rename_i o ho
      split at h
      · rename_i hw
        split at h
        · rename_i a h1 q hq
          split at h
          · rename_i he
            split at h
            · rename_i hpin
              obtain ⟨g1, g2⟩ := ordD_ok h hp
              rw [All_app] at g1
              exact ⟨g1.1, by simp only [evOrd, ho, hw, opR_ok hq g1.2, he, if_true, hpin]; exact g2⟩
            · cases h
          · rename_i he
            obtain ⟨g1, g2⟩ := ordD_ok h hp
            rw [All_app] at g1
            exact ⟨g1.1, by simp only [evOrd, ho, hw, opR_ok hq g1.2]; rw [if_neg he]; exact g2⟩
        · cases h
      · rename_i hw
        obtain ⟨g1, g2⟩ := ordD_ok h hp
        exact ⟨g1, by simp only [evOrd, ho, hw]; exact g2⟩
      · cases h

abbrev Loops := List (Ex × St)
/-- A loop, and what is said behind it. -/
noncomputable def loopG (P : Program) (cf : Callees) (ann : Ann) (np n : Nat) (b : Code) (m : Nat) (st : St) : Option (Ex × St) := match iter (evCode P cf ann np n b) m st with
  | some (e, st') => (match ghosts np (ann (behind b)) st' with
    | some st'' => some (e, st'')
    | none => none)
  | none => none
theorem ghosts_app {np : Nat} : ∀ {a b : List Gh} {st : St}, ghosts np (a ++ b) st = (match ghosts np a st with
    | some st' => ghosts np b st'
    | none => none)
  | [], b, st => rfl
  | g :: a, b, st => by
    simp only [List.cons_append, ghosts]
    cases ghost np st g with
    | none => rfl
    | some st' => exact ghosts_app
theorem head_eq {P : Program} {cf : Callees} {ann : Ann} {np n id : Nat} : ∀ {c : Code} {st st' : St}, headId c = some id → ghosts np (ann id) st = ghosts np (ann id) st' → evCode P cf ann np n c st = evCode P cf ann np n c st' := by
  intro c
  induction c with
  | region i ops d =>
    intro st st' h hg
    simp only [headId, Option.some.injEq] at h
    subst h
    simp only [evCode, ghosts_app, hg]
  | seq a b iha ihb =>
    intro st st' h hg
    simp only [evCode, iha h hg]
  | block i b ih =>
    intro st st' h hg
    simp only [evCode, ih h hg]
  | cond c a b iha ihb =>
    intro st st' h hg
    cases c with
    | tmp t =>
      simp only [headId, Option.some.injEq] at h
      subst h
      simp only [evCode, condId, hg]
    | _ => simp [headId] at h
  | _ => intro st st' h; simp [headId] at h
theorem iter_head {P : Program} {cf : Callees} {ann : Ann} {np n id : Nat} {c : Code} {st st' : St} (h : headId c = some id) (hg : ghosts np (ann id) st = ghosts np (ann id) st') (m : Nat) :
    iter (evCode P cf ann np n c) m st = iter (evCode P cf ann np n c) m st' := by
  cases m with
  | zero => rfl
  | succ m => simp only [iter, head_eq h hg]
theorem loop_head {P : Program} {cf : Callees} {ann : Ann} {np n id : Nat} {c : Code} {st st1 : St} (h : headId c = some id) (hg : ghosts np (ann id) st = ghosts np (ann id) st1) (m : Nat) : loopG P cf ann np n c m st = loopG P cf ann np n c m st1 := by
  unfold loopG; rw [iter_head h hg]
/-- The state with which a code begins. -/
def canon (ann : Ann) (np : Nat) (b : Code) (st : St) : Option St := (headId b).bind fun id => ghosts np (ann id) st
theorem canon_code {P : Program} {cf : Callees} {ann : Ann} {np n : Nat} {b : Code} {st stc : St} (h : canon ann np b st = some stc) (hi : canon ann np b stc = some stc) : evCode P cf ann np n b st = evCode P cf ann np n b stc := by
  unfold canon at h hi
  cases hb : headId b with
  | none => simp [hb] at h
  | some id => simp only [hb, Option.bind_some] at h hi; exact head_eq hb (h.trans hi.symm)
theorem canon_loop {P : Program} {cf : Callees} {ann : Ann} {np n : Nat} {b : Code} {st stc : St} (h : canon ann np b st = some stc) (hi : canon ann np b stc = some stc) (m : Nat) : loopG P cf ann np n b m st = loopG P cf ann np n b m stc := by
  unfold canon at h hi
  cases hb : headId b with
  | none => simp [hb] at h
  | some id => simp only [hb, Option.bind_some] at h hi; exact loop_head hb (h.trans hi.symm) m
theorem evFun_of {P : Program} {cfg : Cfg} {cf : Callees} {k : Nat} {f : FuncId} {fn : Func} {body : Code} {args : List A} {h : Heap} {e : Ex} {st st' : St} {x : A} {r : A × Heap}
    (hf : P.funcs[f]? = some fn) (hb : fn.body = some body) (he : evCode P cf (cfg.ann f) h.length k body ⟨args ++ List.replicate (fn.ntmps - args.length) undA, h⟩ = some (e, st))
    (hx : ∀ id, e ≠ .exit id) (hg : ghosts h.length (cfg.fin f) st = some st') (hr : resOf P fn st'.s st'.h = some x) (hl : leave h.length x st'.h = r) : evFun P cfg cf k f args h = some r := by
  simp only [evFun, hf, hb, he, hg]
  cases e with
  | exit id => exact absurd rfl (hx id)
  | normal => simp [hr, hl]
  | ret => simp [hr, hl]
theorem iter_next {f : St → Option (Ex × St)} {n : Nat} {st st' : St} {r : Option (Ex × St)} (h : f st = some (.normal, st')) (hr : iter f n st' = r) : iter f (n + 1) st = r := by simp only [iter, h, hr]
theorem iter_last {f : St → Option (Ex × St)} {n : Nat} {st st' : St} {e : Ex} (h : f st = some (e, st')) (he : e ≠ .normal) : iter f (n + 1) st = some (e, st') := by
  simp only [iter, h]
  cases e with
  | normal => exact absurd rfl he
  | exit id => rfl
  | ret => rfl
/-- Slots, of which so many are named. -/
def mk (n : Nat) (l : List (Nat × A)) : List A := (List.range n).map fun i => ((l.find? fun p => p.1 == i).map (·.2)).getD .und
end Go.Ev
