import Derived.Test.YtfjpaakonepafaaEvSil4
set_option linter.all false
namespace Go.Ev
variable [Glo]
set_option linter.unusedSimpArgs false
variable {P : Program} {Φ : Phi} {ρ : Rho} {H : Heap} {s : List A} {a : Act}
theorem args_ok (hs : SR Φ ρ H s a.tmps) : ∀ l : List Operand, ARs Φ ρ H (l.map (opd s)) (l.map a.eval)
 | [] => by simp [ARs]
 | x :: l => by simp only [List.map_cons, ARs]; exact ⟨_, _, rfl, opd_ok hs x, args_ok hs l⟩
theorem val_run {x : Sem Value} {z : Value} {w : World} (h : x.run P w = .ok z w) : (do pure (.value (← x)) : Sem Next).run P w = .ok (.value z) w := by
 rw [Sem.run_bind, h]; rfl
theorem builtin_exec {o : Oper} {b : Builtin} {args : Array Operand} {ts : Array TypeId} {e : Operand → Value} (ho : o.op = .call { callee := .builtin b, args, argTypes := ts }) :
  execOp e o = builtin b ts o.type (args.map fun | .const _ => true | _ => false) (args.map e) := by
 simp only [execOp, ho, resolve]
 rfl
theorem arr_get {l : Array Operand} {e : Operand → Value} {x : Operand} {i : Nat} (h : l[i]? = some x) : (l.map e)[i]? = some (e x) := by simp [h]
theorem sil_ok {o : Oper} {r : A} (h : sil P s o.op = some r) (hs : SR Φ ρ H s a.tmps) (w : World) :
  ∃ z, (execOp a.eval o).run P w = .ok (.value z) w ∧ AR Φ ρ H r z := by
 have hO : ∀ x, AR Φ ρ H (opd s x) (a.eval x) := opd_ok hs
 unfold sil at h
 split at h
 ·rename_i x ho; cases h; exact ⟨_, by simp [execOp, ho], hO x⟩
 ·rename_i x ho; cases h; exact ⟨_, by simp [execOp, ho], hO x⟩
 ·rename_i c x y ho
  split at h
  ·rename_i t hc
   cases h
   have hc' := hO c
   rw [hc] at hc'
   simp only [AR, CR, FVR] at hc'
   refine ⟨if t then a.eval x else a.eval y, ?_, ?_⟩
   ·simp only [execOp, ho, hc', asBool, Sem.run_bind, Sem.run_pure, Result.andThen_ok]
   ·cases t <;> simp [hO]
  ·cases h
 ·rename_i x ho
  have hx := hO x
  split at h
  all_goals (try (cases h; done))
  all_goals (rename_i hc; cases h; rw [hc] at hx)
  ·have hx' := hx
   simp only [AR, CR] at hx
   obtain ⟨p, e1, _⟩ := hx
   refine ⟨a.eval x, ?_, hx'⟩
   simp [execOp, ho, e1]
  ·have hx' := hx
   simp only [AR, CR, FVR] at hx
   obtain ⟨c, off, arr, e1, _⟩ := hx
   refine ⟨a.eval x, ?_, hx'⟩
   simp [execOp, ho, e1]
  ·have hx' := hx
   simp only [AR, CR, FVR] at hx
   obtain ⟨arr, e1, _⟩ := hx
   refine ⟨a.eval x, ?_, hx'⟩
   simp [execOp, ho, e1]
  ·have hx' := hx
   simp only [AR, CR, FVR] at hx
   obtain ⟨arr, e1, _⟩ := hx
   refine ⟨a.eval x, ?_, hx'⟩
   simp [execOp, ho, e1]
 ·rename_i op t x y _ ho
  obtain ⟨z, hz, hr⟩ := binA_ok (P := P) (ox := x) (oy := y) h (hO x) (hO y) w
  exact ⟨z, by simp only [execOp, ho]; exact val_run hz, hr⟩
 ·rename_i op t x ho
  obtain ⟨z, hz, hr⟩ := unA_ok (P := P) h (hO x) w
  exact ⟨z, by simp only [execOp, ho]; exact val_run hz, hr⟩
 ·rename_i src dst x ho
  obtain ⟨z, hz, hr⟩ := convA_ok (P := P) h (hO x) w
  exact ⟨z, by simp only [execOp, ho]; exact val_run hz, hr⟩
 ·rename_i t x ho
  have hx := hO x
  split at h
  ·cases h
  ·rename_i d v hd hu hv
   cases h
   rw [hv] at hx
   simp only [AR, CR] at hx
   refine ⟨.iface t (a.eval x), ?_, by simp only [AR, CR, FVR]; exact ⟨_, rfl, hx⟩⟩
   simp only [execOp, ho]
   refine val_run ?_
   simp only [Instr.makeInterface, Sem.run_bind, underlying_run hu, Result.andThen_ok]
   cases d <;> first | rfl | (exact absurd rfl (hd _))
  ·cases h
 ·rename_i f first caps ho
  split at h
  ·rename_i h0
   simp only [Option.map_eq_some_iff] at h
   obtain ⟨l, hl, rfl⟩ := h
   obtain ⟨e1, e2⟩ := allSome_get hl
   have : first = #[] := Array.eq_empty_of_size_eq_zero h0
   subst this
   refine ⟨.func (.func f) #[] (caps.map a.eval), ?_, ?_⟩
   ·simp [execOp, ho, Instr.makeFunc]
   ·simp only [AR, CR]
    refine ⟨_, rfl, by simpa using e1, CRs_iff.2 fun i x hi => ?_⟩
    obtain ⟨y, hy, hc⟩ := e2 i x hi
    rw [List.getElem?_map] at hy
    obtain ⟨q, hq, rfl⟩ := Option.map_eq_some_iff.1 hy
    refine ⟨a.eval q, by simp at hq; simp [hq], ?_⟩
    have := hO q
    unfold cellOf at hc
    split at hc
    ·rename_i hq'; cases hc; rw [hq'] at this; simpa [AR] using this
    ·cases hc
  ·cases h
 ·rename_i t x lo hi mx ho
  obtain ⟨z, hz, hr⟩ := sliceA_ok (P := P) h hs (hO x) w
  exact ⟨z, by simp only [execOp, ho]; exact val_run hz, hr⟩
 ·rename_i t x f ho
  obtain ⟨z, hz, hr⟩ := fieldAddrA_ok (P := P) h (hO x) w
  exact ⟨z, by simp only [execOp, ho]; exact val_run hz, hr⟩
 ·rename_i t x f ho
  obtain ⟨z, hz, hr⟩ := fieldA_ok (P := P) h (hO x) w
  exact ⟨z, by simp only [execOp, ho]; exact val_run hz, hr⟩
 ·rename_i t x ix ho
  obtain ⟨z, hz, hr⟩ := indexAddrA_ok (P := P) h (hO x) (hO ix) w
  exact ⟨z, by simp only [execOp, ho]; exact val_run hz, hr⟩
 ·rename_i t x ix ho
  obtain ⟨z, hz, hr⟩ := indexA_ok (P := P) h (hO x) (hO ix) w
  exact ⟨z, by simp only [execOp, ho]; exact val_run hz, hr⟩
 ·rename_i x i ho
  have hx := hO x
  split at h
  ·rename_i vs hv
   rw [hv] at hx
   simp only [AR] at hx
   obtain ⟨arr, e1, e2⟩ := hx
   obtain ⟨e3, e4⟩ := ARs_iff.1 e2
   obtain ⟨z, hz, hr⟩ := e4 i r h
   refine ⟨z, ?_, hr⟩
   simp only [execOp, ho, e1]
   refine val_run ?_
   simp at hz
   simp [Instr.extract, hz]
  ·cases h
 ·rename_i t parts ho
  obtain ⟨z, hz, hr⟩ := buildA_ok (P := P) (vs := parts.map fun (i, x) => (i, a.eval x)) h (by simp) (fun i p hp => by
   rw [List.getElem?_map] at hp
   obtain ⟨q, hq, rfl⟩ := Option.map_eq_some_iff.1 hp
   refine ⟨(q.1, a.eval q.2), ?_, hO q.2⟩
   simp at hq
   simp [hq]) w
  exact ⟨z, by simp only [execOp, ho]; exact val_run hz, hr⟩
 ·rename_i args ts ho
  split at h
  ·rename_i t x ht hx
   obtain ⟨z, hz, hr⟩ := lenT_ok (P := P) h (hO x) o.type ts (args.map a.eval) ht (arr_get hx) w
   exact ⟨z, by rw [builtin_exec ho]; exact val_run hz, hr⟩
  ·cases h
 ·rename_i args ts ho
  split at h
  ·rename_i t x ht hx
   obtain ⟨z, hz, hr⟩ := capT_ok (P := P) h (hO x) o.type ts (args.map a.eval) ht (arr_get hx) w
   exact ⟨z, by rw [builtin_exec ho]; exact val_run hz, hr⟩
  ·cases h
 ·rename_i args ts ho
  have hA := args_ok hs args.toList
  rw [builtin_exec ho]
  cases hl : args.toList with
  | nil => simp [hl, minA] at h
  | cons x l =>
   rw [hl] at h hA
   simp only [List.map_cons, ARs] at h hA
   obtain ⟨v, vs, e1, e2, e3⟩ := hA
   cases e1
   obtain ⟨z, hz, hr⟩ := minmax_ok (P := P) (gA := fun _ a b => if b < a then b else a) (gM := Builtin.min2) (fun k x y w => rfl) h e2 e3 w
   refine ⟨z, val_run ?_, hr⟩
   simp only [Builtin.min_, Array.toList_map, hl, List.map_cons]
   exact hz
 ·rename_i args ts ho
  have hA := args_ok hs args.toList
  rw [builtin_exec ho]
  cases hl : args.toList with
  | nil => simp [hl, maxA] at h
  | cons x l =>
   rw [hl] at h hA
   simp only [List.map_cons, ARs] at h hA
   obtain ⟨v, vs, e1, e2, e3⟩ := hA
   cases e1
   obtain ⟨z, hz, hr⟩ := minmax_ok (P := P) (gA := fun _ a b => if b > a then b else a) (gM := Builtin.max2) (fun k x y w => rfl) h e2 e3 w
   refine ⟨z, val_run ?_, hr⟩
   simp only [Builtin.max_, Array.toList_map, hl, List.map_cons]
   exact hz
 ·cases h
end Go.Ev
