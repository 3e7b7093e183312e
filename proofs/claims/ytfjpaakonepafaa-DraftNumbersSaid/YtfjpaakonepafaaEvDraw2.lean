import Derived.Test.YtfjpaakonepafaaEvDraw
set_option linter.all false
namespace Go.Ev
variable [Glo]
set_option linter.unusedSimpArgs false
variable {P : Program} {Φ Φ' : Phi} {ρ ρ' : Rho} {H H' : Heap} {s : List A} {a : Act} {w w' : World}
theorem ordOk_facts {ops : Array Oper} {anc : Array Nat} : ∀ {l pre : List Nat}, ordOk P ops anc pre l = true → ∀ {m i : Nat}, l[m]? = some i →
  (∀ j, j < ops.size → bit anc i j = true → j ∈ pre ∨ j ∈ l.take m) ∧ i ∉ pre ∧ i ∉ l.take m ∧ ∀ q, q ∈ pre ∨ q ∈ l.take m → effAt P ops q = true → bit anc i q = true
 | [], _, _, m, i, h => by simp at h
 | x :: l, pre, h, m, i, hm => by
  simp only [ordOk, Bool.and_eq_true, List.all_eq_true, List.mem_range, Bool.or_eq_true, Bool.not_eq_true', List.contains_eq_mem, decide_eq_true_eq, decide_eq_false_iff_not] at h
  obtain ⟨⟨⟨h1, h2⟩, h3⟩, h4⟩ := h
  cases m with
  | zero =>
   simp only [List.getElem?_cons_zero, Option.some.injEq] at hm
   subst hm
   refine ⟨fun j hj hb => ?_, h2, by simp, fun q hq he => ?_⟩
   ·rcases h1 j hj with h | h
    ·rw [hb] at h; cases h
    ·exact .inl h
   ·rcases hq with hq | hq
    ·rcases h3 q hq with h | h
     ·unfold effAt at he; rw [he] at h; cases h
     ·exact h
    ·simp at hq
  | succ m =>
   simp only [List.getElem?_cons_succ] at hm
   obtain ⟨g1, g2, g3, g4⟩ := ordOk_facts h4 hm
   simp only [List.mem_cons, not_or] at g1 g2 g4
   simp only [List.take_succ_cons, List.mem_cons, not_or]
   refine ⟨fun j hj hb => ?_, g2.2, ⟨g2.1, g3⟩, fun q hq he => ?_⟩
   ·rcases g1 j hj hb with (h | h) | h
    ·exact .inr (.inl h)
    ·exact .inl h
    ·exact .inr (.inr h)
   ·refine g4 q ?_ he
    rcases hq with h | h | h
    ·exact .inl (.inr h)
    ·exact .inl (.inl h)
    ·exact .inr h
structure Ctx (P : Program) (cf : Callees) (ops : Array Oper) (es : List En) (st st' : St) : Prop where
 row : Row P cf ops es st st'
 o1 : ∀ {m m' : Nat} {e e' : En}, es[m]? = some e → es[m']? = some e' → bit (ancs ops) e.i e'.i = true → m' < m
 o2 : ∀ {m m' : Nat} {e e' : En}, es[m]? = some e → es[m']? = some e' → m < m' → effAt P ops e.i = true → bit (ancs ops) e'.i e.i = true
 o3 : ∀ {m m' : Nat} {e e' : En}, es[m]? = some e → es[m']? = some e' → e.i = e'.i → m = m'
 all : ∀ i, i < ops.size → ∃ (m : Nat) (e : En), es[m]? = some e ∧ e.i = i
 sl : ∀ {i j : Nat} {o o' : Oper} {d : Tmp}, ops[i]? = some o → ops[j]? = some o' → i ≠ j → o.dst = some d → d ∈ namesOf ops o' → bit (ancs ops) i j = true ∨ bit (ancs ops) j i = true
 ed : ∀ {i : Nat} {o : Oper}, ops[i]? = some o → ∀ e ∈ o.after, e.on < ops.size
theorem ctx_of {cf : Callees} {ops : Array Oper} {st st' : St} (h : evDraw P cf ops st = some st') : ∃ es, Ctx P cf ops es st st' := by
 unfold evDraw at h
 simp only at h
 split at h
 ·rename_i hd
  generalize sched P ops (ancs ops) ops.size 0 = ord at h hd
  simp only [drawOk, Bool.and_eq_true] at hd
  obtain ⟨⟨⟨⟨h1, h2⟩, h3⟩, h4⟩, h5⟩ := hd
  obtain ⟨es, e1, e2, _⟩ := evOrd_row h
  have hm : ∀ {m : Nat} {e : En}, es[m]? = some e → ord[m]? = some e.i := fun he => by rw [← e1, List.getElem?_map, he]; rfl
  have hback : ∀ {m m' : Nat} {i : Nat}, i ∈ ord.take m → ord[m']? = some i → m' < m := by
   intro m m' i hi hg
   obtain ⟨k, hk, hh⟩ := List.mem_iff_getElem.1 hi
   simp only [List.length_take] at hk
   rw [List.getElem_take] at hh
   apply Classical.byContradiction
   intro hn
   have := (ordOk_facts h2 hg).2.2.1
   apply this
   rw [← hh]
   exact List.mem_iff_getElem.2 ⟨k, by simp only [List.length_take]; have := (List.getElem?_eq_some_iff.1 hg).1; omega, by rw [List.getElem_take]⟩
  refine ⟨es, e2, ?_, ?_, ?_, ?_, ?_, ?_⟩
  ·intro m m' e e' he he' hb
   have hj : e'.i < ops.size := by
    simp only [List.all_eq_true, decide_eq_true_eq] at h3
    exact h3 _ (List.mem_of_getElem? (hm he'))
   rcases (ordOk_facts h2 (hm he)).1 _ hj hb with h | h
   ·simp at h
   ·exact hback h (hm he')
  ·intro m m' e e' he he' hlt hf
   refine (ordOk_facts h2 (hm he')).2.2.2 _ (.inr ?_) hf
   have := hm he
   obtain ⟨hl, hh⟩ := List.getElem?_eq_some_iff.1 this
   exact List.mem_iff_getElem.2 ⟨m, by simp only [List.length_take]; omega, by rw [List.getElem_take]; exact hh⟩
  ·intro m m' e e' he he' hi
   have k1 := hm he
   have k2 := hm he'
   rw [hi] at k1
   obtain ⟨l1, q1⟩ := List.getElem?_eq_some_iff.1 k1
   obtain ⟨l2, q2⟩ := List.getElem?_eq_some_iff.1 k2
   rcases Nat.lt_trichotomy m m' with hlt | rfl | hlt
   ·exact absurd (List.mem_iff_getElem.2 ⟨m, by simp only [List.length_take]; omega, by rw [List.getElem_take]; exact q1⟩) (ordOk_facts h2 k2).2.2.1
   ·rfl
   ·exact absurd (List.mem_iff_getElem.2 ⟨m', by simp only [List.length_take]; omega, by rw [List.getElem_take]; exact q2⟩) (ordOk_facts h2 k1).2.2.1
  ·intro i hi
   simp only [List.all_eq_true, List.mem_range, List.contains_eq_mem, decide_eq_true_eq] at h4
   have := h4 i hi
   rw [← e1] at this
   obtain ⟨e, he, rfl⟩ := List.mem_map.1 this
   obtain ⟨m, hm⟩ := List.mem_iff_getElem?.1 he
   exact ⟨m, e, hm, rfl⟩
  ·intro i j o o' d ho ho' hne hd hn
   simp only [slotsOk, List.all_eq_true, Bool.or_eq_true, beq_iff_eq] at h1
   have z1 : (o, i) ∈ ops.toList.zipIdx := by rw [List.mem_zipIdx_iff_getElem?]; simpa using ho
   have z2 : (o', j) ∈ ops.toList.zipIdx := by rw [List.mem_zipIdx_iff_getElem?]; simpa using ho'
   have := h1 (o, i) z1 (o', j) z2
   simp only [hd] at this
   rcases this with ((h | h) | h) | h
   ·exact absurd h hne
   ·exact .inl h
   ·exact .inr h
   ·simp [hn] at h
  ·intro i o ho e he
   simp only [List.all_eq_true, decide_eq_true_eq] at h5
   exact h5 o (by simpa using Array.mem_of_getElem? ho) e (by simpa using he)
 ·cases h
structure Inv (P : Program) (ops : Array Oper) (es : List En) (st st' : St) (Φ0 : Phi) (ρ0 : Rho) (w0 : World) (a0 : Act) (L : Nat → Bool) (p : Nat) (Φ : Phi) (ρ : Rho) (a : Act) (w : World) : Prop where
 pl : p ≤ es.length
 hi : ∀ {m : Nat} {e : En}, es[m]? = some e → p ≤ m → L e.i = false
 lo : ∀ {m : Nat} {e : En}, es[m]? = some e → m < p → effAt P ops e.i = true → L e.i = true
 ef : ∀ {e : En}, es[p]? = some e → effAt P ops e.i = true
 cl : ∀ {i j : Nat}, L i = true → bit (ancs ops) i j = true → L j = true
 stp : Stp Φ0 ρ0 st.h w0 Φ ρ (hAt es st'.h p) w
 un : ∀ {m : Nat} {e : En}, es[m]? = some e → m < p → L e.i = false → e.ran = true → ∀ o, ops[e.i]? = some o → cls P o.op = .alo → ρ e.h.length = none
 sr : SR Φ ρ (hAt es st'.h p) (foldL ops es L st.s) a.tmps
 df : a.defers = a0.defers
theorem names_dst {ops : Array Oper} {o : Oper} {d : Tmp} (h : o.dst = some d) : d ∈ namesOf ops o := by simp [namesOf, h]
theorem names_op {ops : Array Oper} {o : Oper} {d : Tmp} (h : Operand.tmp d ∈ o.op.operands.toList) : d ∈ namesOf ops o := by
 unfold namesOf
 rw [List.append_assoc, List.mem_append]
 right
 rw [List.mem_append]
 left
 rw [List.mem_filterMap]
 exact ⟨_, h, rfl⟩
theorem names_guard {ops : Array Oper} {o : Oper} {j : Nat} {b : Bool} {d : Tmp} (h : o.guard = some (j, b)) (hd : (ops[j]?).bind (·.dst) = some d) : d ∈ namesOf ops o := by
 unfold namesOf
 rw [List.mem_append]
 right
 simp [h, hd]
section
variable {cf : Callees} {ops : Array Oper} {es : List En} {st st' : St} {Φ0 : Phi} {ρ0 : Rho} {w0 : World} {a0 : Act} {L : Nat → Bool} {p : Nat}
theorem SR_get {s s' : List A} {t : Array Value} (h : SR Φ ρ H s t) (hl : s'.length = s.length) (he : ∀ i : Nat, s'[i]? = s[i]?) : SR Φ ρ H s' t :=
 ⟨by rw [hl]; exact h.1, fun i x hx => h.2 i x (by rw [← he]; exact hx)⟩
theorem found (cx : Ctx P cf ops es st st') (iv : Inv P ops es st st' Φ0 ρ0 w0 a0 L p Φ ρ a w) {m : Nat} {e : En} {o : Oper} (he : es[m]? = some e) (ho : ops[e.i]? = some o) (hL : L e.i = false)
  (hr : ∀ j, bit (ancs ops) e.i j = true → L j = true) : ∀ t ∈ namesOf ops o, (foldL ops es L st.s)[t]? = e.s[t]? := by
 intro t ht
 rw [cx.row.slots he]
 refine slot_then (fun m' e' hm he' hd => ?_) (fun m' e' hm he' hd => ?_)
 ·cases ho' : ops[e'.i]? with
  | none => simp [dstOf, ho'] at hd
  | some o' =>
   simp only [dstOf, ho', Option.bind_some] at hd
   have hne : e'.i ≠ e.i := fun h => by have := cx.o3 he' he h; omega
   rcases cx.sl ho' ho hne hd ht with h | h
   ·have := cx.o1 he' he h; omega
   ·exact hr _ h
 ·by_cases hne : e'.i = e.i
  ·rw [hne]; exact hL
  ·cases ho' : ops[e'.i]? with
   | none => simp [dstOf, ho'] at hd
   | some o' =>
    simp only [dstOf, ho', Option.bind_some] at hd
    rcases cx.sl ho' ho hne hd ht with h | h
    ·cases hx : L e'.i with
     | false => rfl
     | true => rw [iv.cl hx h] at hL; cases hL
    ·have := cx.o1 he he' h; omega
theorem listed_put (cx : Ctx P cf ops es st st') (iv : Inv P ops es st st' Φ0 ρ0 w0 a0 L p Φ ρ a w) {m : Nat} {e : En} {o : Oper} (he : es[m]? = some e) (ho : ops[e.i]? = some o) (hL : L e.i = false) {z : Value} {Φ1 : Phi} {ρ1 : Rho} {H1 : Heap}
  {L' : Nat → Bool} (hL' : ∀ i, L' i = (L i || i == e.i)) (hs : SR Φ1 ρ1 H1 (foldL ops es L st.s) a.tmps) (hz : AR Φ1 ρ1 H1 e.out z) : SR Φ1 ρ1 H1 (foldL ops es L' st.s) (a.put o.dst z).tmps := by
 have hd : dstOf ops e.i = o.dst := by simp [dstOf, ho]
 refine SR_get (SR_put (d := o.dst) hs hz) ?_ (fun t => ?_)
 ·rw [foldL_len]
  have := enPut_len (ops := ops) (s := foldL ops es L st.s) (e := e)
  rw [enPut, hd, foldL_len] at this
  exact this.symm
 ·have := foldL_put (ops := ops) (s := st.s) he hL hL' (fun m' e' h1 h2 => cx.o3 h1 he h2) (fun m' e' t hm he' h1 h2 => ?_) t
  ·rw [this, enPut, hd]
  ·cases ho' : ops[e'.i]? with
   | none => simp [dstOf, ho'] at h2
   | some o' =>
    simp only [dstOf, ho', Option.bind_some] at h2
    simp only [dstOf, ho, Option.bind_some] at h1
    have hne : e'.i ≠ e.i := fun h => by have := cx.o3 he' he h; omega
    rcases cx.sl ho' ho hne h2 (names_dst h1) with h | h
    ·cases hx : L e'.i with
     | false => rfl
     | true => rw [iv.cl hx h] at hL; cases hL
    ·have := cx.o1 he he' h; omega
end
end Go.Ev
