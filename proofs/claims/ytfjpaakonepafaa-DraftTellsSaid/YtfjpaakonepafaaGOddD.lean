import Derived.Test.YtfjpaakonepafaaGSameD
set_option linter.all false
namespace Go.R3K.Mo
open Go.Proofs Go.Ev
set_option maxRecDepth 100000
structure OddOk (n : Nat) (m : AModule) : Prop where
 t : m.Types.length ≤ 1000 + n
 i : m.Imports.length ≤ 1000 + n
 f : m.Funcs.length ≤ 1000
 me : m.Mems.length ≤ 1000 + n
 g : m.Globals.length ≤ 1000 + n
 e : m.Exports.length ≤ 1000 + n
 d : m.Datas.length ≤ 1000 + n
 c : m.Customs.length ≤ 1000 + n
 fs : ∀ f ∈ m.Funcs, f.Code.length ≤ 30000 + n ∧ f.Locals.length ≤ 1000 + n
theorem wrap64 (n : Int) : I64 (IntKind.wrap .i64 n) := by
 simp [IntKind.wrap, IntKind.signed, IntKind.bits, I64]
 split <;> omega
def LB (i : AInst) : Prop := I64 i.A ∧ (∀ x ∈ i.L, I64 x) ∧ i.L.length * 8 ≤ bigN
structure OddX (m : AModule) : Prop where
 t : ∀ t ∈ m.Types, t.Params.length ≤ 1000 ∧ t.Results.length ≤ 1000
 d : ∀ x ∈ m.Datas, x.Bytes.length ≤ 1000
 c : ∀ x ∈ m.Customs, x.Bytes.length ≤ 1000
 f : ∀ f ∈ m.Funcs, ∀ i ∈ f.Code, LB i
 e : ∀ e ∈ m.Exports, I64 e.Index
 n : 1 ≤ m.Funcs.length ∧ m.Funcs.length ≤ 4
theorem all_app1 {α : Type} {P : α → Prop} {l : List α} {y : α} (h : ∀ x ∈ l, P x) (hy : P y) : ∀ x ∈ l ++ [y], P x := fun x hx => by
 rcases List.mem_append.1 hx with h1 | h1
 ·exact h x h1
 ·rw [List.mem_singleton.1 h1]; exact hy
theorem mem_overL {α : Type} {l m : List α} {i : Nat} {x : α} (h : x ∈ overL l i m) : x ∈ l ∨ x ∈ m := by
 simp only [overL, List.mem_append] at h
 rcases h with h | h | h
 ·exact .inl (List.mem_of_mem_take h)
 ·exact .inr h
 ·exact .inl (List.mem_of_mem_drop (List.mem_of_mem_take h))
theorem OddX.set {m : AModule} (h : OddX m) {j : Nat} {f : AFunc} (hf : ∀ i ∈ f.Code, LB i) : OddX ⟨m.Types, m.Imports, m.Funcs.set j f, m.Mems, m.Globals, m.Exports, m.Datas, m.Customs⟩ :=
 ⟨h.t, h.d, h.c, fun g hg => by
  rcases List.mem_or_eq_of_mem_set hg with hg | rfl
  ·exact h.f g hg
  ·exact hf, h.e, by simp only [List.length_set]; exact h.n⟩
theorem set_LB {l : List AInst} {j : Nat} {y : AInst} (h : ∀ i ∈ l, LB i) (hy : LB y) : ∀ i ∈ l.set j y, LB i := fun i hi => by
 rcases List.mem_or_eq_of_mem_set hi with hi | rfl
 ·exact h i hi
 ·exact hy
theorem imax1 {n : Int} (h : 0 ≤ n) : 1 ≤ imax n 1 ∧ imax n 1 ≤ n + 1 ∧ (1 ≤ n → imax n 1 = n) := by
 unfold imax
 split <;> omega
theorem keepat_wp {n k : Int} (h1 : 1 ≤ k) (h2 : k ≤ 1000000) : Wp (fun j => keep_at.f j n k) (fun r => 0 ≤ r ∧ r ≤ k - 1) := by
 refine .succ ?_
 simp only [keep_at.f]
 rw [isub64 (by omega) (by omega)]
 exact .bind (within_wp (by omega) (by omega) (by omega)) (fun r hr => .one ⟨hr.1, hr.2.1⟩)
theorem code_wp {l : List AInst} {t : Turn} (hl : l.length ≤ 100000) (hL : ∀ i ∈ l, LB i) (ht : LB t.Raw) : Wp (fun j => keep_code.f j l t) (fun r => r.length ≤ l.length + 1 ∧ ∀ i ∈ r, LB i) := by
 refine .succ ?_
 simp only [keep_code.f]
 obtain ⟨m1, m2, m3⟩ := imax1 (n := (l.length : Int)) (by omega)
 refine .bind (keepat_wp m1 (by omega)) (fun r hr => ?_)
 obtain ⟨r0, r1⟩ := hr
 refine .pos (room_small (by omega) (by omega)) (.ite (fun h0 => .one ⟨by simp, fun i hi => by rw [List.mem_singleton.1 hi]; exact ht⟩) (fun h0 => ?_))
 rw [m3 (by omega)] at r1
 refine .bind (within_wp (by decide) (by decide) (by decide)) (fun w _ => ?_)
 have hin : (0 : Int) ≤ r ∧ r < (l.length : Int) := ⟨r0, by omega⟩
 have hg : r.toNat < l.length := by omega
 refine .ite (fun _ => ?_) (fun _ => .ite (fun _ => ?_) (fun _ => .ite (fun _ => ?_) (fun _ => .ite (fun _ => ?_) (fun _ => .ite (fun _ => ?_) (fun _ => ?_)))))
 ·rw [iadd64 (a := r) (by omega) (by omega)]
  have h : (0 + (r.toNat - 0)) + (List.drop (r + 1).toNat l).length ≤ l.length := by rw [List.length_drop]; omega
  refine .pos ⟨r0, Nat.zero_le _, by omega⟩ (.pos ⟨by omega, by omega⟩ (.bind (Q := fun _ => True) (.pos h (.one trivial)) (fun _ _ => .pos h (.pos ?_ (.one ?_)))))
  ·rw [over_len h]; omega
  ·refine ⟨by rw [List.length_take, over_len h]; omega, fun i hi => ?_⟩
   rcases mem_overL (List.mem_of_mem_take hi) with hi | hi
   ·exact hL i hi
   ·exact hL i (List.mem_of_mem_drop hi)
 ·refine .pos ⟨r0, by omega⟩ (.pos ⟨r0, by omega⟩ (.pos (room_small ?_ ?_) (.pos (room_small ?_ ?_) (.pos (room_small ?_ ?_) (.one ⟨?_, fun i hi => ?_⟩)))))
  rotate_right
  ·rcases List.mem_append.1 hi with hi | hi
   ·exact all_app1 (fun x hx => hL x (List.mem_of_mem_take hx)) ht i hi
   ·exact hL i (List.mem_of_mem_drop hi)
  all_goals simp only [List.length_append, List.length_take, List.length_drop, List.length_cons, List.length_nil]
  all_goals omega
 ·refine .pos hin (.bind (.get hg) (fun x _ => .pos hin (.bind (.get hg) (fun y hy => .one ⟨?_, set_LB hL ⟨wrap64 _, (hL y (List.mem_of_getElem? hy)).2⟩⟩))))
  rw [List.length_set]; omega
 ·exact .pos hin (.bind (.get hg) (fun x hx => .one ⟨by rw [List.length_set]; omega, set_LB hL (hL x (List.mem_of_getElem? hx))⟩))
 ·exact .pos hin (.bind (.get hg) (fun x hx => .one ⟨by rw [List.length_set]; omega, set_LB hL (hL x (List.mem_of_getElem? hx))⟩))
 ·exact .pos hin (.bind (.get hg) (fun x _ => .one ⟨by rw [List.length_set]; omega, set_LB hL ht⟩))
theorem OddOk.set {n : Nat} {m : AModule} (h : OddOk n m) {j : Nat} {f : AFunc} (hf : f.Code.length ≤ 30000 + (n + 1) ∧ f.Locals.length ≤ 1000 + (n + 1)) : OddOk (n + 1) ⟨m.Types, m.Imports, m.Funcs.set j f, m.Mems, m.Globals, m.Exports, m.Datas, m.Customs⟩ := by
 obtain ⟨a, b, c, d, e, f', g, i, k⟩ := h
 refine ⟨by dsimp only; omega, by dsimp only; omega, by simpa using c, by dsimp only; omega, by dsimp only; omega, by dsimp only; omega, by dsimp only; omega, by dsimp only; omega, fun x hx => ?_⟩
 rcases List.mem_or_eq_of_mem_set hx with hx | rfl
 ·obtain ⟨q1, q2⟩ := k x hx; exact ⟨by omega, by omega⟩
 ·exact hf
theorem OddOk.up {n : Nat} {m : AModule} (h : OddOk n m) : OddOk (n + 1) m := by
 obtain ⟨a, b, c, d, e, f', g, i, k⟩ := h
 exact ⟨by omega, by omega, c, by omega, by omega, by omega, by omega, by omega, fun x hx => by obtain ⟨q1, q2⟩ := k x hx; exact ⟨by omega, by omega⟩⟩
theorem iand_mask' {n m : Int} (j : Nat) (hm : m = 2 ^ j - 1) (hj : j < 62) : 0 ≤ iand .i64 n m ∧ iand .i64 n m < 2 ^ j := by
 rw [iand_mask (j := j) hm (by simp [IntKind.bits]; omega)]
 have : (0 : Int) < 2 ^ j := Int.pow_pos (by decide)
 exact ⟨Int.emod_nonneg _ (by omega), Int.emod_lt_of_pos _ this⟩
theorem four_get {a b c d : Int} {i : Int} (h0 : 0 ≤ i) (h1 : i < 4) : ∃ v, ([a, b, c, d] : List Int)[i.toNat]? = some v := ⟨_, List.getElem?_eq_getElem (by simp; omega)⟩
theorem three_get {a b c : Int} {i : Int} (h0 : 0 ≤ i) (h1 : i < 3) : ∃ v, ([a, b, c] : List Int)[i.toNat]? = some v := ⟨_, List.getElem?_eq_getElem (by simp; omega)⟩
theorem odd_wp {n : Nat} {m : AModule} {t : Turn} (h : OddOk n m) (hx : OddX m) (hn : n ≤ 100) (hR : LB t.Raw) : Wp (fun j => keep_odd.f j m t) (fun r => OddOk (n + 1) r ∧ OddX r) := by
 have hX := hx
 have hu := h.up
 have hset := fun j f hf => h.set (j := j) (f := f) hf
 obtain ⟨ht, hi, hfu, hm, hg, he, hd, hc, hfs⟩ := h
 refine .succ ?_
 simp only [keep_odd.f]
 obtain ⟨m1, m2, m3⟩ := imax1 (n := (m.Funcs.length : Int)) (by omega)
 refine .bind (keepat_wp m1 (by omega)) (fun r hr => ?_)
 obtain ⟨r0, r1⟩ := hr
 refine .seg (Q := fun b => b = true → r < m.Funcs.length) ?_ (fun b hb => ?_)
 ·exact .ite (fun h0 => .left (fun _ => h0)) (fun _ => .left (fun h => by cases h))
 ·refine .ite (fun hbt => ?_) (fun _ => ?_)
  ·have hlt := hb hbt
   have hin : (0 : Int) ≤ r ∧ r < (m.Funcs.length : Int) := ⟨r0, hlt⟩
   have hgl : r.toNat < m.Funcs.length := by omega
   refine .pos (room_small (by omega) (by omega)) (.pos hin (.bind (.get hgl) (fun x hx => ?_)))
   obtain ⟨x1, x2⟩ := hfs x (List.mem_of_getElem? hx)
   refine .bind (code_wp (by omega) (hX.f x (List.mem_of_getElem? hx)) hR) (fun c hc' => .pos hin (.bind (.get hgl) (fun y hy => .pos hgl (.pos hgl (.one ⟨hset _ _ ⟨?_, ?_⟩, hX.set hc'.2⟩)))))
   ·have := hc'.1; dsimp only; omega
   ·obtain ⟨y1, y2⟩ := hfs y (List.mem_of_getElem? hy)
    dsimp only; omega
  ·refine .bind (within_wp (by decide) (by decide) (by decide)) (fun w _ => ?_)
   obtain ⟨ut, ui, uf, um, ug, ue, ud, uc, ufs⟩ := hu
   refine .ite (fun _ => ?_) (fun _ => .ite (fun _ => ?_) (fun _ => .ite (fun _ => ?_) (fun _ => .ite (fun _ => ?_) (fun _ => .ite (fun _ => ?_) (fun _ => .ite (fun _ => ?_) (fun _ => .ite (fun _ => ?_) (fun _ => .ite (fun _ => ?_) (fun _ => ?_))))))))
   ·exact .pos (room_small (by omega) (by omega)) (.pos (room_small (by omega) (by omega)) (.one ⟨⟨by simp; omega, ui, uf, um, ug, ue, ud, uc, ufs⟩, ⟨all_app1 hX.t ⟨by simp, by simp⟩, hX.d, hX.c, hX.f, hX.e, hX.n⟩⟩))
   ·exact .pos (room_small (by omega) (by omega)) (.pos (room_small (by omega) (by omega)) (.one ⟨⟨ut, ui, uf, um, ug, by simp; omega, ud, uc, ufs⟩, ⟨hX.t, hX.d, hX.c, hX.f, all_app1 hX.e (wrap64 _), hX.n⟩⟩))
   ·exact .pos (room_small (by omega) (by omega)) (.pos (room_small (by omega) (by omega)) (.one ⟨⟨ut, ui, uf, by simp; omega, ug, ue, ud, uc, ufs⟩, ⟨hX.t, hX.d, hX.c, hX.f, hX.e, hX.n⟩⟩))
   ·exact .pos (room_small (by omega) (by omega)) (.pos (room_small (by omega) (by omega)) (.one ⟨⟨ut, ui, uf, um, ug, ue, by simp; omega, uc, ufs⟩, ⟨hX.t, all_app1 hX.d (by simp), hX.c, hX.f, hX.e, hX.n⟩⟩))
   ·obtain ⟨q0, q1⟩ := iand_mask' (n := t.At) (m := 3) 2 (by decide) (by decide)
    obtain ⟨v, hv⟩ := four_get (a := 127) (b := 126) (c := 124) (d := t.To) q0 q1
    refine .pos ⟨q0, q1⟩ (.bind (Q := fun _ => True) ⟨v, trivial, 0, fun _ _ => hv⟩ (fun _ _ => ?_))
    exact .pos (room_small (by omega) (by omega)) (.pos (room_small (by omega) (by omega)) (.one ⟨⟨ut, ui, uf, um, by simp; omega, ue, ud, uc, ufs⟩, ⟨hX.t, hX.d, hX.c, hX.f, hX.e, hX.n⟩⟩))
   ·exact .pos (room_small (by omega) (by omega)) (.pos (room_small (by omega) (by omega)) (.one ⟨⟨ut, ui, uf, um, ug, ue, ud, by simp; omega, ufs⟩, ⟨hX.t, hX.d, all_app1 hX.c (by simp), hX.f, hX.e, hX.n⟩⟩))
   ·exact .pos (room_small (by omega) (by omega)) (.pos (room_small (by omega) (by omega)) (.one ⟨⟨ut, by simp; omega, uf, um, ug, ue, ud, uc, ufs⟩, ⟨hX.t, hX.d, hX.c, hX.f, hX.e, hX.n⟩⟩))
   ·refine .ite (fun h0 => ?_) (fun _ => .one ⟨⟨ut, ui, uf, um, ug, ue, ud, uc, ufs⟩, hX⟩)
    rw [m3 (by omega)] at r1
    have hin : (0 : Int) ≤ r ∧ r < (m.Funcs.length : Int) := ⟨r0, by omega⟩
    have hgl : r.toNat < m.Funcs.length := by omega
    refine .pos (room_small (by omega) (by omega)) (.pos hin (.bind (.get hgl) (fun x hx => ?_)))
    obtain ⟨x1, x2⟩ := hfs x (List.mem_of_getElem? hx)
    refine .pos (room_small (by omega) (by omega)) (.bind (keepat_wp (by decide) (by decide)) (fun w2 hw2 => ?_))
    obtain ⟨v, hv⟩ := three_get (a := 127) (b := 124) (c := t.To) hw2.1 (by omega)
    refine .pos ⟨hw2.1, by omega⟩ (.bind (Q := fun _ => True) ⟨v, trivial, 0, fun _ _ => hv⟩ (fun _ _ => ?_))
    refine .pos (room_small (by omega) (by omega)) (.pos hin (.bind (.get hgl) (fun y hy => .pos hgl (.pos hgl (.one ⟨hset _ _ ⟨?_, ?_⟩, hX.set (hX.f y (List.mem_of_getElem? hy))⟩)))))
    ·obtain ⟨y1, y2⟩ := hfs y (List.mem_of_getElem? hy)
     dsimp only; omega
    ·simp only [List.length_append, List.length_cons, List.length_nil]; omega
   ·refine .ite (fun h0 => ?_) (fun _ => .one ⟨⟨ut, ui, uf, um, ug, ue, ud, uc, ufs⟩, hX⟩)
    rw [m3 (by omega)] at r1
    have hin : (0 : Int) ≤ r ∧ r < (m.Funcs.length : Int) := ⟨r0, by omega⟩
    have hgl : r.toNat < m.Funcs.length := by omega
    refine .pos (room_small (by omega) (by omega)) (.pos hin (.bind (.get hgl) (fun x hx => .one ⟨hset _ _ ?_, hX.set (hX.f x (List.mem_of_getElem? hx))⟩)))
    obtain ⟨x1, x2⟩ := hfs x (List.mem_of_getElem? hx)
    dsimp only
    exact ⟨by omega, by omega⟩
theorem Odd_wp {T : List AType} {I : List AImport} {G : List AGlobal} {D : List AData} {F : List AFunc} {M : List AMem} {E : List AExport} {l : List Turn} (h : OddOk 0 ⟨T, I, F, M, G, E, D, []⟩) (hX : OddX ⟨T, I, F, M, G, E, D, []⟩) (hl : ∀ t ∈ l, LB t.Raw) (hln : l.length ≤ bigN) : Wp (fun j => keep_Odd.f j T I G D l F M E) (fun r => OddOk 5 r ∧ OddX r) := by
 refine .succ ?_
 simp only [keep_Odd.f]
 refine .bind (Q := fun v => OddOk 5 ⟨v.1, v.2.1, v.2.2.1, v.2.2.2.1, v.2.2.2.2.1, v.2.2.2.2.2.1, v.2.2.2.2.2.2.1, v.2.2.2.2.2.2.2⟩ ∧ OddX ⟨v.1, v.2.1, v.2.2.1, v.2.2.2.1, v.2.2.2.2.1, v.2.2.2.2.2.1, v.2.2.2.2.2.2.1, v.2.2.2.2.2.2.2⟩) ?_ (fun v hv => ?_)
 ·refine .loop (fun (n : Nat) v => 0 ≤ v.1 ∧ v.1 ≤ 4 ∧ v.1 + (n : Int) = 4 ∧ OddOk v.1.toNat ⟨v.2.1, v.2.2.1, v.2.2.2.1, v.2.2.2.2.1, v.2.2.2.2.2.1, v.2.2.2.2.2.2.1, v.2.2.2.2.2.2.2.1, v.2.2.2.2.2.2.2.2⟩ ∧ OddX ⟨v.2.1, v.2.2.1, v.2.2.2.1, v.2.2.2.2.1, v.2.2.2.2.2.1, v.2.2.2.2.2.2.1, v.2.2.2.2.2.2.2.1, v.2.2.2.2.2.2.2.2⟩) (fun n v hv => ?_) (n := 4) ⟨by simp, by simp, rfl, h, hX⟩
  obtain ⟨x, a1, a2, a3, a4, a5, a6, a7, a8⟩ := v
  obtain ⟨h0, h1, h2, h3, h4x⟩ := hv
  dsimp only at h0 h1 h2 h3 h4x
  have up : OddOk 5 ⟨a1, a2, a3, a4, a5, a6, a7, a8⟩ := by
   obtain ⟨a, b, c, d, e, f', g, i, k⟩ := h3
   exact ⟨by omega, by omega, c, by omega, by omega, by omega, by omega, by omega, fun y hy => by obtain ⟨q1, q2⟩ := k y hy; exact ⟨by omega, by omega⟩⟩
  simp only [keep_Odd.b2]
  refine .ite (fun hx => .ite (fun h4 => ?_) (fun _ => .right ⟨up, h4x⟩)) (fun _ => .right ⟨up, h4x⟩)
  refine .bind (.idx h0 hx) (fun t ht => .bind (odd_wp h3 h4x (by omega) (hl t (List.mem_of_getElem? ht))) (fun r hr => .left ⟨n - 1, by omega, ?_⟩))
  rw [iadd64 (by omega) (by omega)]
  dsimp only
  refine ⟨by omega, by omega, by omega, ?_⟩
  rw [show (x + 1).toNat = x.toNat + 1 by omega]
  exact hr
 ·obtain ⟨a1, a2, a3, a4, a5, a6, a7, a8⟩ := v
  exact .one hv
theorem odd_start {T : List AType} {I : List AImport} {G : List AGlobal} {D : List AData} {F : List AFunc} {M : List AMem} {E : List AExport} (h : ModOk T I G D F M E) : OddOk 0 ⟨T, I, F, M, G, E, D, []⟩ := by
 refine ⟨?_, ?_, by have := h.funcs.2.1; dsimp only; omega, by have := h.mems.1; dsimp only; omega, ?_, ?_, ?_, by simp, fun f hf => ?_⟩
 ·dsimp only; rw [h.types]; decide
 ·dsimp only; rw [h.imports]; decide
 ·dsimp only; rw [h.globals]; decide
 ·obtain ⟨g, -, -, e⟩ := h.exports
  have := h.funcs.2.1
  dsimp only
  rw [e]
  simp only [List.length_append, List.length_map, List.length_range, List.length_cons, List.length_nil]
  split <;> simp <;> omega
 ·dsimp only
  rcases h.datas with ⟨-, e⟩ | ⟨a, b, -, -, -, -, e⟩ <;> rw [e] <;> simp
 ·obtain ⟨q1, q2⟩ := h.funcs.2.2 f hf
  have := q1.2.2.1
  have := q2.1
  omega
theorem Seq.lb {n : Nat} {c : List AInst} (h : Seq n c) : ∀ i ∈ c, i.L.length ≤ 5 := by
 induction h with
 | nil => intro i hi; cases hi
 | one h => intro i hi; rw [List.mem_singleton.1 hi]; cases h <;> simp_all
 | app _ _ ha hb => intro i hi; exact (List.mem_append.1 hi).elim (ha i) (hb i)
 | blk _ _ _ _ hb =>
  intro i hi
  rcases List.mem_cons.1 hi with rfl | hi
  ·simp
  ·rcases List.mem_append.1 hi with h | h
   ·exact hb i h
   ·rw [List.mem_singleton.1 h]; simp [END]
 | ite _ _ _ _ hb hd =>
  intro i hi
  rcases List.mem_cons.1 hi with rfl | hi
  ·simp
  ·rcases List.mem_append.1 hi with h | h
   ·exact hb i h
   ·rcases List.mem_cons.1 h with rfl | h
    ·simp [ELSE]
    ·rcases List.mem_append.1 h with h | h
     ·exact hd i h
     ·rw [List.mem_singleton.1 h]; simp [END]
theorem oddx_start {T : List AType} {I : List AImport} {G : List AGlobal} {D : List AData} {F : List AFunc} {M : List AMem} {E : List AExport} (h : ModOk T I G D F M E) : OddX ⟨T, I, F, M, G, E, D, []⟩ := by
 refine ⟨fun t ht => ?_, fun x hx => ?_, fun x hx => by simp at hx, fun f hf i hi => ?_, fun e he => ?_, h.funcs.1, h.funcs.2.1⟩
 ·dsimp only at ht; rw [h.types] at ht; have := tys_ok t ht; omega
 ·dsimp only at hx
  rcases h.datas with ⟨-, e⟩ | ⟨a, b, -, -, -, -, e⟩ <;> rw [e] at hx <;> simp at hx
  rcases hx with rfl | rfl <;> simp
 ·obtain ⟨s1, s2, s3⟩ := (h.funcs.2.2 f hf).2.small i hi
  have e : bigN = 140737488351232 := rfl
  refine ⟨?_, fun x hx => ?_, by omega⟩
  ·unfold Near at s1; unfold I64; omega
  ·have := s2 x hx; unfold Near at this; unfold I64; omega
 ·have := (sm_start h).x e he
  unfold I64; omega
theorem sz_odd {n : Nat} {m : AModule} (h : OddOk n m) (hn : n ≤ 100) (hX : OddX m) : Sz m := by
 have e : bigN = 140737488351232 := rfl
 obtain ⟨t, i, f, me, g, ex, d, c, fs⟩ := h
 refine ⟨⟨⟨by omega, fun x hx => ?_⟩, by omega, by omega, by omega, ⟨by omega, hX.e⟩, ⟨by omega, fun x hx => ?_⟩, by omega, fun x hx => ?_⟩, hX.n.1, hX.n.2, fun x hx => ⟨?_, ?_, fun y hy => ⟨?_, (hX.f x hx y hy).1⟩⟩⟩
 ·have := hX.t x hx; exact ⟨by omega, by omega⟩
 ·have := hX.d x hx; omega
 ·have := hX.c x hx; omega
 ·have := fs x hx; omega
 ·have := fs x hx; omega
 ·have := (hX.f x hx y hy).2.2; omega
theorem lv_odd {m : AModule} (hX : OddX m) : ∀ f ∈ m.Funcs, ∀ i ∈ f.Code, Lv i := fun f hf i hi => by
 have e : bigN = 140737488351232 := rfl
 obtain ⟨a, b, c⟩ := hX.f f hf i hi
 exact ⟨a, b, by omega⟩
end Go.R3K.Mo
