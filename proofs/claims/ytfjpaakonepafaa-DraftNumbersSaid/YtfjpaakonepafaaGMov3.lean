import Derived.Test.YtfjpaakonepafaaGMov2
set_option linter.all false
namespace Go.R3K
open Go.Proofs Go.Ev Mo
set_option maxRecDepth 100000
theorem _root_.Go.Ev.Wp.ge {α : Type} {F : Nat → Option α} {P : α → Prop} {m : Nat} (h : Wp F P) : Wp (fun k => if m ≤ k then F k else none) P := by
 obtain ⟨a, ha, K, hK⟩ := h
 exact ⟨a, ha, max K m, fun k hk => by show (if m ≤ k then F k else none) = some a; rw [if_pos (by omega)]; exact hK k (by omega)⟩
def SzF (f : AFunc) : Prop := f.Code.length ≤ 1000000 ∧ f.Locals.length ≤ 1000000 ∧ ∀ i ∈ f.Code, i.L.length * 8 ≤ 140737488355328 ∧ I64 i.A
structure SzR (T : List AType) (I : List AImport) (M : List AMem) (G : List AGlobal) (E : List AExport) (D : List AData) (C : List ACustom) : Prop where
 t : T.length ≤ 1000000 ∧ ∀ t ∈ T, t.Params.length ≤ 1000000 ∧ t.Results.length ≤ 1000000
 i : I.length ≤ 1000000
 me : M.length ≤ 1000000
 g : G.length ≤ 1000000
 e : E.length ≤ 1000000 ∧ ∀ e ∈ E, I64 e.Index
 d : D.length ≤ 1000000 ∧ ∀ x ∈ D, x.Bytes.length ≤ 10000000
 c : C.length ≤ 1000000 ∧ ∀ x ∈ C, x.Bytes.length ≤ 10000000
section
variable {T : List AType} {I : List AImport} {M : List AMem} {G : List AGlobal} {E : List AExport} {D : List AData} {C : List ACustom}
theorem copy1_wp (h : SzR T I M G E D C) {f1 : AFunc} (h1 : SzF f1) : Wp (fun k => module_Copy.f k T I f1 M G E D C) (· = (I, M, G, T, f1.fType, E, D, C, f1.Locals, f1.Code)) := by
 obtain ⟨⟨t1, t2⟩, i, me, g, ⟨e1, e2⟩, ⟨d1, d2⟩, c1, c2⟩ := h
 obtain ⟨a1, b1, z1⟩ := h1
 refine .succ ?_
 simp only [module_Copy.f]
 refine .bind (tickR (by omega) (by omega)) (fun _ _ => .bind (tickR (by omega) (by omega)) (fun _ _ => .bind (tickR (by omega) (by omega)) (fun _ _ => .bind (tickR (by omega) (by omega)) (fun _ _ => ?_))))
 refine .bind (ctypes_wp t1 t2) (fun r0 q0 => .ge ?_)
 subst q0
 refine .bind (tickR (by omega) (by omega)) (fun _ _ => .bind (ccode_wp (f := f1) a1 (fun x hx => (z1 x hx).1)) (fun r1 q1 => .bind (tickR (by omega) (by omega)) (fun _ _ => ?_)))
 refine .bind (cdatas_wp d1 d2) (fun y1 p1 => .bind (ccustoms_wp c1 c2) (fun y2 p2 => .one ?_))
 rw [p1, p2, q1]
theorem copy2_wp (h : SzR T I M G E D C) {f1 f2 : AFunc} (h1 : SzF f1) (h2 : SzF f2) : Wp (fun k => module_Copy_1.f k T I f1 f2 M G E D C) (· = (I, M, G, T, f1.fType, f2.fType, E, D, C, f1.Locals, f1.Code, f2.Locals, f2.Code)) := by
 obtain ⟨⟨t1, t2⟩, i, me, g, ⟨e1, e2⟩, ⟨d1, d2⟩, c1, c2⟩ := h
 obtain ⟨a1, b1, z1⟩ := h1
 obtain ⟨a2, b2, z2⟩ := h2
 refine .succ ?_
 simp only [module_Copy_1.f]
 refine .bind (tickR (by omega) (by omega)) (fun _ _ => .bind (tickR (by omega) (by omega)) (fun _ _ => .bind (tickR (by omega) (by omega)) (fun _ _ => .bind (tickR (by omega) (by omega)) (fun _ _ => ?_))))
 refine .bind (ctypes_wp t1 t2) (fun r0 q0 => .ge ?_)
 subst q0
 refine .bind (tickR (by omega) (by omega)) (fun _ _ => .bind (ccode_wp (f := f1) a1 (fun x hx => (z1 x hx).1)) (fun r1 q1 => .bind (tickR (by omega) (by omega)) (fun _ _ => ?_)))
 refine .bind (tickR (by omega) (by omega)) (fun _ _ => .bind (ccode_wp (f := f2) a2 (fun x hx => (z2 x hx).1)) (fun r2 q2 => .bind (tickR (by omega) (by omega)) (fun _ _ => ?_)))
 refine .bind (cdatas_wp d1 d2) (fun y1 p1 => .bind (ccustoms_wp c1 c2) (fun y2 p2 => .one ?_))
 rw [p1, p2, q1, q2]
theorem copy3_wp (h : SzR T I M G E D C) {f1 f2 f3 : AFunc} (h1 : SzF f1) (h2 : SzF f2) (h3 : SzF f3) : Wp (fun k => module_Copy_2.f k T I f1 f2 f3 M G E D C) (· = (I, M, G, T, f1.fType, f2.fType, f3.fType, E, D, C, f1.Locals, f1.Code, f2.Locals, f2.Code, f3.Locals, f3.Code)) := by
 obtain ⟨⟨t1, t2⟩, i, me, g, ⟨e1, e2⟩, ⟨d1, d2⟩, c1, c2⟩ := h
 obtain ⟨a1, b1, z1⟩ := h1
 obtain ⟨a2, b2, z2⟩ := h2
 obtain ⟨a3, b3, z3⟩ := h3
 refine .succ ?_
 simp only [module_Copy_2.f]
 refine .bind (tickR (by omega) (by omega)) (fun _ _ => .bind (tickR (by omega) (by omega)) (fun _ _ => .bind (tickR (by omega) (by omega)) (fun _ _ => .bind (tickR (by omega) (by omega)) (fun _ _ => ?_))))
 refine .bind (ctypes_wp t1 t2) (fun r0 q0 => .ge ?_)
 subst q0
 refine .bind (tickR (by omega) (by omega)) (fun _ _ => .bind (ccode_wp (f := f1) a1 (fun x hx => (z1 x hx).1)) (fun r1 q1 => .bind (tickR (by omega) (by omega)) (fun _ _ => ?_)))
 refine .bind (tickR (by omega) (by omega)) (fun _ _ => .bind (ccode_wp (f := f2) a2 (fun x hx => (z2 x hx).1)) (fun r2 q2 => .bind (tickR (by omega) (by omega)) (fun _ _ => ?_)))
 refine .bind (tickR (by omega) (by omega)) (fun _ _ => .bind (ccode_wp (f := f3) a3 (fun x hx => (z3 x hx).1)) (fun r3 q3 => .bind (tickR (by omega) (by omega)) (fun _ _ => ?_)))
 refine .bind (cdatas_wp d1 d2) (fun y1 p1 => .bind (ccustoms_wp c1 c2) (fun y2 p2 => .one ?_))
 rw [p1, p2, q1, q2, q3]
theorem copy4_wp (h : SzR T I M G E D C) {f1 f2 f3 f4 : AFunc} (h1 : SzF f1) (h2 : SzF f2) (h3 : SzF f3) (h4 : SzF f4) : Wp (fun k => module_Copy_3.f k T I f1 f2 f3 f4 M G E D C) (· = (I, M, G, T, f1.fType, f2.fType, f3.fType, f4.fType, E, D, C, f1.Locals, f1.Code, f2.Locals, f2.Code, f3.Locals, f3.Code, f4.Locals, f4.Code)) := by
 obtain ⟨⟨t1, t2⟩, i, me, g, ⟨e1, e2⟩, ⟨d1, d2⟩, c1, c2⟩ := h
 obtain ⟨a1, b1, z1⟩ := h1
 obtain ⟨a2, b2, z2⟩ := h2
 obtain ⟨a3, b3, z3⟩ := h3
 obtain ⟨a4, b4, z4⟩ := h4
 refine .succ ?_
 simp only [module_Copy_3.f]
 refine .bind (tickR (by omega) (by omega)) (fun _ _ => .bind (tickR (by omega) (by omega)) (fun _ _ => .bind (tickR (by omega) (by omega)) (fun _ _ => .bind (tickR (by omega) (by omega)) (fun _ _ => ?_))))
 refine .bind (ctypes_wp t1 t2) (fun r0 q0 => .ge ?_)
 subst q0
 refine .bind (tickR (by omega) (by omega)) (fun _ _ => .bind (ccode_wp (f := f1) a1 (fun x hx => (z1 x hx).1)) (fun r1 q1 => .bind (tickR (by omega) (by omega)) (fun _ _ => ?_)))
 refine .bind (tickR (by omega) (by omega)) (fun _ _ => .bind (ccode_wp (f := f2) a2 (fun x hx => (z2 x hx).1)) (fun r2 q2 => .bind (tickR (by omega) (by omega)) (fun _ _ => ?_)))
 refine .bind (tickR (by omega) (by omega)) (fun _ _ => .bind (ccode_wp (f := f3) a3 (fun x hx => (z3 x hx).1)) (fun r3 q3 => .bind (tickR (by omega) (by omega)) (fun _ _ => ?_)))
 refine .bind (tickR (by omega) (by omega)) (fun _ _ => .bind (ccode_wp (f := f4) a4 (fun x hx => (z4 x hx).1)) (fun r4 q4 => .bind (tickR (by omega) (by omega)) (fun _ _ => ?_)))
 refine .bind (cdatas_wp d1 d2) (fun y1 p1 => .bind (ccustoms_wp c1 c2) (fun y2 p2 => .one ?_))
 rw [p1, p2, q1, q2, q3, q4]
theorem moved1_wp (h : SzR T I M G E D C) {f1 : AFunc} (h1 : SzF f1) {l b kind : Int} {is : List Int} (hb : -1000000 ≤ b ∧ b ≤ 1000000) (hi : is.length ≤ 1000) : Wp (fun k => draft_moved.f k T I f1 M G E D C l b kind is) (· = mvM kind is l b ⟨T, I, [f1], M, G, E, D, C⟩) := by
 refine .succ ?_
 simp only [draft_moved.f]
 refine .bind (copy1_wp h h1) (fun r hr => ?_)
 subst hr
 dsimp only
 refine .ge ?_
 refine .bind (codes_wp (r := f1.Code) hb hi h1.1 (fun x hx => (h1.2.2 x hx).2)) (fun r1 q1 => ?_)
 refine .bind (exports_wp (r := E) hb h.e.1 h.e.2) (fun y p => .one ?_)
 rw [p, q1]
 rfl
theorem moved2_wp (h : SzR T I M G E D C) {f1 f2 : AFunc} (h1 : SzF f1) (h2 : SzF f2) {l b kind : Int} {is : List Int} (hb : -1000000 ≤ b ∧ b ≤ 1000000) (hi : is.length ≤ 1000) : Wp (fun k => draft_moved_1.f k T I f1 f2 M G E D C l b kind is) (· = mvM kind is l b ⟨T, I, [f1, f2], M, G, E, D, C⟩) := by
 refine .succ ?_
 simp only [draft_moved_1.f]
 refine .bind (copy2_wp h h1 h2) (fun r hr => ?_)
 subst hr
 dsimp only
 refine .ge ?_
 refine .bind (codes_wp (r := f1.Code) hb hi h1.1 (fun x hx => (h1.2.2 x hx).2)) (fun r1 q1 => ?_)
 refine .bind (codes_wp (r := f2.Code) hb hi h2.1 (fun x hx => (h2.2.2 x hx).2)) (fun r2 q2 => ?_)
 refine .bind (exports_wp (r := E) hb h.e.1 h.e.2) (fun y p => .one ?_)
 rw [p, q1, q2]
 rfl
theorem moved3_wp (h : SzR T I M G E D C) {f1 f2 f3 : AFunc} (h1 : SzF f1) (h2 : SzF f2) (h3 : SzF f3) {l b kind : Int} {is : List Int} (hb : -1000000 ≤ b ∧ b ≤ 1000000) (hi : is.length ≤ 1000) : Wp (fun k => draft_moved_2.f k T I f1 f2 f3 M G E D C l b kind is) (· = mvM kind is l b ⟨T, I, [f1, f2, f3], M, G, E, D, C⟩) := by
 refine .succ ?_
 simp only [draft_moved_2.f]
 refine .bind (copy3_wp h h1 h2 h3) (fun r hr => ?_)
 subst hr
 dsimp only
 refine .ge ?_
 refine .bind (codes_wp (r := f1.Code) hb hi h1.1 (fun x hx => (h1.2.2 x hx).2)) (fun r1 q1 => ?_)
 refine .bind (codes_wp (r := f2.Code) hb hi h2.1 (fun x hx => (h2.2.2 x hx).2)) (fun r2 q2 => ?_)
 refine .bind (codes_wp (r := f3.Code) hb hi h3.1 (fun x hx => (h3.2.2 x hx).2)) (fun r3 q3 => ?_)
 refine .bind (exports_wp (r := E) hb h.e.1 h.e.2) (fun y p => .one ?_)
 rw [p, q1, q2, q3]
 rfl
theorem moved4_wp (h : SzR T I M G E D C) {f1 f2 f3 f4 : AFunc} (h1 : SzF f1) (h2 : SzF f2) (h3 : SzF f3) (h4 : SzF f4) {l b kind : Int} {is : List Int} (hb : -1000000 ≤ b ∧ b ≤ 1000000) (hi : is.length ≤ 1000) : Wp (fun k => draft_moved_3.f k T I f1 f2 f3 f4 M G E D C l b kind is) (· = mvM kind is l b ⟨T, I, [f1, f2, f3, f4], M, G, E, D, C⟩) := by
 refine .succ ?_
 simp only [draft_moved_3.f]
 refine .bind (copy4_wp h h1 h2 h3 h4) (fun r hr => ?_)
 subst hr
 dsimp only
 refine .ge ?_
 refine .bind (codes_wp (r := f1.Code) hb hi h1.1 (fun x hx => (h1.2.2 x hx).2)) (fun r1 q1 => ?_)
 refine .bind (codes_wp (r := f2.Code) hb hi h2.1 (fun x hx => (h2.2.2 x hx).2)) (fun r2 q2 => ?_)
 refine .bind (codes_wp (r := f3.Code) hb hi h3.1 (fun x hx => (h3.2.2 x hx).2)) (fun r3 q3 => ?_)
 refine .bind (codes_wp (r := f4.Code) hb hi h4.1 (fun x hx => (h4.2.2 x hx).2)) (fun r4 q4 => ?_)
 refine .bind (exports_wp (r := E) hb h.e.1 h.e.2) (fun y p => .one ?_)
 rw [p, q1, q2, q3, q4]
 rfl
end
structure Sz (m : AModule) : Prop where
 r : SzR m.Types m.Imports m.Mems m.Globals m.Exports m.Datas m.Customs
 f : 1 ≤ m.Funcs.length ∧ m.Funcs.length ≤ 4 ∧ ∀ f ∈ m.Funcs, SzF f
theorem movedw_wp {m : AModule} (h : Sz m) {l b kind : Int} {is : List Int} (hb : -1000000 ≤ b ∧ b ≤ 1000000) (hi : is.length ≤ 1000) : Wp (fun k => draft_moved_w.f k m l b kind is) (· = mvM kind is l b m) := by
 obtain ⟨hr, f1, f2, f3⟩ := h
 obtain ⟨T, I, F, M, G, E, D, C⟩ := m
 dsimp only at hr f1 f2 f3
 match F, f1, f2, f3 with
 | [], f1, _, _ => simp at f1
 | [a], _, _, f3 => exact moved1_wp hr (f3 a (by simp)) hb hi
 | [a, a2], _, _, f3 => exact moved2_wp hr (f3 a (by simp)) (f3 a2 (by simp)) hb hi
 | [a, a2, a3], _, _, f3 => exact moved3_wp hr (f3 a (by simp)) (f3 a2 (by simp)) (f3 a3 (by simp)) hb hi
 | [a, a2, a3, a4], _, _, f3 => exact moved4_wp hr (f3 a (by simp)) (f3 a2 (by simp)) (f3 a3 (by simp)) (f3 a4 (by simp)) hb hi
 | _ :: _ :: _ :: _ :: _ :: _, _, f2, _ => simp at f2
theorem calls_wp {m : AModule} (h : Sz m) {l b : Int} (hb : -1000000 ≤ b ∧ b ≤ 1000000) : Wp (fun k => draft_Calls.f k m l b) (· = mvM 0 [16, 18] l b m) := by
 refine .succ ?_
 simp only [draft_Calls.f]
 exact .bind (movedw_wp h hb (by simp)) (fun r hr => .one hr)
theorem globals_wp {m : AModule} (h : Sz m) {l b : Int} (hb : -1000000 ≤ b ∧ b ≤ 1000000) : Wp (fun k => draft_Globals.f k m l b) (· = mvM 3 [35, 36] l b m) := by
 refine .succ ?_
 simp only [draft_Globals.f]
 exact .bind (movedw_wp h hb (by simp)) (fun r hr => .one hr)
end Go.R3K
