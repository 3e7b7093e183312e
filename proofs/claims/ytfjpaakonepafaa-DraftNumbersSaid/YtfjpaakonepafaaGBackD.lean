import Derived.Test.YtfjpaakonepafaaGMov3
import Derived.Test.YtfjpaakonepafaaGAlikeD
set_option linter.all false
namespace Go.R3K
open Go.Proofs Go.Ev Mo
set_option maxRecDepth 100000
theorem fromZ_64 {n l b : Int} (h : I64 n) : I64 (fromZ n l b) := by
 obtain ⟨h1, h2⟩ := h
 unfold fromZ moreZ I64
 split
 ·omega
 ·split <;> omega
theorem mvI_L {is : List Int} {l b : Int} (i : AInst) : (mvI is l b i).L = i.L := by unfold mvI; split <;> rfl
theorem mvI_A {is : List Int} {l b : Int} {i : AInst} (h : I64 i.A) : I64 (mvI is l b i).A := by
 unfold mvI; split
 ·exact fromZ_64 h
 ·exact h
theorem mvM_sz {kind : Int} {is : List Int} {l b : Int} {m : AModule} (h : Sz m) : Sz (mvM kind is l b m) := by
 obtain ⟨⟨t, i, me, g, ⟨e1, e2⟩, d, c⟩, f1, f2, f3⟩ := h
 refine ⟨⟨t, i, me, g, ⟨by simp only [mvM, List.length_map]; exact e1, fun e he => ?_⟩, d, c⟩, by simp only [mvM, List.length_map]; exact f1, by simp only [mvM, List.length_map]; exact f2, fun f hf => ?_⟩
 ·simp only [mvM, List.mem_map] at he
  obtain ⟨x, hx, rfl⟩ := he
  unfold mvE
  split
  ·exact fromZ_64 (e2 x hx)
  ·exact e2 x hx
 ·simp only [mvM, List.mem_map] at hf
  obtain ⟨x, hx, rfl⟩ := hf
  obtain ⟨q1, q2, q3⟩ := f3 x hx
  refine ⟨by simp only [mvF, List.length_map]; exact q1, q2, fun i hi => ?_⟩
  simp only [mvF, List.mem_map] at hi
  obtain ⟨y, hy, rfl⟩ := hi
  exact ⟨by rw [mvI_L]; exact (q3 y hy).1, mvI_A (q3 y hy).2⟩
theorem sz_fit {m : AModule} (h : Sz m) : Fit m := by
 obtain ⟨⟨⟨t, tx⟩, i, me, g, ⟨e, ex⟩, ⟨d, dx⟩, c, cx⟩, f1, f2, f3⟩ := h
 refine ⟨by omega, by omega, by omega, by omega, by omega, by omega, by omega, by omega, fun x hx => ?_, fun x hx => ⟨?_, ?_, fun y hy => ?_⟩⟩
 ·have := tx x hx; exact ⟨by omega, by omega⟩
 ·have := f3 x hx; unfold SzF at this; omega
 ·have := f3 x hx; unfold SzF at this; omega
 ·have := ((f3 x hx).2.2 y hy).1; omega
structure Sm (m : AModule) : Prop where
 sz : Sz m
 a : ∀ f ∈ m.Funcs, ∀ i ∈ f.Code, -4 ≤ i.A ∧ i.A < 100
 x : ∀ e ∈ m.Exports, 0 ≤ e.Index ∧ e.Index < 100
theorem sm_start {T : List AType} {I : List AImport} {G : List AGlobal} {D : List AData} {F : List AFunc} {M : List AMem} {E : List AExport} (h : ModOk T I G D F M E) : Sm ⟨T, I, F, M, G, E, D, []⟩ := by
 have hx : ∀ e ∈ E, 0 ≤ e.Index ∧ e.Index < 100 := fun e he => by
  obtain ⟨g, g1, g2, e0⟩ := h.exports
  have f2 := h.funcs.2.1
  have m1 := h.mems.1
  rw [e0] at he
  simp only [List.mem_append, List.mem_map, List.mem_range, List.mem_singleton] at he
  rcases he with (he | ⟨i, hi, rfl⟩) | rfl
  ·split at he
   ·simp at he
   ·rename_i hm
    have : M.length ≠ 0 := fun q => hm (List.eq_nil_of_length_eq_zero q)
    simp only [List.mem_singleton] at he
    subst he
    dsimp only
    omega
  ·simp only [fexp]; omega
  ·dsimp only; omega
 refine ⟨⟨⟨⟨?_, fun t ht => ?_⟩, ?_, by have := h.mems.1; dsimp only; omega, ?_, ⟨?_, fun e he => ?_⟩, ⟨?_, fun x hx => ?_⟩, by simp, fun x hx => by simp at hx⟩, h.funcs.1, h.funcs.2.1, fun f hf => ?_⟩, fun f hf => (h.funcs.2.2 f hf).2.few, hx⟩
 ·dsimp only; rw [h.types]; decide
 ·dsimp only at ht; rw [h.types] at ht; have := tys_ok t ht; omega
 ·dsimp only; rw [h.imports]; decide
 ·dsimp only; rw [h.globals]; decide
 ·obtain ⟨g, -, -, e⟩ := h.exports
  have := h.funcs.2.1
  dsimp only
  rw [e]
  simp only [List.length_append, List.length_map, List.length_range, List.length_cons, List.length_nil]
  split <;> simp <;> omega
 ·have := hx e he; exact ⟨by omega, by omega⟩
 ·dsimp only
  rcases h.datas with ⟨-, e⟩ | ⟨a, b, -, -, -, -, e⟩ <;> rw [e] <;> simp
 ·dsimp only at hx
  rcases h.datas with ⟨-, e⟩ | ⟨a, b, -, -, -, -, e⟩ <;> rw [e] at hx <;> simp at hx
  rcases hx with rfl | rfl <;> simp
 ·obtain ⟨q1, q2⟩ := h.funcs.2.2 f hf
  have c1 := q1.2.2.1
  have c2 := q2.1
  refine ⟨by omega, by omega, fun i hi => ?_⟩
  obtain ⟨-, -, s1⟩ := q2.small i hi
  have s2 := q2.few i hi
  exact ⟨by omega, by unfold I64; omega⟩
end Go.R3K
