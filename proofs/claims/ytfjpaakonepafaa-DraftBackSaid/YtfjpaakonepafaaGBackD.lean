import Derived.Test.YtfjpaakonepafaaGMov3
import Derived.Test.YtfjpaakonepafaaGAlikeD
import Derived.Test.YtfjpaakonepafaaGDd
set_option linter.all false
namespace Go.R3K
open Go.Proofs Go.Ev Mo
set_option maxRecDepth 100000
theorem map_self {α : Type} {l : List α} {g : α → α} (h : ∀ x ∈ l, g x = x) : l.map g = l := (List.map_congr_left h).trans (List.map_id' l)
theorem fromZ_64 {n l b : Int} (h : I64 n) : I64 (fromZ n l b) := by
 obtain ⟨h1, h2⟩ := h
 unfold fromZ moreZ I64
 split
 ·omega
 ·split <;> omega
theorem mvI_L {is : List Int} {l b : Int} (i : AInst) : (mvI is l b i).L = i.L := by unfold mvI; split <;> rfl
theorem mvI_A {is : List Int} {l b : Int} {i : AInst} (h : I64 i.A) : I64 (mvI is l b i).A := by
 unfold mvI; split
 ·exact fromZ_64 h
 ·exact h
theorem mvM_sz {kind : Int} {is : List Int} {l b : Int} {m : AModule} (h : Sz m) : Sz (mvM kind is l b m) := by
 obtain ⟨⟨t, i, me, g, ⟨e1, e2⟩, d, c⟩, f1, f2, f3⟩ := h
 refine ⟨⟨t, i, me, g, ⟨by simp only [mvM, List.length_map]; exact e1, fun e he => ?_⟩, d, c⟩, by simp only [mvM, List.length_map]; exact f1, by simp only [mvM, List.length_map]; exact f2, fun f hf => ?_⟩
 ·simp only [mvM, List.mem_map] at he
  obtain ⟨x, hx, rfl⟩ := he
  unfold mvE
  split
  ·exact fromZ_64 (e2 x hx)
  ·exact e2 x hx
 ·simp only [mvM, List.mem_map] at hf
  obtain ⟨x, hx, rfl⟩ := hf
  obtain ⟨q1, q2, q3⟩ := f3 x hx
  refine ⟨by simp only [mvF, List.length_map]; exact q1, q2, fun i hi => ?_⟩
  simp only [mvF, List.mem_map] at hi
  obtain ⟨y, hy, rfl⟩ := hi
  exact ⟨by rw [mvI_L]; exact (q3 y hy).1, mvI_A (q3 y hy).2⟩
theorem sz_fit {m : AModule} (h : Sz m) : Fit m := by
 obtain ⟨⟨⟨t, tx⟩, i, me, g, ⟨e, ex⟩, ⟨d, dx⟩, c, cx⟩, f1, f2, f3⟩ := h
 refine ⟨by omega, by omega, by omega, by omega, by omega, by omega, by omega, by omega, fun x hx => ?_, fun x hx => ⟨?_, ?_, fun y hy => ?_⟩⟩
 ·have := tx x hx; exact ⟨by omega, by omega⟩
 ·have := f3 x hx; unfold SzF at this; omega
 ·have := f3 x hx; unfold SzF at this; omega
 ·have := ((f3 x hx).2.2 y hy).1; omega
structure Sm (m : AModule) : Prop where
 sz : Sz m
 a : ∀ f ∈ m.Funcs, ∀ i ∈ f.Code, -4 ≤ i.A ∧ i.A < 100
 x : ∀ e ∈ m.Exports, 0 ≤ e.Index ∧ e.Index < 100
theorem fromZ_back {n k b : Int} (hn : -4 ≤ n ∧ n < 100) (hk : 0 ≤ k ∧ k ≤ 5) (hb : 0 ≤ b ∧ b ≤ 9) : fromZ (fromZ n k b) (k + b) (-b) = n := by
 unfold fromZ moreZ
 repeat' split
 all_goals omega
theorem fromZ_0 {n k : Int} : fromZ n k 0 = n := by
 unfold fromZ moreZ
 repeat' split
 all_goals omega
theorem mvM_back {kind : Int} {is : List Int} {k b : Int} {m : AModule} (h : Sm m) (hk : 0 ≤ k ∧ k ≤ 5) (hb : 0 ≤ b ∧ b ≤ 9) : mvM kind is (k + b) (-b) (mvM kind is k b m) = m := by
 obtain ⟨-, ha, hx⟩ := h
 obtain ⟨T, I, F, M, G, E, D, C⟩ := m
 simp only [mvM, List.map_map]
 have e1 : F.map (mvF is (k + b) (-b) ∘ mvF is k b) = F := map_self fun f hf => by
  simp only [Function.comp, mvF, List.map_map]
  have : f.Code.map (mvI is (k + b) (-b) ∘ mvI is k b) = f.Code := map_self fun i hi => by
   simp only [Function.comp, mvI]
   split
   ·rw [fromZ_back (ha f hf i hi) hk hb]
   ·rfl
  rw [this]
 have e2 : E.map (mvE kind (k + b) (-b) ∘ mvE kind k b) = E := map_self fun e he => by
  simp only [Function.comp, mvE]
  split
  ·have := hx e he
   rw [fromZ_back ⟨by omega, by omega⟩ hk hb]
  ·rfl
 rw [e1, e2]
theorem mvM_0 {kind : Int} {is : List Int} {k : Int} {m : AModule} : mvM kind is k 0 m = m := by
 obtain ⟨T, I, F, M, G, E, D, C⟩ := m
 simp only [mvM]
 have e1 : F.map (mvF is k 0) = F := map_self fun f hf => by
  simp only [mvF]
  have : f.Code.map (mvI is k 0) = f.Code := map_self fun i hi => by
   simp only [mvI]
   split
   ·rw [fromZ_0]
   ·rfl
  rw [this]
 have e2 : E.map (mvE kind k 0) = E := map_self fun e he => by
  simp only [mvE]
  split
  ·rw [fromZ_0]
  ·rfl
 rw [e1, e2]
theorem sm_start {T : List AType} {I : List AImport} {G : List AGlobal} {D : List AData} {F : List AFunc} {M : List AMem} {E : List AExport} (h : ModOk T I G D F M E) : Sm ⟨T, I, F, M, G, E, D, []⟩ := by
 have hx : ∀ e ∈ E, 0 ≤ e.Index ∧ e.Index < 100 := fun e he => by
  obtain ⟨g, g1, g2, e0⟩ := h.exports
  have f2 := h.funcs.2.1
  have m1 := h.mems.1
  rw [e0] at he
  simp only [List.mem_append, List.mem_map, List.mem_range, List.mem_singleton] at he
  rcases he with (he | ⟨i, hi, rfl⟩) | rfl
  ·split at he
   ·simp at he
   ·rename_i hm
    have : M.length ≠ 0 := fun q => hm (List.eq_nil_of_length_eq_zero q)
    simp only [List.mem_singleton] at he
    subst he
    dsimp only
    omega
  ·simp only [fexp]; omega
  ·dsimp only; omega
 refine ⟨⟨⟨⟨?_, fun t ht => ?_⟩, ?_, by have := h.mems.1; dsimp only; omega, ?_, ⟨?_, fun e he => ?_⟩, ⟨?_, fun x hx => ?_⟩, by simp, fun x hx => by simp at hx⟩, h.funcs.1, h.funcs.2.1, fun f hf => ?_⟩, fun f hf => (h.funcs.2.2 f hf).2.few, hx⟩
 ·dsimp only; rw [h.types]; decide
 ·dsimp only at ht; rw [h.types] at ht; have := tys_ok t ht; omega
 ·dsimp only; rw [h.imports]; decide
 ·dsimp only; rw [h.globals]; decide
 ·obtain ⟨g, -, -, e⟩ := h.exports
  have := h.funcs.2.1
  dsimp only
  rw [e]
  simp only [List.length_append, List.length_map, List.length_range, List.length_cons, List.length_nil]
  split <;> simp <;> omega
 ·have := hx e he; exact ⟨by omega, by omega⟩
 ·dsimp only
  rcases h.datas with ⟨-, e⟩ | ⟨a, b, -, -, -, -, e⟩ <;> rw [e] <;> simp
 ·dsimp only at hx
  rcases h.datas with ⟨-, e⟩ | ⟨a, b, -, -, -, -, e⟩ <;> rw [e] at hx <;> simp at hx
  rcases hx with rfl | rfl <;> simp
 ·obtain ⟨q1, q2⟩ := h.funcs.2.2 f hf
  have c1 := q1.2.2.1
  have c2 := q2.1
  refine ⟨by omega, by omega, fun i hi => ?_⟩
  obtain ⟨-, -, s1⟩ := q2.small i hi
  have s2 := q2.few i hi
  exact ⟨by omega, by unfold I64; omega⟩
theorem labelS_0 {n d : Int} : labelS n d 0 = n := by
 unfold labelS
 repeat' split
 all_goals omega
theorem leaveL_0 : ∀ (d : Int) (l : List AInst), leaveL 0 d l = l
 | _, [] => rfl
 | d, i :: r => by
  have h : (leaveI 0 d i).1 = i := by
   unfold leaveI
   split
   ·rfl
   ·split
    ·rfl
    ·split
     ·dsimp only; rw [labelS_0]
     ·split
      ·dsimp only
       rw [show (fun x => labelS x d 0) = id from funext fun x => labelS_0, List.map_id]
      ·rfl
  simp only [leaveL, h, leaveL_0 _ r]
theorem back_wp {l : List Int} {from_ by_ : Int} (hl : l.length ≤ bigN) : Wp (fun k => law16_DraftBack.f k l from_ by_) (· = true) := by
 refine .succ ?_
 simp only [law16_DraftBack.f]
 refine .bind (module_wp hl) (fun r hm => ?_)
 obtain ⟨T, I, G, D, F, M, E⟩ := r
 dsimp only at hm ⊢
 have sm := sm_start hm
 have hfit := sz_fit sm.sz
 refine .bind (within_wp (by decide) (by decide) (by decide)) (fun k hk => .bind (within_wp (by decide) (by decide) (by decide)) (fun b hb => ?_))
 have k1 : 0 ≤ k ∧ k ≤ 5 := ⟨hk.1, hk.2.1⟩
 have b1 : 0 ≤ b ∧ b ≤ 9 := ⟨hb.1, hb.2.1⟩
 rw [iadd64 (by omega) (by omega), show ineg .i64 b = -b from (ineg_ok (show inR .i64 (0 - b) from ⟨by omega, by omega⟩)).trans (by omega)]
 refine .bind (calls_wp sm.sz (by omega)) (fun r1 h1 => .bind (calls_wp (by rw [h1]; exact mvM_sz sm.sz) (by omega)) (fun r2 h2 => ?_))
 rw [h1, mvM_back sm k1 b1] at h2
 subst h2
 refine .bind (rsame_wp _ _ hfit) (fun r hr => .neg (by rw [hr.2 (alikeM_self _)]; simp) ?_)
 refine .bind (globals_wp sm.sz (by omega)) (fun r1 h1 => .bind (globals_wp (by rw [h1]; exact mvM_sz sm.sz) (by omega)) (fun r2 h2 => ?_))
 rw [h1, mvM_back sm k1 b1] at h2
 subst h2
 refine .bind (rsame_wp _ _ hfit) (fun r hr => .neg (by rw [hr.2 (alikeM_self _)]; simp) ?_)
 refine .bind (calls_wp sm.sz (by omega)) (fun r1 h1 => ?_)
 rw [mvM_0] at h1
 subst h1
 refine .bind (rsame_wp _ _ hfit) (fun r hr => .neg (by rw [hr.2 (alikeM_self _)]; simp) ?_)
 refine .alt (Q := fun _ => True) (Q2 := fun _ => False) ?_ (fun o _ => .bind known16_wp (fun r hr => .one hr)) (fun o ho => ho.elim)
 obtain ⟨f1, f2, f3⟩ := hm.funcs
 refine .loop (fun (n : Nat) (v : Int) => 0 ≤ v ∧ v + (n : Int) = F.length) (fun n v hv => ?_) (n := F.length) ⟨by simp, by simp⟩
 simp only [law16_DraftBack.b6]
 refine .ite (fun hi => ?_) (fun _ => .right (show Either (fun _ => True) (fun _ => False) (.inl ()) from trivial))
 refine .bind (.idx hv.1 hi) (fun f hf => ?_)
 obtain ⟨g1, g2⟩ := f3 f (List.mem_of_getElem? hf)
 have hlen : f.Code.length ≤ 20000 := g2.1
 refine .bind (leave_wp2 (by omega) (by omega) g2.small) (fun c hc => ?_)
 rw [leaveL_0] at hc
 subst hc
 refine .bind (insts6_wp _ _ (by omega) (fun i hi => by obtain ⟨-, -, q⟩ := g2.small i hi; omega)) (fun r hr => .neg (by rw [hr.2 (alike_self fun _ _ => ⟨rfl, rfl, rfl, rfl, rfl⟩)]; simp) ?_)
 refine .bind (leave_wp2 (by omega) (by omega) g2.small) (fun c hc => ?_)
 subst hc
 refine .pos (by rw [leaveL_len]) (.left ⟨n - 1, by omega, ?_⟩)
 rw [iadd64 (by omega) (by omega)]
 exact ⟨by omega, by omega⟩
theorem DraftBack {tape : List Int} {f b : Int} (hl : tape.length * 8 ≤ bigN) (_ : ∀ x ∈ tape, inR .i64 x) (_ : inR .i64 f) (_ : inR .i64 b) : ∃ k, law16_DraftBack.f k tape f b = some true :=
 (back_wp (by omega)).fuel
end Go.R3K
