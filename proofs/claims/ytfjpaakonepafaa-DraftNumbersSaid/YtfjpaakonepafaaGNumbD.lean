import Derived.Test.YtfjpaakonepafaaGSameD
import Derived.KernelRfl
set_option linter.all false
namespace Go.R3K
open Go.Proofs Go.Ev Mo
set_option maxRecDepth 100000
theorem lv_start {T : List AType} {I : List AImport} {G : List AGlobal} {D : List AData} {F : List AFunc} {M : List AMem} {E : List AExport} (h : ModOk T I G D F M E) : ∀ f ∈ F, ∀ i ∈ f.Code, Lv i := fun f hf i hi => by
 obtain ⟨s1, s2, s3⟩ := (h.funcs.2.2 f hf).2.small i hi
 refine ⟨?_, fun x hx => ?_, by omega⟩
 ·unfold Near at s1; unfold I64; omega
 ·have := s2 x hx; unfold Near at this; unfold I64; omega
theorem tape_wp (k0 : Int) : Wp (fun k => loopS (law16_DraftNumbers.b6 k k0) k ((0 : Int), ([] : List Int))) (fun l => l.length ≤ 130) := by
 refine .loop (fun (n : Nat) (v : Int × List Int) => 0 ≤ v.1 ∧ v.1 + (n : Int) = 130 ∧ (v.2.length : Int) = v.1) (fun n v hv => ?_) (n := 130) ⟨by simp, by simp, by simp⟩
 obtain ⟨x, l⟩ := v
 obtain ⟨h1, h2, h3⟩ := hv
 dsimp only at h1 h2 h3
 simp only [law16_DraftNumbers.b6]
 refine .ite (fun hx => .pos (room_small (by omega) (by omega)) (.left ⟨n - 1, by omega, ?_⟩)) (fun _ => .right (by omega))
 dsimp only
 rw [iadd64 (by omega) (by omega)]
 refine ⟨by omega, by omega, ?_⟩
 simp only [List.length_append, List.length_cons, List.length_nil]
 omega
theorem none_ok (j : Nat) : law16_same_1.f (j + 60) (0 : Int) (1 : Int) = some true := by kernel_rfl
theorem numbers_wp : Wp (fun k => law16_DraftNumbers.f k) (· = true) := by
 have hbN : bigN = 140737488351232 := rfl
 refine .succ ?_
 simp only [law16_DraftNumbers.f]
 refine .alt (Q := fun _ => True) (Q2 := fun _ => False) ?_ (fun _ _ => ?_) (fun _ ho => ho.elim)
 ·refine .loop (fun (n : Nat) (v : Int) => 0 ≤ v ∧ v + (n : Int) = 25) (fun n v hv => ?_) (n := 25) ⟨by simp, by simp⟩
  simp only [law16_DraftNumbers.b2]
  refine .ite (fun hi => ?_) (fun _ => .right (show Either (fun _ => True) (fun _ => False) (.inl ()) from trivial))
  refine .bind (tape_wp v) (fun l hl => .bind (module_wp (by omega)) (fun r hm => ?_))
  obtain ⟨T, I, G, D, F, M, E⟩ := r
  dsimp only at hm ⊢
  have sm := sm_start hm
  have lv := lv_start hm
  refine .alt (Q := fun _ => True) (Q2 := fun _ => False) ?_ (fun _ _ => .left ⟨n - 1, by omega, ?_⟩) (fun _ ho => ho.elim)
  ·refine .loop (fun (n : Nat) (v : Int) => -2 ≤ v ∧ v + (n : Int) = 4) (fun n v hv => ?_) (n := 6) ⟨by omega, by omega⟩
   simp only [law16_DraftNumbers.b11]
   refine .ite (fun hi => .bind (same_wp sm.sz lv (by omega)) (fun r hr => .neg (by rw [hr]; simp) (.left ⟨n - 1, by omega, ?_⟩))) (fun _ => .right (show Either (fun _ => True) (fun _ => False) (.inl ()) from trivial))
   rw [iadd64 (by omega) (by omega)]
   exact ⟨by omega, by omega⟩
  ·rw [iadd64 (by omega) (by omega)]
   exact ⟨by omega, by omega⟩
 ·refine .bind (Q := (· = true)) (.at_ 60 (fun k hk => ?_) rfl) (fun r hr => .pos hr (.bind known16_wp (fun r hr => .one hr)))
  obtain ⟨k, rfl⟩ : ∃ j, k = j + 60 := ⟨k - 60, by omega⟩
  exact none_ok k
theorem DraftNumbers : ∃ k, law16_DraftNumbers.f k = some true := numbers_wp.fuel
end Go.R3K
