import Derived.Test.YtfjpaakonepafaaEvDraw3
import Derived.Test.YtfjpaakonepafaaEvSym3
import Derived.Below
set_option linter.all false
namespace Go.Ev
variable [Glo]
open Go.RowKit
def snap (W : World) : Phi := fun c => match W.heap[c]? with
 | some (.cells arr _ _) => some arr
 | _ => none
def noRho : Rho := fun _ => none
theorem snap_hr (W : World) (hG : ∀ c arr, Glo.g c = some arr → snap W c = some arr) : HR (snap W) noRho [] W where
 glo := hG
 fro := fun c arr h => by
  unfold snap at h
  split at h
  ·rename_i arr' ty fz hw; cases h; exact ⟨ty, fz, hw⟩
  ·cases h
 own := fun b k inf h => by simp [live] at h
 mps := fun b kk es inf h => by simp [live] at h
 inj := fun b b' k k' inf inf' h => by simp [live] at h
theorem linkG {P : Program} (hm : P.follows .mixedOrders = true) {cfg : Cfg} {prim : FuncId → Option (List A → Heap → Option (A × Heap))} (hp : PrimOk P prim) {k : Nat} {f : FuncId} {args : List A} {h : Heap} {vals : List Value} {W : World}
  (hc : evCall P cfg prim k f args [] = some (.c (.v (.bool true)), h)) (hG : ∀ c arr, Glo.g c = some arr → snap W c = some arr) (ha : ARs (snap W) noRho [] args vals) : Calls P f vals.toArray W fun e W' => e = .returned (.bool true) ∧ Below W.heap.size W W' := by
 refine (evCall_ok (draw_ok hm) hp k f args [] _ h hc (snap W) noRho W vals (snap_hr W hG) ha).mono ?_
 rintro e W' ⟨v, Φ', ρ', rfl, stp, hv⟩
 simp only [AR, CR, FVR] at hv
 subst hv
 refine ⟨rfl, stp.io.os, stp.io.tape, stp.io.output, stp.sz, fun c hc => stp.fr c hc ?_⟩
 rintro ⟨b, k, inf, hk, _⟩
 simp [live] at hk
end Go.Ev
namespace Go.Ev
open Go.RowKit
instance noGlo : Glo := ⟨fun _ => none⟩
theorem link {P : Program} (hm : P.follows .mixedOrders = true) {cfg : Cfg} {prim : FuncId → Option (List A → Heap → Option (A × Heap))} (hp : PrimOk P prim) {k : Nat} {f : FuncId} {args : List A} {h : Heap} {vals : List Value} {W : World}
  (hc : evCall P cfg prim k f args [] = some (.c (.v (.bool true)), h)) (ha : ARs (snap W) noRho [] args vals) : Calls P f vals.toArray W fun e W' => e = .returned (.bool true) ∧ Below W.heap.size W W' :=
 linkG hm hp hc (fun c arr h => by cases h) ha
end Go.Ev
