/- slices.SortFunc of the blocks of code, at the seat. -/
import Derived.Test.YtfjpaakonepafaaRows
import Derived.Test.YtfjpaakonepafaaSortLay
import Derived.Test.YtfjpaakonepafaaEvSort
set_option linter.all false
namespace Go.R3M
open Go.Proofs Go.Shelf Go.RowKit Go.Lib Go.Sort Go.Ev
set_option maxRecDepth 100000
set_option maxHeartbeats 1000000 in
theorem closure53 (x y : T3) (W : World) : Calls Try.prog 53 #[.agg #[.int .i64 x.1, .int .i64 x.2.1, .int .i64 x.2.2], .agg #[.int .i64 y.1, .int .i64 y.2.1, .int .i64 y.2.2]] W fun e w' => e = .returned (.int .i64 (Lib.compareInt x.1 y.1)) ∧ ∃ q os', w' = grow (W.drewN q) os' := by
  have hcon := fun W' => AnyG.cmp_Compare_int Try.cmpInt x.1 y.1 W'
  change ∀ W', Calls Try.prog 54 _ _ _ at hcon
  generalize Lib.compareInt x.1 y.1 = r at hcon ⊢
  go_enter Try.func53, Try.ntmps53
  go_wp2_with (go_at_call 54; refine (hcon _).mono ?_; rintro e w' ⟨rfl, rfl⟩)
  go_ret
  exact ⟨rfl, 0, _, by rw [alloc_eq_grow, alloc_eq_grow, grow_grow]; rfl⟩
theorem cmpLays53 (blk off size : Nat) (w : World) : CmpLays Try.prog 53 #[] encV 3 (fun x y : T3 => Lib.compareInt x.1 y.1) blk off size w :=
  fun _ _ _ _ x y => closure53 x y _
theorem sortCall (blk off cap : Nat) (d : Array T3) (w : World) (hH : HoldsK encV 3 w blk off d) (hb : blk < w.heap.size) (hs : d.size < 4611686018427387904) : Calls Try.prog 52 #[.slice (some ⟨blk, off, none⟩) d.size cap, .func (.func 53) #[] #[]] w fun e w' =>
    e = .returned (.tuple #[]) ∧ ∃ d' n os, PermIn 0 d.size d d' ∧ SortedIn (ltOf fun x y : T3 => Lib.compareInt x.1 y.1) 0 d.size d' ∧ w' = sortWorldK encV 3 w blk off n d' os := by
  have eg : ∀ args w, (callFunc 53 args).run Try.prog w = .ok (.enter 53 args) w := enters_of Try.func53 (by kernel_rfl) rfl
  have hcon := AnyQ.slices_SortFunc Try.sortSpan 3 Try.isAgg64 Try.sizeOf64 encV (fun _ => rfl) (fun x v hv => by simp [encV] at hv; rcases hv with rfl | rfl | rfl <;> rfl) (fun x y : T3 => Lib.compareInt x.1 y.1) swo3 53 #[] blk off cap d w eg (cmpLays53 blk off d.size w) hH hb hs
  exact hcon
theorem sortNil : evCall Try.prog ⟨fun _ _ => [], fun _ => [], fun _ => false⟩ noPrim 12 52 [.c (.v (.sl 3 [] none)), .c (.v (.fn 53 []))] [] = some (.tup [], []) := by kernel_rfl
theorem sortPrim [Glo] : CallOk Try.prog (fun h args hp => if h = 52 then sortP 3 53 args hp else none) := sortP_ok (by kernel_rfl) sortNil sortCall
end Go.R3M
