/- OpsPairs returns true for every input, and its arguments read afterwards as they read before. No condition. -/
import Derived.Test.YtoajmaedpaalkaaRows
import Derived.Test.YtoajmaedpaalkaaGOps
import Derived.Test.YtoajmaedpaalkaaEvIn
import Derived.WalkKit
import Derived.ProofKit
import Derived.OpenShut
import Derived.ShutString
import Derived.ChangeOld
import Derived.Below
import Derived.SizedLaws
set_option linter.all false
namespace Go.Proofs.Ytoajmaedpaalkaa.opsPairs
open Go.ChangeShapes Go.WideShapes Go.ChangeAt Go.RowKit Go.Ev Go.R2
set_option linter.unusedVariables false
theorem own : ownKnob Try.prog.godebug = none := by kernel_rfl
theorem laidOut : laidOutB Try.prog = true := by kernel_rfl
theorem mixed : Try.prog.follows .mixedOrders = true := by kernel_rfl
set_option maxRecDepth 100000 in
theorem lifted (os : Os) (started : os.Started) (H : Type) (enc : TypeId × Value → H) :
    ReturnsInHanded {} Try.checked os 6 .any (Rows.opsPairsSpec.pre6 enc Try.prog Try.f6 Rows.opsPairsRow.domain false) (Rows.opsPairsSpec.post enc Try.prog Try.f6 false true false false) := by
  refine returnsInHanded_of_change_sized (C := Try.checked) own started (by kernel_rfl) Try.func6
    (ChangeSpec.witness6 (enc := enc) (C := Try.checked) false ⟨#[], #[.int .i64 0], []⟩ 8 (by kernel_rfl) (by kernel_rfl) (by kernel_rfl) (by kernel_rfl)) ?_
  intro W base args ds gs before hval0 hW hcnd hsz0 _
  have hsz : (DataW.weightsEach Try.prog (Try.f6.params.toList ++ Rows.opsPairsSpec.plain.varTypes Try.prog) (ds ++ gs)).all (· ≤ reachBytes) = true := hsz0
  have hval : ∀ (j : Nat) t v, Try.f6.params[j]? = some t → args[j]? = some v → Value.okWide Try.prog W .any base t v := hval0
  have hW' := hW
  obtain ⟨p, q, hA0, hV, rfl, hfz, hnd⟩ := hW
  have hA : DataW.TrodAll enc Try.prog W 0 (fun _ => true) true Try.f6.params.toList args.toList ds p := hA0
  rw [Try.params6] at hA hval hsz
  obtain ⟨v0, vs0, d0, ds0, p0, q0, hargs, rfl, rfl, h0, r0⟩ := trodAll_cons hA
  obtain ⟨rfl, rfl, rfl⟩ := trodAll_nil r0
  obtain rfl : args = #[v0] := by cases args; simp_all
  obtain ⟨rfl, rfl⟩ := trodVars_none hV
  obtain ⟨c0, f0, a0⟩ := arg_in (n := 20) (by kernel_rfl) (hval 0 3 v0 rfl rfl) h0 (weights_each (ts := [3] ++ Rows.opsPairsSpec.plain.varTypes Try.prog) (i := 0) rfl rfl hsz)
  obtain ⟨x0, rfl, w0⟩ := Fits.int Try.underlying3 f0
  clear hA0 hval0 hsz0 hsz
  obtain ⟨fuel, hfuel⟩ := Go.R2.OpsPairs w0
  have run : evCall Try.prog Go.R2.cfg Go.R2.prims fuel 6 [.c (.v (.int .i64 x0))] [] = some (.c (.v (.bool true)), []) := Go.R2.law3_OpsPairs.ok fuel x0 true hfuel
  have ars : ARs (snap W) noRho [] [.c (.v (.int .i64 x0))] [v0] := by
    simp only [ARs]
    exact ⟨v0, _, rfl, a0, rfl⟩
  refine (link mixed Go.R2.primsOk run ars).mono fun e W' ⟨he, bel⟩ => ?_
  subst he
  exact ⟨_, rfl, _, _, _, [], _, [], hW', trodAll_mk1 (shut_bool Try.underlying4 _), (trodAll_cons_mk (back_in laidOut (by kernel_rfl) h0 bel) trodAll_mk0), rfl, bel.frame _, fun h => by cases h⟩
theorem over : Rows.opsPairsRow.holds Try.pinned (OpenSpec.ofChange Rows.opsPairsSpec) :=
  OpenClaim.holds_of_wide 6 Try.f6 rfl rfl rfl rfl rfl rfl rfl ⟨rfl, rfl, rfl, rfl, rfl⟩ rfl rfl rfl rfl rfl (by kernel_rfl) Try.func6 (by kernel_rfl)
    (of_decide_eq_true (by kernel_rfl)) (by unfold Func.isWrapper; first | (rw [if_pos (by decide +kernel)]; kernel_rfl) | (rw [if_neg (by decide +kernel)]; exact ⟨rfl, rfl⟩))
    (fun os started H enc _ => lifted os started H enc)
theorem proved : Rows.OpsPairsSaid := over
#print axioms proved
end Go.Proofs.Ytoajmaedpaalkaa.opsPairs
namespace Go.Proofs.Ytoajmaedpaalkaa
/-- The row, under a short name, for the claim. -/
theorem opsPairs_holds : Rows.OpsPairsSaid := opsPairs.proved
end Go.Proofs.Ytoajmaedpaalkaa

