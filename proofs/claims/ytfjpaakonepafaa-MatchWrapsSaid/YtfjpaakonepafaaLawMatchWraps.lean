/- MatchWraps returns true for every input, and its arguments read afterwards as they read before. No condition. -/
import Derived.Test.YtfjpaakonepafaaRows
import Derived.Test.YtfjpaakonepafaaGMatch
import Derived.Test.YtfjpaakonepafaaEvIn
import Derived.WalkKit
import Derived.ProofKit
import Derived.OpenShut
import Derived.ShutString
import Derived.ChangeOld
import Derived.Below
import Derived.SizedLaws
set_option linter.all false
namespace Go.Proofs.Ytfjpaakonepafaa.matchWraps
open Go.ChangeShapes Go.WideShapes Go.ChangeAt Go.RowKit Go.Ev Go.R3M
set_option linter.unusedVariables false
theorem own : ownKnob Try.prog.godebug = none := by kernel_rfl
theorem laidOut : laidOutB Try.prog = true := by kernel_rfl
theorem mixed : Try.prog.follows .mixedOrders = true := by kernel_rfl
set_option maxRecDepth 100000 in
theorem lifted (os : Os) (started : os.Started) (H : Type) (enc : TypeId × Value → H) :
    ReturnsInHanded {} Try.checked os 10 .any (Rows.matchWrapsSpec.pre6 enc Try.prog Try.f10 Rows.matchWrapsRow.domain false) (Rows.matchWrapsSpec.post enc Try.prog Try.f10 false true false false) := by
  refine returnsInHanded_of_change_sized (C := Try.checked) own started (by kernel_rfl) Try.func10
    (ChangeSpec.witness6 (enc := enc) (C := Try.checked) false ⟨#[], #[.slice none 0 0, .int .i64 0], []⟩ 8 (by kernel_rfl) (by kernel_rfl) (by kernel_rfl) (by kernel_rfl)) ?_
  intro W base args ds gs before hval0 hW hcnd hsz0 _
  have hsz : (DataW.weightsEach Try.prog (Try.f10.params.toList ++ Rows.matchWrapsSpec.plain.varTypes Try.prog) (ds ++ gs)).all (· ≤ reachBytes) = true := hsz0
  have hval : ∀ (j : Nat) t v, Try.f10.params[j]? = some t → args[j]? = some v → Value.okWide Try.prog W .any base t v := hval0
  have hW' := hW
  obtain ⟨p, q, hA0, hV, rfl, hfz, hnd⟩ := hW
  have hA : DataW.TrodAll enc Try.prog W 0 (fun _ => true) true Try.f10.params.toList args.toList ds p := hA0
  rw [Try.params10] at hA hval hsz
  obtain ⟨v0, vs0, d0, ds0, p0, q0, hargs, rfl, rfl, h0, r0⟩ := trodAll_cons hA
  obtain ⟨v1, vs1, d1, ds1, p1, q1, rfl, rfl, rfl, h1, r1⟩ := trodAll_cons r0
  obtain ⟨rfl, rfl, rfl⟩ := trodAll_nil r1
  obtain rfl : args = #[v0, v1] := by cases args; simp_all
  obtain ⟨rfl, rfl⟩ := trodVars_none hV
  obtain ⟨c0, f0, a0⟩ := arg_in (n := 20) (by kernel_rfl) (hval 0 22 v0 rfl rfl) h0 (weights_each (ts := [22, 3] ++ Rows.matchWrapsSpec.plain.varTypes Try.prog) (i := 0) rfl rfl hsz)
  obtain ⟨x0, rfl, z0, w0⟩ := (Fits.slice (n := 19) (sz := 1) (by_ := 8) Try.underlying22 (by kernel_rfl) (by kernel_rfl) (fun _ h => Fits.int Try.underlying3 h)) f0
  obtain ⟨c1, f1, a1⟩ := arg_in (n := 20) (by kernel_rfl) (hval 1 3 v1 rfl rfl) h1 (weights_each (ts := [22, 3] ++ Rows.matchWrapsSpec.plain.varTypes Try.prog) (i := 1) rfl rfl hsz)
  obtain ⟨x1, rfl, w1⟩ := Fits.int Try.underlying3 f1
  clear hA0 hval0 hsz0 hsz
  obtain ⟨fuel, hfuel⟩ := Go.R3M.MatchWraps z0 w0 w1
  have run : evCall Try.prog Go.R3M.cfg Go.R3M.prims fuel 10 [.c (.v (.sl 1 (List.map (eI .i64) x0) none)), .c (.v (.int .i64 x1))] [] = some (.c (.v (.bool true)), []) := Go.R3M.law7_MatchWraps.ok fuel x0 x1 true hfuel
  have ars : ARs (snap W) noRho [] [.c (.v (.sl 1 (List.map (eI .i64) x0) none)), .c (.v (.int .i64 x1))] [v0, v1] := by
    simp only [ARs]
    exact ⟨v0, _, rfl, a0, ⟨v1, _, rfl, a1, rfl⟩⟩
  refine (link mixed Go.R3M.primsOk run ars).mono fun e W' ⟨he, bel⟩ => ?_
  subst he
  exact ⟨_, rfl, _, _, _, [], _, [], hW', trodAll_mk1 (shut_bool Try.underlying4 _), (trodAll_cons_mk (back_in laidOut (by kernel_rfl) h0 bel) (trodAll_cons_mk (back_in laidOut (by kernel_rfl) h1 bel) trodAll_mk0)), rfl, bel.frame _, fun h => by cases h⟩
theorem over : Rows.matchWrapsRow.holds Try.pinned (OpenSpec.ofChange Rows.matchWrapsSpec) :=
  OpenClaim.holds_of_wide 10 Try.f10 rfl rfl rfl rfl rfl rfl rfl ⟨rfl, rfl, rfl, rfl, rfl⟩ rfl rfl rfl rfl rfl (by kernel_rfl) Try.func10 (by kernel_rfl)
    (of_decide_eq_true (by kernel_rfl)) (by unfold Func.isWrapper; first | (rw [if_pos (by decide +kernel)]; kernel_rfl) | (rw [if_neg (by decide +kernel)]; exact ⟨rfl, rfl⟩))
    (fun os started H enc _ => lifted os started H enc)
theorem proved : Rows.MatchWrapsSaid := over
#print axioms proved
end Go.Proofs.Ytfjpaakonepafaa.matchWraps
namespace Go.Proofs.Ytfjpaakonepafaa
/-- The row, under a short name, for the claim. -/
theorem matchWraps_holds : Rows.MatchWrapsSaid := matchWraps.proved
end Go.Proofs.Ytfjpaakonepafaa

