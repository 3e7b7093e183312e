import Derived.Test.YtfjpaakonepafaaRows
import Derived.Test.YtfjpaakonepafaaGTellD
import Derived.Test.YtfjpaakonepafaaGDd
import Derived.Test.YtfjpaakonepafaaEvIn
import Derived.WalkKit
import Derived.ProofKit
import Derived.OpenShut
import Derived.ShutString
import Derived.ChangeOld
import Derived.Below
import Derived.SizedLaws
set_option linter.all false
namespace Go.Proofs.Ytfjpaakonepafaa.draftTells
open Go.ChangeShapes Go.WideShapes Go.ChangeAt Go.RowKit Go.Ev Go.R3K
set_option linter.unusedVariables false
theorem own : ownKnob Try.prog.godebug = none := by kernel_rfl
theorem laidOut : laidOutB Try.prog = true := by kernel_rfl
theorem mixed : Try.prog.follows .mixedOrders = true := by kernel_rfl
set_option maxRecDepth 100000 in
theorem lifted (os : Os) (started : os.Started) (H : Type) (enc : TypeId × Value → H) :
  ReturnsInHanded {} Try.checked os 6 .any (Rows.draftTellsSpec.pre6 enc Try.prog Try.f6 Rows.draftTellsRow.domain false) (Rows.draftTellsSpec.post enc Try.prog Try.f6 false true false false) := by
 refine returnsInHanded_of_change_sized (C := Try.checked) own started (by kernel_rfl) Try.func6
  (ChangeSpec.witness6 (enc := enc) (C := Try.checked) false ⟨#[], #[.slice none 0 0, .slice none 0 0, .int .i64 0, .int .i64 0, .agg #[.int .i64 0, .slice none 0 0, .slice none 0 0], .slice none 0 0], []⟩ 8 (by kernel_rfl) (by kernel_rfl) (by kernel_rfl) (by kernel_rfl)) ?_
 intro W base args ds gs before hval0 hW hcnd hsz0 _
 have hsz : (DataW.weightsEach Try.prog (Try.f6.params.toList ++ Rows.draftTellsSpec.plain.varTypes Try.prog) (ds ++ gs)).all (· ≤ reachBytes) = true := hsz0
 have hval : ∀ (j : Nat) t v, Try.f6.params[j]? = some t → args[j]? = some v → Value.okWide Try.prog W .any base t v := hval0
 have hW' := hW
 obtain ⟨p, q, hA0, hV, rfl, hfz, hnd⟩ := hW
 have hA : DataW.TrodAll enc Try.prog W 0 (fun _ => true) true Try.f6.params.toList args.toList ds p := hA0
 rw [Try.params6] at hA hval hsz
 obtain ⟨v0, vs0, d0, ds0, p0, q0, hargs, rfl, rfl, h0, r0⟩ := trodAll_cons hA
 obtain ⟨v1, vs1, d1, ds1, p1, q1, rfl, rfl, rfl, h1, r1⟩ := trodAll_cons r0
 obtain ⟨v2, vs2, d2, ds2, p2, q2, rfl, rfl, rfl, h2, r2⟩ := trodAll_cons r1
 obtain ⟨v3, vs3, d3, ds3, p3, q3, rfl, rfl, rfl, h3, r3⟩ := trodAll_cons r2
 obtain ⟨v4, vs4, d4, ds4, p4, q4, rfl, rfl, rfl, h4, r4⟩ := trodAll_cons r3
 obtain ⟨v5, vs5, d5, ds5, p5, q5, rfl, rfl, rfl, h5, r5⟩ := trodAll_cons r4
 obtain ⟨rfl, rfl, rfl⟩ := trodAll_nil r5
 obtain rfl : args = #[v0, v1, v2, v3, v4, v5] := by cases args; simp_all
 obtain ⟨rfl, rfl⟩ := trodVars_none hV
 obtain ⟨c0, f0, a0⟩ := arg_in (n := 20) (by kernel_rfl) (hval 0 22 v0 rfl rfl) h0 (weights_each (ts := [22, 50, 3, 3, 37, 22] ++ Rows.draftTellsSpec.plain.varTypes Try.prog) (i := 0) rfl rfl hsz)
 obtain ⟨x0, rfl, z0, w0⟩ := (Fits.slice (n := 19) (sz := 1) (by_ := 8) Try.underlying22 (by kernel_rfl) (by kernel_rfl) (fun _ h => Fits.int Try.underlying3 h)) f0
 obtain ⟨c1, f1, a1⟩ := arg_in (n := 20) (by kernel_rfl) (hval 1 50 v1 rfl rfl) h1 (weights_each (ts := [22, 50, 3, 3, 37, 22] ++ Rows.draftTellsSpec.plain.varTypes Try.prog) (i := 1) rfl rfl hsz)
 obtain ⟨x1, rfl, z1, w1⟩ := (Fits.slice (n := 19) (sz := 9) (by_ := 88) Try.underlying50 (by kernel_rfl) (by kernel_rfl) (fun _ h => Turn.dec h)) f1
 obtain ⟨c2, f2, a2⟩ := arg_in (n := 20) (by kernel_rfl) (hval 2 3 v2 rfl rfl) h2 (weights_each (ts := [22, 50, 3, 3, 37, 22] ++ Rows.draftTellsSpec.plain.varTypes Try.prog) (i := 2) rfl rfl hsz)
 obtain ⟨x2, rfl, w2⟩ := Fits.int Try.underlying3 f2
 obtain ⟨c3, f3, a3⟩ := arg_in (n := 20) (by kernel_rfl) (hval 3 3 v3 rfl rfl) h3 (weights_each (ts := [22, 50, 3, 3, 37, 22] ++ Rows.draftTellsSpec.plain.varTypes Try.prog) (i := 3) rfl rfl hsz)
 obtain ⟨x3, rfl, w3⟩ := Fits.int Try.underlying3 f3
 obtain ⟨c4, f4, a4⟩ := arg_in (n := 20) (by kernel_rfl) (hval 4 37 v4 rfl rfl) h4 (weights_each (ts := [22, 50, 3, 3, 37, 22] ++ Rows.draftTellsSpec.plain.varTypes Try.prog) (i := 4) rfl rfl hsz)
 obtain ⟨x4, rfl, w4⟩ := AFunc.dec f4
 obtain ⟨c5, f5, a5⟩ := arg_in (n := 20) (by kernel_rfl) (hval 5 22 v5 rfl rfl) h5 (weights_each (ts := [22, 50, 3, 3, 37, 22] ++ Rows.draftTellsSpec.plain.varTypes Try.prog) (i := 5) rfl rfl hsz)
 obtain ⟨x5, rfl, z5, w5⟩ := (Fits.slice (n := 19) (sz := 1) (by_ := 8) Try.underlying22 (by kernel_rfl) (by kernel_rfl) (fun _ h => Fits.int Try.underlying3 h)) f5
 clear hA0 hval0 hsz0 hsz
 obtain ⟨fuel, hfuel⟩ := Go.R3K.DraftTells z0 w0 z1 w1 w2 w3 w4 z5 w5
 have run : evCall Try.prog Go.R3K.cfg Go.R3K.prims fuel 6 [.c (.v (.sl 1 (List.map (eI .i64) x0) none)), .c (.v (.sl 9 (List.map Turn.e x1) none)), .c (.v (.int .i64 x2)), .c (.v (.int .i64 x3)), .agp [.int .i64 x4.fType, .sl 1 (List.map (eI .i64) x4.Locals) none, .sl 5 (List.map AInst.e x4.Code) none], .c (.v (.sl 1 (List.map (eI .i64) x5) none))] [] = some (.c (.v (.bool true)), []) := Go.R3K.law16_DraftTells.ok fuel x0 x1 x2 x3 x4 x5 true hfuel
 have ars : ARs (snap W) noRho [] [.c (.v (.sl 1 (List.map (eI .i64) x0) none)), .c (.v (.sl 9 (List.map Turn.e x1) none)), .c (.v (.int .i64 x2)), .c (.v (.int .i64 x3)), .agp [.int .i64 x4.fType, .sl 1 (List.map (eI .i64) x4.Locals) none, .sl 5 (List.map AInst.e x4.Code) none], .c (.v (.sl 1 (List.map (eI .i64) x5) none))] [v0, v1, v2, v3, v4, v5] := by
  simp only [ARs]
  exact ⟨v0, _, rfl, a0, ⟨v1, _, rfl, a1, ⟨v2, _, rfl, a2, ⟨v3, _, rfl, a3, ⟨v4, _, rfl, a4, ⟨v5, _, rfl, a5, rfl⟩⟩⟩⟩⟩⟩
 refine (link mixed Go.R3K.primsOk run ars).mono fun e W' ⟨he, bel⟩ => ?_
 subst he
 exact ⟨_, rfl, _, _, _, [], _, [], hW', trodAll_mk1 (shut_bool Try.underlying4 _), (trodAll_cons_mk (back_in laidOut (by kernel_rfl) h0 bel) (trodAll_cons_mk (back_in laidOut (by kernel_rfl) h1 bel) (trodAll_cons_mk (back_in laidOut (by kernel_rfl) h2 bel) (trodAll_cons_mk (back_in laidOut (by kernel_rfl) h3 bel) (trodAll_cons_mk (back_in laidOut (by kernel_rfl) h4 bel) (trodAll_cons_mk (back_in laidOut (by kernel_rfl) h5 bel) trodAll_mk0)))))), rfl, bel.frame _, fun h => by cases h⟩
theorem over : Rows.draftTellsRow.holds Try.pinned (OpenSpec.ofChange Rows.draftTellsSpec) :=
 OpenClaim.holds_of_wide 6 Try.f6 rfl rfl rfl rfl rfl rfl rfl ⟨rfl, rfl, rfl, rfl, rfl⟩ rfl rfl rfl rfl rfl (by kernel_rfl) Try.func6 (by kernel_rfl)
  (of_decide_eq_true (by kernel_rfl)) (by unfold Func.isWrapper; first | (rw [if_pos (by decide +kernel)]; kernel_rfl) | (rw [if_neg (by decide +kernel)]; exact ⟨rfl, rfl⟩))
  (fun os started H enc _ => lifted os started H enc)
theorem proved : Rows.DraftTellsSaid := over
#print axioms proved
end Go.Proofs.Ytfjpaakonepafaa.draftTells
namespace Go.Proofs.Ytfjpaakonepafaa
theorem draftTells_holds : Rows.DraftTellsSaid := draftTells.proved
end Go.Proofs.Ytfjpaakonepafaa
