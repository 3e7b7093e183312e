import Derived.Test.YtganajogkdinaaaGreatRows
import Derived.Test.YtganajogkdinaaaGreatGNumK
import Derived.Test.YtganajogkdinaaaGreatEvIn
import Derived.WalkKit
import Derived.ProofKit
import Derived.OpenShut
import Derived.ShutString
import Derived.ChangeOld
import Derived.Below
import Derived.SizedLaws
set_option linter.all false
namespace Go.Proofs.YtganajogkdinaaaGreat.moduleNumbers
open Go.ChangeShapes Go.WideShapes Go.ChangeAt Go.RowKit Go.Ev Go.R4
set_option linter.unusedVariables false
theorem own : ownKnob Tryz.prog.godebug = none := by kernel_rfl
theorem laidOut : laidOutB Tryz.prog = true := by kernel_rfl
theorem mixed : Tryz.prog.follows .mixedOrders = true := by kernel_rfl
set_option maxRecDepth 100000 in
theorem lifted (os : Os) (started : os.Started) (H : Type) (enc : TypeId × Value → H) :
  ReturnsInHanded {} Tryz.checked os 5 .any (Rows.moduleNumbersSpec.pre6 enc Tryz.prog Tryz.f5 Rows.moduleNumbersRow.domain false) (Rows.moduleNumbersSpec.post enc Tryz.prog Tryz.f5 false true false false) := by
 refine returnsInHanded_of_change_sized (C := Tryz.checked) own started (by kernel_rfl) Tryz.func5
  (ChangeSpec.witness6 (enc := enc) (C := Tryz.checked) false ⟨#[], #[], []⟩ 8 (by kernel_rfl) (by kernel_rfl) (by kernel_rfl) (by kernel_rfl)) ?_
 intro W base args ds gs before hval0 hW hcnd hsz0 _
 have hsz : (DataW.weightsEach Tryz.prog (Tryz.f5.params.toList ++ Rows.moduleNumbersSpec.plain.varTypes Tryz.prog) (ds ++ gs)).all (· ≤ reachBytes) = true := hsz0
 have hval : ∀ (j : Nat) t v, Tryz.f5.params[j]? = some t → args[j]? = some v → Value.okWide Tryz.prog W .any base t v := hval0
 have hW' := hW
 obtain ⟨p, q, hA0, hV, rfl, hfz, hnd⟩ := hW
 have hA : DataW.TrodAll enc Tryz.prog W 0 (fun _ => true) true Tryz.f5.params.toList args.toList ds p := hA0
 rw [Tryz.params5] at hA hval hsz
 obtain ⟨rfl, rfl, rfl⟩ := trodAll_none hA
 obtain ⟨rfl, rfl⟩ := trodVars_none hV
 clear hA0 hval0 hsz0 hsz
 obtain ⟨fuel, hfuel⟩ := Go.R4.ModuleNumbers
 have run : evCall Tryz.prog Go.R4.cfg Go.R4.prims fuel 5 [] [] = some (.c (.v (.bool true)), []) := Go.R4.law6_ModuleNumbers.ok fuel true hfuel
 have ars : ARs (snap W) noRho [] [] [] := by
  simp [ARs]
 refine (link mixed Go.R4.primsOk run ars).mono fun e W' ⟨he, bel⟩ => ?_
 subst he
 exact ⟨_, rfl, _, _, _, [], _, [], hW', trodAll_mk1 (shut_bool Tryz.underlying4 _), trodAll_mk0, rfl, bel.frame _, fun h => by cases h⟩
theorem andT {a b : Bool} (h : a = true) (k : b = true) : (a && b) = true := by rw [h, k]; rfl
theorem q0 : Rows.moduleNumbersRow.wf (OpenSpec.ofChange Rows.moduleNumbersSpec) = true := by kernel_rfl
theorem q1 : laidOutB Tryz.prog = true := laidOut
theorem q2 : mapsRowed Tryz.prog = true := by kernel_rfl
theorem q3 : Tryz.f5.params.all (Tryz.prog.readableRec ·) = true := by kernel_rfl
theorem q4 : namedTie Tryz.prog Rows.moduleNumbersRow.named Rows.moduleNumbersSpec.vars = true := by kernel_rfl
theorem q5 : (Rows.moduleNumbersRow.stops == []) = true := by kernel_rfl
theorem q6 : (Tryz.prog.stops == []) = true := by kernel_rfl
theorem q7 : (Rows.moduleNumbersRow.knobs == []) = true := by kernel_rfl
theorem q8 : (Tryz.prog.stopKnobs == []) = true := by kernel_rfl
theorem q9 : (Rows.moduleNumbersRow.inPlace == Tryz.prog.inPlace 5) = true := by kernel_rfl
theorem q10 : (Rows.moduleNumbersRow.unfollowed == Tryz.prog.unfollowed 5) = true := by kernel_rfl
theorem q11 : (Rows.moduleNumbersRow.recurses == Tryz.prog.recurses 5) = true := by kernel_rfl
theorem q12 : (Rows.moduleNumbersRow.named == Tryz.prog.varsNamed 5) = true := by kernel_rfl
theorem q13 : (Rows.moduleNumbersRow.maps == (Tryz.f5.params.toList ++ Rows.moduleNumbersSpec.plain.varTypes Tryz.prog).any (Tryz.prog.mapsRec ·)) = true := by kernel_rfl
theorem q14 : (Rows.moduleNumbersRow.ifaces == (Tryz.f5.params.toList ++ Rows.moduleNumbersSpec.plain.varTypes Tryz.prog).any (Tryz.prog.ifacesRec ·)) = true := by kernel_rfl
theorem q15 : (Rows.moduleNumbersRow.mapsOut == Tryz.prog.mapsAmong Tryz.f5.resultTypes.toList) = true := by kernel_rfl
theorem q16 : (Rows.moduleNumbersRow.loops == (Tryz.f5.params.toList ++ Rows.moduleNumbersSpec.plain.varTypes Tryz.prog).any (Tryz.prog.loopsFrom ·)) = true := by kernel_rfl
theorem q17 : (Rows.moduleNumbersRow.wideKeys == (Tryz.f5.params.toList ++ Rows.moduleNumbersSpec.plain.varTypes Tryz.prog ++ Tryz.f5.resultTypes.toList).any (Tryz.prog.wideKeysFrom ·)) = true := by kernel_rfl
theorem q18 : Rows.moduleNumbersSpec.vars.all (Tryz.prog.varReadable ·) = true := by kernel_rfl
theorem q19 : Tryz.f5.resultTypes.all (fun t => Tryz.prog.readableRec t && decide (t < Tryz.prog.types.size)) = true := by kernel_rfl
theorem q20 : (Rows.moduleNumbersRow.ifacesOut == Tryz.f5.resultTypes.toList.any (Tryz.prog.ifacesRec ·)) = true := by kernel_rfl
theorem q21 : (Rows.moduleNumbersRow.loopsOut == Tryz.f5.resultTypes.toList.any (Tryz.prog.loopsFrom ·)) = true := by kernel_rfl
theorem q22 : (Rows.moduleNumbersRow.plainKeys == Tryz.prog.plainKeys) = true := by kernel_rfl
theorem q23 : Rows.moduleNumbersRow.shortTexts.isNone = true := by kernel_rfl
theorem q24 : Tryz.prog.stopsHeard = true := by kernel_rfl
theorem q25 : Tryz.prog.mayEnter = true := by kernel_rfl
theorem q26 : (Rows.moduleNumbersRow.lifted == Tryz.prog.liftsFinal) = true := by kernel_rfl
theorem q27 : (Tryz.prog.make == some Rows.moduleNumbersRow.make) = true := by kernel_rfl
theorem q28 : (Rows.moduleNumbersRow.kinds == (if Rows.moduleNumbersRow.domain.isEmpty then [] else Tryz.f5.params.toList.map fun t => match Tryz.prog.underlying t with | some (.int k) => some k | _ => none)) = true := by kernel_rfl
theorem q29 : (Rows.moduleNumbersRow.pinned == Rows.moduleNumbersRow.pinnedBy) = true := by kernel_rfl
theorem q30 : (Rows.moduleNumbersRow.veiled == (Tryz.f5.params.toList ++ Rows.moduleNumbersSpec.plain.varTypes Tryz.prog ++ Tryz.f5.resultTypes.toList).any (Tryz.prog.veiledRec ·)) = true := by kernel_rfl
theorem q31 : Rows.moduleNumbersRow.veiledFits Tryz.prog Tryz.f5.params.toList (Tryz.f5.params.toList ++ Rows.moduleNumbersSpec.plain.varTypes Tryz.prog ++ Tryz.f5.resultTypes.toList) = true := by kernel_rfl
set_option maxRecDepth 100000 in
theorem facts : joinedFacts Tryz.prog 5 Tryz.f5 Rows.moduleNumbersSpec Rows.moduleNumbersRow = true := by
 unfold joinedFacts
 exact andT (andT (andT (andT (andT (andT (andT (andT (andT (andT (andT (andT (andT (andT (andT (andT (andT (andT (andT (andT (andT (andT (andT (andT (andT (andT (andT (andT (andT (andT (andT (q0) q1) q2) q3) q4) q5) q6) q7) q8) q9) q10) q11) q12) q13) q14) q15) q16) q17) q18) q19) q20) q21) q22) q23) q24) q25) q26) q27) q28) q29) q30) q31
theorem inst : Tryz.f5.isInstance Tryz.prog Rows.moduleNumbersRow.origin Rows.moduleNumbersRow.targs := of_decide_eq_true (by as_aux_lemma => kernel_rfl)
theorem wrap : Tryz.f5.isWrapper Tryz.prog Rows.moduleNumbersRow.wrapper Rows.moduleNumbersRow.mainSum := by unfold Func.isWrapper; first | (rw [if_pos (by as_aux_lemma => decide +kernel)]; kernel_rfl) | (rw [if_neg (by as_aux_lemma => decide +kernel)]; exact ⟨rfl, rfl⟩)
theorem fname : Tryz.prog.funcNamed Rows.moduleNumbersRow.func = some 5 := by kernel_rfl
theorem over : Rows.moduleNumbersRow.holds Tryz.pinned (OpenSpec.ofChange Rows.moduleNumbersSpec) :=
 OpenClaim.holds_of_wide 5 Tryz.f5 rfl rfl rfl rfl rfl rfl rfl ⟨rfl, rfl, rfl, rfl, rfl⟩ rfl rfl rfl rfl rfl fname Tryz.func5 facts inst wrap
  (fun os started H enc _ => lifted os started H enc)
theorem proved : Rows.ModuleNumbersSaid := over
#print axioms proved
end Go.Proofs.YtganajogkdinaaaGreat.moduleNumbers
namespace Go.Proofs.YtganajogkdinaaaGreat
theorem moduleNumbers_holds : Rows.ModuleNumbersSaid := moduleNumbers.proved
end Go.Proofs.YtganajogkdinaaaGreat
