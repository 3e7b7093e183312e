/- ModuleSigs returns true for every input, and its arguments read afterwards as they read before. No condition. -/
import Derived.Test.YtganajogkdinaaaGreatRows
import Derived.Test.YtganajogkdinaaaGreatGSigs
import Derived.Test.YtganajogkdinaaaGreatEvIn
import Derived.WalkKit
import Derived.ProofKit
import Derived.OpenShut
import Derived.ShutString
import Derived.ChangeOld
import Derived.Below
import Derived.SizedLaws
set_option linter.all false
namespace Go.Proofs.YtganajogkdinaaaGreat.moduleSigs
open Go.ChangeShapes Go.WideShapes Go.ChangeAt Go.RowKit Go.Ev Go.R4
set_option linter.unusedVariables false
theorem own : ownKnob Tryz.prog.godebug = none := by kernel_rfl
theorem laidOut : laidOutB Tryz.prog = true := by kernel_rfl
theorem mixed : Tryz.prog.follows .mixedOrders = true := by kernel_rfl
set_option maxRecDepth 100000 in
theorem lifted (os : Os) (started : os.Started) (H : Type) (enc : TypeId × Value → H) :
    ReturnsInHanded {} Tryz.checked os 4 .any (Rows.moduleSigsSpec.pre6 enc Tryz.prog Tryz.f4 Rows.moduleSigsRow.domain false) (Rows.moduleSigsSpec.post enc Tryz.prog Tryz.f4 false true false false) := by
  refine returnsInHanded_of_change_sized (C := Tryz.checked) own started (by kernel_rfl) Tryz.func4
    (ChangeSpec.witness6 (enc := enc) (C := Tryz.checked) false ⟨#[], #[.slice none 0 0], []⟩ 8 (by kernel_rfl) (by kernel_rfl) (by kernel_rfl) (by kernel_rfl)) ?_
  intro W base args ds gs before hval0 hW hcnd hsz0 _
  have hsz : (DataW.weightsEach Tryz.prog (Tryz.f4.params.toList ++ Rows.moduleSigsSpec.plain.varTypes Tryz.prog) (ds ++ gs)).all (· ≤ reachBytes) = true := hsz0
  have hval : ∀ (j : Nat) t v, Tryz.f4.params[j]? = some t → args[j]? = some v → Value.okWide Tryz.prog W .any base t v := hval0
  have hW' := hW
  obtain ⟨p, q, hA0, hV, rfl, hfz, hnd⟩ := hW
  have hA : DataW.TrodAll enc Tryz.prog W 0 (fun _ => true) true Tryz.f4.params.toList args.toList ds p := hA0
  rw [Tryz.params4] at hA hval hsz
  obtain ⟨v0, vs0, d0, ds0, p0, q0, hargs, rfl, rfl, h0, r0⟩ := trodAll_cons hA
  obtain ⟨rfl, rfl, rfl⟩ := trodAll_nil r0
  obtain rfl : args = #[v0] := by cases args; simp_all
  obtain ⟨rfl, rfl⟩ := trodVars_none hV
  obtain ⟨c0, f0, a0⟩ := arg_in (n := 20) (by kernel_rfl) (hval 0 22 v0 rfl rfl) h0 (weights_each (ts := [22] ++ Rows.moduleSigsSpec.plain.varTypes Tryz.prog) (i := 0) rfl rfl hsz)
  obtain ⟨x0, rfl, z0, w0⟩ := (Fits.slice (n := 19) (sz := 1) (by_ := 8) Tryz.underlying22 (by kernel_rfl) (by kernel_rfl) (fun _ h => Fits.int Tryz.underlying3 h)) f0
  clear hA0 hval0 hsz0 hsz
  obtain ⟨fuel, hfuel⟩ := Go.R4.ModuleSigs z0 w0
  have run : evCall Tryz.prog Go.R4.cfg Go.R4.prims fuel 4 [.c (.v (.sl 1 (List.map (eI .i64) x0) none))] [] = some (.c (.v (.bool true)), []) := Go.R4.law6_ModuleSigs.ok fuel x0 true hfuel
  have ars : ARs (snap W) noRho [] [.c (.v (.sl 1 (List.map (eI .i64) x0) none))] [v0] := by
    simp only [ARs]
    exact ⟨v0, _, rfl, a0, rfl⟩
  refine (link mixed Go.R4.primsOk run ars).mono fun e W' ⟨he, bel⟩ => ?_
  subst he
  exact ⟨_, rfl, _, _, _, [], _, [], hW', trodAll_mk1 (shut_bool Tryz.underlying4 _), (trodAll_cons_mk (back_in laidOut (by kernel_rfl) h0 bel) trodAll_mk0), rfl, bel.frame _, fun h => by cases h⟩
theorem andT {a b : Bool} (h : a = true) (k : b = true) : (a && b) = true := by rw [h, k]; rfl
theorem q0 : Rows.moduleSigsRow.wf (OpenSpec.ofChange Rows.moduleSigsSpec) = true := by kernel_rfl
theorem q1 : laidOutB Tryz.prog = true := laidOut
theorem q2 : mapsRowed Tryz.prog = true := by kernel_rfl
theorem q3 : Tryz.f4.params.all (Tryz.prog.readableRec ·) = true := by kernel_rfl
theorem q4 : namedTie Tryz.prog Rows.moduleSigsRow.named Rows.moduleSigsSpec.vars = true := by kernel_rfl
theorem q5 : (Rows.moduleSigsRow.stops == []) = true := by kernel_rfl
theorem q6 : (Tryz.prog.stops == []) = true := by kernel_rfl
theorem q7 : (Rows.moduleSigsRow.knobs == []) = true := by kernel_rfl
theorem q8 : (Tryz.prog.stopKnobs == []) = true := by kernel_rfl
theorem q9 : (Rows.moduleSigsRow.inPlace == Tryz.prog.inPlace 4) = true := by kernel_rfl
theorem q10 : (Rows.moduleSigsRow.unfollowed == Tryz.prog.unfollowed 4) = true := by kernel_rfl
theorem q11 : (Rows.moduleSigsRow.recurses == Tryz.prog.recurses 4) = true := by kernel_rfl
theorem q12 : (Rows.moduleSigsRow.named == Tryz.prog.varsNamed 4) = true := by kernel_rfl
theorem q13 : (Rows.moduleSigsRow.maps == (Tryz.f4.params.toList ++ Rows.moduleSigsSpec.plain.varTypes Tryz.prog).any (Tryz.prog.mapsRec ·)) = true := by kernel_rfl
theorem q14 : (Rows.moduleSigsRow.ifaces == (Tryz.f4.params.toList ++ Rows.moduleSigsSpec.plain.varTypes Tryz.prog).any (Tryz.prog.ifacesRec ·)) = true := by kernel_rfl
theorem q15 : (Rows.moduleSigsRow.mapsOut == Tryz.prog.mapsAmong Tryz.f4.resultTypes.toList) = true := by kernel_rfl
theorem q16 : (Rows.moduleSigsRow.loops == (Tryz.f4.params.toList ++ Rows.moduleSigsSpec.plain.varTypes Tryz.prog).any (Tryz.prog.loopsFrom ·)) = true := by kernel_rfl
theorem q17 : (Rows.moduleSigsRow.wideKeys == (Tryz.f4.params.toList ++ Rows.moduleSigsSpec.plain.varTypes Tryz.prog ++ Tryz.f4.resultTypes.toList).any (Tryz.prog.wideKeysFrom ·)) = true := by kernel_rfl
theorem q18 : Rows.moduleSigsSpec.vars.all (Tryz.prog.varReadable ·) = true := by kernel_rfl
theorem q19 : Tryz.f4.resultTypes.all (fun t => Tryz.prog.readableRec t && decide (t < Tryz.prog.types.size)) = true := by kernel_rfl
theorem q20 : (Rows.moduleSigsRow.ifacesOut == Tryz.f4.resultTypes.toList.any (Tryz.prog.ifacesRec ·)) = true := by kernel_rfl
theorem q21 : (Rows.moduleSigsRow.loopsOut == Tryz.f4.resultTypes.toList.any (Tryz.prog.loopsFrom ·)) = true := by kernel_rfl
theorem q22 : (Rows.moduleSigsRow.plainKeys == Tryz.prog.plainKeys) = true := by kernel_rfl
theorem q23 : Rows.moduleSigsRow.shortTexts.isNone = true := by kernel_rfl
theorem q24 : Tryz.prog.stopsHeard = true := by kernel_rfl
theorem q25 : Tryz.prog.mayEnter = true := by kernel_rfl
theorem q26 : (Rows.moduleSigsRow.lifted == Tryz.prog.liftsFinal) = true := by kernel_rfl
theorem q27 : (Tryz.prog.make == some Rows.moduleSigsRow.make) = true := by kernel_rfl
theorem q28 : (Rows.moduleSigsRow.kinds == (if Rows.moduleSigsRow.domain.isEmpty then [] else Tryz.f4.params.toList.map fun t => match Tryz.prog.underlying t with | some (.int k) => some k | _ => none)) = true := by kernel_rfl
theorem q29 : (Rows.moduleSigsRow.pinned == Rows.moduleSigsRow.pinnedBy) = true := by kernel_rfl
theorem q30 : (Rows.moduleSigsRow.veiled == (Tryz.f4.params.toList ++ Rows.moduleSigsSpec.plain.varTypes Tryz.prog ++ Tryz.f4.resultTypes.toList).any (Tryz.prog.veiledRec ·)) = true := by kernel_rfl
theorem q31 : Rows.moduleSigsRow.veiledFits Tryz.prog Tryz.f4.params.toList (Tryz.f4.params.toList ++ Rows.moduleSigsSpec.plain.varTypes Tryz.prog ++ Tryz.f4.resultTypes.toList) = true := by kernel_rfl
set_option maxRecDepth 100000 in
theorem facts : joinedFacts Tryz.prog 4 Tryz.f4 Rows.moduleSigsSpec Rows.moduleSigsRow = true := by
  unfold joinedFacts
  exact andT (andT (andT (andT (andT (andT (andT (andT (andT (andT (andT (andT (andT (andT (andT (andT (andT (andT (andT (andT (andT (andT (andT (andT (andT (andT (andT (andT (andT (andT (andT (q0) q1) q2) q3) q4) q5) q6) q7) q8) q9) q10) q11) q12) q13) q14) q15) q16) q17) q18) q19) q20) q21) q22) q23) q24) q25) q26) q27) q28) q29) q30) q31
theorem inst : Tryz.f4.isInstance Tryz.prog Rows.moduleSigsRow.origin Rows.moduleSigsRow.targs := of_decide_eq_true (by as_aux_lemma => kernel_rfl)
theorem wrap : Tryz.f4.isWrapper Tryz.prog Rows.moduleSigsRow.wrapper Rows.moduleSigsRow.mainSum := by unfold Func.isWrapper; first | (rw [if_pos (by as_aux_lemma => decide +kernel)]; kernel_rfl) | (rw [if_neg (by as_aux_lemma => decide +kernel)]; exact ⟨rfl, rfl⟩)
theorem fname : Tryz.prog.funcNamed Rows.moduleSigsRow.func = some 4 := by kernel_rfl
theorem over : Rows.moduleSigsRow.holds Tryz.pinned (OpenSpec.ofChange Rows.moduleSigsSpec) :=
  OpenClaim.holds_of_wide 4 Tryz.f4 rfl rfl rfl rfl rfl rfl rfl ⟨rfl, rfl, rfl, rfl, rfl⟩ rfl rfl rfl rfl rfl fname Tryz.func4 facts inst wrap
    (fun os started H enc _ => lifted os started H enc)
theorem proved : Rows.ModuleSigsSaid := over
#print axioms proved
end Go.Proofs.YtganajogkdinaaaGreat.moduleSigs
namespace Go.Proofs.YtganajogkdinaaaGreat
/-- The row, under a short name, for the claim. -/
theorem moduleSigs_holds : Rows.ModuleSigsSaid := moduleSigs.proved
end Go.Proofs.YtganajogkdinaaaGreat

