import Derived.Test.YtganajogkdinaaaGreatRows
import Derived.Test.YtganajogkdinaaaGreatGTell4
import Derived.Test.YtganajogkdinaaaGreatEvIn
import Derived.WalkKit
import Derived.ProofKit
import Derived.OpenShut
import Derived.ShutString
import Derived.ChangeOld
import Derived.Below
import Derived.SizedLaws
set_option linter.all false
namespace Go.Proofs.YtganajogkdinaaaGreat.moduleTells
open Go.ChangeShapes Go.WideShapes Go.ChangeAt Go.RowKit Go.Ev Go.R4
set_option linter.unusedVariables false
theorem own : ownKnob Tryz.prog.godebug = none := by kernel_rfl
theorem laidOut : laidOutB Tryz.prog = true := by kernel_rfl
theorem mixed : Tryz.prog.follows .mixedOrders = true := by kernel_rfl
set_option maxRecDepth 100000 in
theorem lifted (os : Os) (started : os.Started) (H : Type) (enc : TypeId × Value → H) :
  ReturnsInHanded {} Tryz.checked os 6 .any (Rows.moduleTellsSpec.pre6 enc Tryz.prog Tryz.f6 Rows.moduleTellsRow.domain false) (Rows.moduleTellsSpec.post enc Tryz.prog Tryz.f6 false true false false) := by
 refine returnsInHanded_of_change_sized (C := Tryz.checked) own started (by kernel_rfl) Tryz.func6
  (ChangeSpec.witness6 (enc := enc) (C := Tryz.checked) false ⟨#[], #[.slice none 0 0, .slice none 0 0, .agg #[.int .i64 0, .int .i64 0, .int .i64 0, .int .u64 0, .slice none 0 0], .int .i64 0, .int .i64 0, .agg #[.slice none 0 0, .slice none 0 0, .slice none 0 0, .slice none 0 0, .slice none 0 0, .slice none 0 0, .slice none 0 0, .slice none 0 0]], []⟩ 8 (by kernel_rfl) (by kernel_rfl) (by kernel_rfl) (by kernel_rfl)) ?_
 intro W base args ds gs before hval0 hW hcnd hsz0 _
 have hsz : (DataW.weightsEach Tryz.prog (Tryz.f6.params.toList ++ Rows.moduleTellsSpec.plain.varTypes Tryz.prog) (ds ++ gs)).all (· ≤ reachBytes) = true := hsz0
 have hval : ∀ (j : Nat) t v, Tryz.f6.params[j]? = some t → args[j]? = some v → Value.okWide Tryz.prog W .any base t v := hval0
 have hW' := hW
 obtain ⟨p, q, hA0, hV, rfl, hfz, hnd⟩ := hW
 have hA : DataW.TrodAll enc Tryz.prog W 0 (fun _ => true) true Tryz.f6.params.toList args.toList ds p := hA0
 rw [Tryz.params6] at hA hval hsz
 obtain ⟨v0, vs0, d0, ds0, p0, q0, hargs, rfl, rfl, h0, r0⟩ := trodAll_cons hA
 obtain ⟨v1, vs1, d1, ds1, p1, q1, rfl, rfl, rfl, h1, r1⟩ := trodAll_cons r0
 obtain ⟨v2, vs2, d2, ds2, p2, q2, rfl, rfl, rfl, h2, r2⟩ := trodAll_cons r1
 obtain ⟨v3, vs3, d3, ds3, p3, q3, rfl, rfl, rfl, h3, r3⟩ := trodAll_cons r2
 obtain ⟨v4, vs4, d4, ds4, p4, q4, rfl, rfl, rfl, h4, r4⟩ := trodAll_cons r3
 obtain ⟨v5, vs5, d5, ds5, p5, q5, rfl, rfl, rfl, h5, r5⟩ := trodAll_cons r4
 obtain ⟨rfl, rfl, rfl⟩ := trodAll_nil r5
 obtain rfl : args = #[v0, v1, v2, v3, v4, v5] := by cases args; simp_all
 obtain ⟨rfl, rfl⟩ := trodVars_none hV
 obtain ⟨c0, f0, a0⟩ := arg_in (n := 20) (by kernel_rfl) (hval 0 22 v0 rfl rfl) h0 (weights_each (ts := [22, 67, 43, 3, 3, 32] ++ Rows.moduleTellsSpec.plain.varTypes Tryz.prog) (i := 0) rfl rfl hsz)
 obtain ⟨x0, rfl, z0, w0⟩ := (Fits.slice (n := 19) (sz := 1) (by_ := 8) Tryz.underlying22 (by kernel_rfl) (by kernel_rfl) (fun _ h => Fits.int Tryz.underlying3 h)) f0
 obtain ⟨c1, f1, a1⟩ := arg_in (n := 20) (by kernel_rfl) (hval 1 67 v1 rfl rfl) h1 (weights_each (ts := [22, 67, 43, 3, 3, 32] ++ Rows.moduleTellsSpec.plain.varTypes Tryz.prog) (i := 1) rfl rfl hsz)
 obtain ⟨x1, rfl, z1, w1⟩ := (Fits.slice (n := 19) (sz := 9) (by_ := 88) Tryz.underlying67 (by kernel_rfl) (by kernel_rfl) (fun _ h => Turn.dec h)) f1
 obtain ⟨c2, f2, a2⟩ := arg_in (n := 20) (by kernel_rfl) (hval 2 43 v2 rfl rfl) h2 (weights_each (ts := [22, 67, 43, 3, 3, 32] ++ Rows.moduleTellsSpec.plain.varTypes Tryz.prog) (i := 2) rfl rfl hsz)
 obtain ⟨x2, rfl, w2⟩ := AInst.dec f2
 obtain ⟨c3, f3, a3⟩ := arg_in (n := 20) (by kernel_rfl) (hval 3 3 v3 rfl rfl) h3 (weights_each (ts := [22, 67, 43, 3, 3, 32] ++ Rows.moduleTellsSpec.plain.varTypes Tryz.prog) (i := 3) rfl rfl hsz)
 obtain ⟨x3, rfl, w3⟩ := Fits.int Tryz.underlying3 f3
 obtain ⟨c4, f4, a4⟩ := arg_in (n := 20) (by kernel_rfl) (hval 4 3 v4 rfl rfl) h4 (weights_each (ts := [22, 67, 43, 3, 3, 32] ++ Rows.moduleTellsSpec.plain.varTypes Tryz.prog) (i := 4) rfl rfl hsz)
 obtain ⟨x4, rfl, w4⟩ := Fits.int Tryz.underlying3 f4
 obtain ⟨c5, f5, a5⟩ := arg_in (n := 20) (by kernel_rfl) (hval 5 32 v5 rfl rfl) h5 (weights_each (ts := [22, 67, 43, 3, 3, 32] ++ Rows.moduleTellsSpec.plain.varTypes Tryz.prog) (i := 5) rfl rfl hsz)
 obtain ⟨x5, rfl, w5⟩ := AModule.dec f5
 clear hA0 hval0 hsz0 hsz
 obtain ⟨fuel, hfuel⟩ := Go.R4.ModuleTells z0 w0 z1 w1 w2 w3 w4 w5
 have run : evCall Tryz.prog Go.R4.cfg Go.R4.prims fuel 6 [.c (.v (.sl 1 (List.map (eI .i64) x0) none)), .c (.v (.sl 9 (List.map Turn.e x1) none)), .agp [.int .i64 x2.Op, .int .i64 x2.A, .int .i64 x2.B, .int .u64 x2.N, .sl 1 (List.map (eI .i64) x2.L) none], .c (.v (.int .i64 x3)), .c (.v (.int .i64 x4)), .agp [.sl 2 (List.map AType.e x5.Types) none, .sl 3 (List.map AImport.e x5.Imports) none, .sl 3 (List.map AFunc.e x5.Funcs) none, .sl 2 (List.map AMem.e x5.Mems) none, .sl 3 (List.map AGlobal.e x5.Globals) none, .sl 3 (List.map AExport.e x5.Exports) none, .sl 4 (List.map AData.e x5.Datas) none, .sl 2 (List.map ACustom.e x5.Customs) none]] [] = some (.c (.v (.bool true)), []) := Go.R4.law6_ModuleTells.ok fuel x0 x1 x2 x3 x4 x5 true hfuel
 have ars : ARs (snap W) noRho [] [.c (.v (.sl 1 (List.map (eI .i64) x0) none)), .c (.v (.sl 9 (List.map Turn.e x1) none)), .agp [.int .i64 x2.Op, .int .i64 x2.A, .int .i64 x2.B, .int .u64 x2.N, .sl 1 (List.map (eI .i64) x2.L) none], .c (.v (.int .i64 x3)), .c (.v (.int .i64 x4)), .agp [.sl 2 (List.map AType.e x5.Types) none, .sl 3 (List.map AImport.e x5.Imports) none, .sl 3 (List.map AFunc.e x5.Funcs) none, .sl 2 (List.map AMem.e x5.Mems) none, .sl 3 (List.map AGlobal.e x5.Globals) none, .sl 3 (List.map AExport.e x5.Exports) none, .sl 4 (List.map AData.e x5.Datas) none, .sl 2 (List.map ACustom.e x5.Customs) none]] [v0, v1, v2, v3, v4, v5] := by
  simp only [ARs]
  exact ⟨v0, _, rfl, a0, ⟨v1, _, rfl, a1, ⟨v2, _, rfl, a2, ⟨v3, _, rfl, a3, ⟨v4, _, rfl, a4, ⟨v5, _, rfl, a5, rfl⟩⟩⟩⟩⟩⟩
 refine (link mixed Go.R4.primsOk run ars).mono fun e W' ⟨he, bel⟩ => ?_
 subst he
 exact ⟨_, rfl, _, _, _, [], _, [], hW', trodAll_mk1 (shut_bool Tryz.underlying4 _), (trodAll_cons_mk (back_in laidOut (by kernel_rfl) h0 bel) (trodAll_cons_mk (back_in laidOut (by kernel_rfl) h1 bel) (trodAll_cons_mk (back_in laidOut (by kernel_rfl) h2 bel) (trodAll_cons_mk (back_in laidOut (by kernel_rfl) h3 bel) (trodAll_cons_mk (back_in laidOut (by kernel_rfl) h4 bel) (trodAll_cons_mk (back_in laidOut (by kernel_rfl) h5 bel) trodAll_mk0)))))), rfl, bel.frame _, fun h => by cases h⟩
theorem andT {a b : Bool} (h : a = true) (k : b = true) : (a && b) = true := by rw [h, k]; rfl
theorem q0 : Rows.moduleTellsRow.wf (OpenSpec.ofChange Rows.moduleTellsSpec) = true := by kernel_rfl
theorem q1 : laidOutB Tryz.prog = true := laidOut
theorem q2 : mapsRowed Tryz.prog = true := by kernel_rfl
theorem q3 : Tryz.f6.params.all (Tryz.prog.readableRec ·) = true := by kernel_rfl
theorem q4 : namedTie Tryz.prog Rows.moduleTellsRow.named Rows.moduleTellsSpec.vars = true := by kernel_rfl
theorem q5 : (Rows.moduleTellsRow.stops == []) = true := by kernel_rfl
theorem q6 : (Tryz.prog.stops == []) = true := by kernel_rfl
theorem q7 : (Rows.moduleTellsRow.knobs == []) = true := by kernel_rfl
theorem q8 : (Tryz.prog.stopKnobs == []) = true := by kernel_rfl
theorem q9 : (Rows.moduleTellsRow.inPlace == Tryz.prog.inPlace 6) = true := by kernel_rfl
theorem q10 : (Rows.moduleTellsRow.unfollowed == Tryz.prog.unfollowed 6) = true := by kernel_rfl
theorem q11 : (Rows.moduleTellsRow.recurses == Tryz.prog.recurses 6) = true := by kernel_rfl
theorem q12 : (Rows.moduleTellsRow.named == Tryz.prog.varsNamed 6) = true := by kernel_rfl
theorem q13 : (Rows.moduleTellsRow.maps == (Tryz.f6.params.toList ++ Rows.moduleTellsSpec.plain.varTypes Tryz.prog).any (Tryz.prog.mapsRec ·)) = true := by kernel_rfl
theorem q14 : (Rows.moduleTellsRow.ifaces == (Tryz.f6.params.toList ++ Rows.moduleTellsSpec.plain.varTypes Tryz.prog).any (Tryz.prog.ifacesRec ·)) = true := by kernel_rfl
theorem q15 : (Rows.moduleTellsRow.mapsOut == Tryz.prog.mapsAmong Tryz.f6.resultTypes.toList) = true := by kernel_rfl
theorem q16 : (Rows.moduleTellsRow.loops == (Tryz.f6.params.toList ++ Rows.moduleTellsSpec.plain.varTypes Tryz.prog).any (Tryz.prog.loopsFrom ·)) = true := by kernel_rfl
theorem q17 : (Rows.moduleTellsRow.wideKeys == (Tryz.f6.params.toList ++ Rows.moduleTellsSpec.plain.varTypes Tryz.prog ++ Tryz.f6.resultTypes.toList).any (Tryz.prog.wideKeysFrom ·)) = true := by kernel_rfl
theorem q18 : Rows.moduleTellsSpec.vars.all (Tryz.prog.varReadable ·) = true := by kernel_rfl
theorem q19 : Tryz.f6.resultTypes.all (fun t => Tryz.prog.readableRec t && decide (t < Tryz.prog.types.size)) = true := by kernel_rfl
theorem q20 : (Rows.moduleTellsRow.ifacesOut == Tryz.f6.resultTypes.toList.any (Tryz.prog.ifacesRec ·)) = true := by kernel_rfl
theorem q21 : (Rows.moduleTellsRow.loopsOut == Tryz.f6.resultTypes.toList.any (Tryz.prog.loopsFrom ·)) = true := by kernel_rfl
theorem q22 : (Rows.moduleTellsRow.plainKeys == Tryz.prog.plainKeys) = true := by kernel_rfl
theorem q23 : Rows.moduleTellsRow.shortTexts.isNone = true := by kernel_rfl
theorem q24 : Tryz.prog.stopsHeard = true := by kernel_rfl
theorem q25 : Tryz.prog.mayEnter = true := by kernel_rfl
theorem q26 : (Rows.moduleTellsRow.lifted == Tryz.prog.liftsFinal) = true := by kernel_rfl
theorem q27 : (Tryz.prog.make == some Rows.moduleTellsRow.make) = true := by kernel_rfl
theorem q28 : (Rows.moduleTellsRow.kinds == (if Rows.moduleTellsRow.domain.isEmpty then [] else Tryz.f6.params.toList.map fun t => match Tryz.prog.underlying t with | some (.int k) => some k | _ => none)) = true := by kernel_rfl
theorem q29 : (Rows.moduleTellsRow.pinned == Rows.moduleTellsRow.pinnedBy) = true := by kernel_rfl
theorem q30 : (Rows.moduleTellsRow.veiled == (Tryz.f6.params.toList ++ Rows.moduleTellsSpec.plain.varTypes Tryz.prog ++ Tryz.f6.resultTypes.toList).any (Tryz.prog.veiledRec ·)) = true := by kernel_rfl
theorem q31 : Rows.moduleTellsRow.veiledFits Tryz.prog Tryz.f6.params.toList (Tryz.f6.params.toList ++ Rows.moduleTellsSpec.plain.varTypes Tryz.prog ++ Tryz.f6.resultTypes.toList) = true := by kernel_rfl
set_option maxRecDepth 100000 in
theorem facts : joinedFacts Tryz.prog 6 Tryz.f6 Rows.moduleTellsSpec Rows.moduleTellsRow = true := by
 unfold joinedFacts
 exact andT (andT (andT (andT (andT (andT (andT (andT (andT (andT (andT (andT (andT (andT (andT (andT (andT (andT (andT (andT (andT (andT (andT (andT (andT (andT (andT (andT (andT (andT (andT (q0) q1) q2) q3) q4) q5) q6) q7) q8) q9) q10) q11) q12) q13) q14) q15) q16) q17) q18) q19) q20) q21) q22) q23) q24) q25) q26) q27) q28) q29) q30) q31
theorem inst : Tryz.f6.isInstance Tryz.prog Rows.moduleTellsRow.origin Rows.moduleTellsRow.targs := of_decide_eq_true (by as_aux_lemma => kernel_rfl)
theorem wrap : Tryz.f6.isWrapper Tryz.prog Rows.moduleTellsRow.wrapper Rows.moduleTellsRow.mainSum := by unfold Func.isWrapper; first | (rw [if_pos (by as_aux_lemma => decide +kernel)]; kernel_rfl) | (rw [if_neg (by as_aux_lemma => decide +kernel)]; exact ⟨rfl, rfl⟩)
theorem fname : Tryz.prog.funcNamed Rows.moduleTellsRow.func = some 6 := by kernel_rfl
theorem over : Rows.moduleTellsRow.holds Tryz.pinned (OpenSpec.ofChange Rows.moduleTellsSpec) :=
 OpenClaim.holds_of_wide 6 Tryz.f6 rfl rfl rfl rfl rfl rfl rfl ⟨rfl, rfl, rfl, rfl, rfl⟩ rfl rfl rfl rfl rfl fname Tryz.func6 facts inst wrap
  (fun os started H enc _ => lifted os started H enc)
theorem proved : Rows.ModuleTellsSaid := over
#print axioms proved
end Go.Proofs.YtganajogkdinaaaGreat.moduleTells
namespace Go.Proofs.YtganajogkdinaaaGreat
theorem moduleTells_holds : Rows.ModuleTellsSaid := moduleTells.proved
end Go.Proofs.YtganajogkdinaaaGreat
