import Derived.Test.YtganajogkdinaaaGreatRows
import Derived.Test.YtganajogkdinaaaGreatGWnb
import Derived.Test.YtganajogkdinaaaGreatEvIn
import Derived.WalkKit
import Derived.ProofKit
import Derived.OpenShut
import Derived.ShutString
import Derived.ChangeOld
import Derived.Below
import Derived.SizedLaws
set_option linter.all false
namespace Go.Proofs.YtganajogkdinaaaGreat.writeNumbers
open Go.ChangeShapes Go.WideShapes Go.ChangeAt Go.RowKit Go.Ev Go.R4
set_option linter.unusedVariables false
theorem own:ownKnob Tryz.prog.godebug=none:=by kernel_rfl
theorem laidOut:laidOutB Tryz.prog=true:=by kernel_rfl
theorem mixed:Tryz.prog.follows .mixedOrders=true:=by kernel_rfl
set_option maxRecDepth 100000 in
theorem lifted(os:Os)(started:os.Started)(H:Type)(enc:TypeId×Value->H) :
  ReturnsInHanded {} Tryz.checked os 10 .any (Rows.writeNumbersSpec.pre6 enc Tryz.prog Tryz.f10 Rows.writeNumbersRow.domain false) (Rows.writeNumbersSpec.post enc Tryz.prog Tryz.f10 false true false false):=by
 refine returnsInHanded_of_change_sized (C:=Tryz.checked) own started (by kernel_rfl) Tryz.func10
  (ChangeSpec.witness6 (enc:=enc) (C:=Tryz.checked) false ⟨#[],#[],[]⟩ 8 (by kernel_rfl) (by kernel_rfl) (by kernel_rfl) (by kernel_rfl)) ?_
 intro W base args ds gs before hval0 hW hcnd hsz0 _
 have hsz:(DataW.weightsEach Tryz.prog (Tryz.f10.params.toList++Rows.writeNumbersSpec.plain.varTypes Tryz.prog) (ds++gs)).all (· ≤ reachBytes)=true:=hsz0
 have hval:∀ (j:Nat) t v,Tryz.f10.params[j]?=some t->args[j]?=some v->Value.okWide Tryz.prog W .any base t v:=hval0
 have hW':=hW
 obtain⟨p,q,hA0,hV,rfl,hfz,hnd⟩:=hW
 have hA:DataW.TrodAll enc Tryz.prog W 0 (λ_=>true) true Tryz.f10.params.toList args.toList ds p:=hA0
 rw[Tryz.params10]at hA hval hsz
 obtain⟨rfl,rfl,rfl⟩:=trodAll_none hA
 obtain⟨rfl,rfl⟩:=trodVars_none hV
 clear hA0 hval0 hsz0 hsz
 obtain⟨fuel,hfuel⟩:=Go.R4.WriteNumbers
 have run:evCall Tryz.prog Go.R4.cfg Go.R4.prims fuel 10 [] []=some (.c (.v (.bool true)),[]):=Go.R4.law8_WriteNumbers.ok fuel true hfuel
 have ars:ARs (snap W) noRho [] [] []:=by
  simp[ARs]
 refine(link mixed Go.R4.primsOk run ars).mono λe W' ⟨he,bel⟩=>?_
 subst he
 exact⟨_,rfl,_,_,_,[],_,[],hW',trodAll_mk1 (shut_bool Tryz.underlying4 _),trodAll_mk0,rfl,bel.frame _,λh=>by cases h⟩
theorem andT{a b:Bool}(h:a=true)(k:b=true):(a&&b)=true:=by rw[h,k];rfl
theorem q0:Rows.writeNumbersRow.wf (OpenSpec.ofChange Rows.writeNumbersSpec)=true:=by kernel_rfl
theorem q1:laidOutB Tryz.prog=true:=laidOut
theorem q2:mapsRowed Tryz.prog=true:=by kernel_rfl
theorem q3:Tryz.f10.params.all (Tryz.prog.readableRec ·)=true:=by kernel_rfl
theorem q4:namedTie Tryz.prog Rows.writeNumbersRow.named Rows.writeNumbersSpec.vars=true:=by kernel_rfl
theorem q5:(Rows.writeNumbersRow.stops == [])=true:=by kernel_rfl
theorem q6:(Tryz.prog.stops == [])=true:=by kernel_rfl
theorem q7:(Rows.writeNumbersRow.knobs == [])=true:=by kernel_rfl
theorem q8:(Tryz.prog.stopKnobs == [])=true:=by kernel_rfl
theorem q9:(Rows.writeNumbersRow.inPlace == Tryz.prog.inPlace 10)=true:=by kernel_rfl
theorem q10:(Rows.writeNumbersRow.unfollowed == Tryz.prog.unfollowed 10)=true:=by kernel_rfl
theorem q11:(Rows.writeNumbersRow.recurses == Tryz.prog.recurses 10)=true:=by kernel_rfl
theorem q12:(Rows.writeNumbersRow.named == Tryz.prog.varsNamed 10)=true:=by kernel_rfl
theorem q13:(Rows.writeNumbersRow.maps == (Tryz.f10.params.toList++Rows.writeNumbersSpec.plain.varTypes Tryz.prog).any (Tryz.prog.mapsRec ·))=true:=by kernel_rfl
theorem q14:(Rows.writeNumbersRow.ifaces == (Tryz.f10.params.toList++Rows.writeNumbersSpec.plain.varTypes Tryz.prog).any (Tryz.prog.ifacesRec ·))=true:=by kernel_rfl
theorem q15:(Rows.writeNumbersRow.mapsOut == Tryz.prog.mapsAmong Tryz.f10.resultTypes.toList)=true:=by kernel_rfl
theorem q16:(Rows.writeNumbersRow.loops == (Tryz.f10.params.toList++Rows.writeNumbersSpec.plain.varTypes Tryz.prog).any (Tryz.prog.loopsFrom ·))=true:=by kernel_rfl
theorem q17:(Rows.writeNumbersRow.wideKeys == (Tryz.f10.params.toList++Rows.writeNumbersSpec.plain.varTypes Tryz.prog++Tryz.f10.resultTypes.toList).any (Tryz.prog.wideKeysFrom ·))=true:=by kernel_rfl
theorem q18:Rows.writeNumbersSpec.vars.all (Tryz.prog.varReadable ·)=true:=by kernel_rfl
theorem q19:Tryz.f10.resultTypes.all (λt=>Tryz.prog.readableRec t&&decide (t<Tryz.prog.types.size))=true:=by kernel_rfl
theorem q20:(Rows.writeNumbersRow.ifacesOut == Tryz.f10.resultTypes.toList.any (Tryz.prog.ifacesRec ·))=true:=by kernel_rfl
theorem q21:(Rows.writeNumbersRow.loopsOut == Tryz.f10.resultTypes.toList.any (Tryz.prog.loopsFrom ·))=true:=by kernel_rfl
theorem q22:(Rows.writeNumbersRow.plainKeys == Tryz.prog.plainKeys)=true:=by kernel_rfl
theorem q23:Rows.writeNumbersRow.shortTexts.isNone=true:=by kernel_rfl
theorem q24:Tryz.prog.stopsHeard=true:=by kernel_rfl
theorem q25:Tryz.prog.mayEnter=true:=by kernel_rfl
theorem q26:(Rows.writeNumbersRow.lifted == Tryz.prog.liftsFinal)=true:=by kernel_rfl
theorem q27:(Tryz.prog.make == some Rows.writeNumbersRow.make)=true:=by kernel_rfl
theorem q28:(Rows.writeNumbersRow.kinds == (if Rows.writeNumbersRow.domain.isEmpty then[]else Tryz.f10.params.toList.map λt=>match Tryz.prog.underlying t with | some (.int k)=>some k |_=>none))=true:=by kernel_rfl
theorem q29:(Rows.writeNumbersRow.pinned == Rows.writeNumbersRow.pinnedBy)=true:=by kernel_rfl
theorem q30:(Rows.writeNumbersRow.veiled == (Tryz.f10.params.toList++Rows.writeNumbersSpec.plain.varTypes Tryz.prog++Tryz.f10.resultTypes.toList).any (Tryz.prog.veiledRec ·))=true:=by kernel_rfl
theorem q31:Rows.writeNumbersRow.veiledFits Tryz.prog Tryz.f10.params.toList (Tryz.f10.params.toList++Rows.writeNumbersSpec.plain.varTypes Tryz.prog++Tryz.f10.resultTypes.toList)=true:=by kernel_rfl
set_option maxRecDepth 100000 in
theorem facts:joinedFacts Tryz.prog 10 Tryz.f10 Rows.writeNumbersSpec Rows.writeNumbersRow=true:=by
 unfold joinedFacts
 exact andT (andT (andT (andT (andT (andT (andT (andT (andT (andT (andT (andT (andT (andT (andT (andT (andT (andT (andT (andT (andT (andT (andT (andT (andT (andT (andT (andT (andT (andT (andT (q0) q1) q2) q3) q4) q5) q6) q7) q8) q9) q10) q11) q12) q13) q14) q15) q16) q17) q18) q19) q20) q21) q22) q23) q24) q25) q26) q27) q28) q29) q30) q31
theorem inst:Tryz.f10.isInstance Tryz.prog Rows.writeNumbersRow.origin Rows.writeNumbersRow.targs:=of_decide_eq_true (by as_aux_lemma=>kernel_rfl)
theorem wrap:Tryz.f10.isWrapper Tryz.prog Rows.writeNumbersRow.wrapper Rows.writeNumbersRow.mainSum:=by unfold Func.isWrapper;first | (rw[if_pos (by as_aux_lemma=>decide +kernel)];kernel_rfl) | (rw[if_neg (by as_aux_lemma=>decide +kernel)];exact⟨rfl,rfl⟩)
theorem fname:Tryz.prog.funcNamed Rows.writeNumbersRow.func=some 10:=by kernel_rfl
theorem over:Rows.writeNumbersRow.holds Tryz.pinned (OpenSpec.ofChange Rows.writeNumbersSpec):=
 OpenClaim.holds_of_wide 10 Tryz.f10 rfl rfl rfl rfl rfl rfl rfl ⟨rfl,rfl,rfl,rfl,rfl⟩ rfl rfl rfl rfl rfl fname Tryz.func10 facts inst wrap
  (λos started H enc _=>lifted os started H enc)
theorem proved:Rows.WriteNumbersSaid:=over
#print axioms proved
end Go.Proofs.YtganajogkdinaaaGreat.writeNumbers
namespace Go.Proofs.YtganajogkdinaaaGreat
theorem writeNumbers_holds:Rows.WriteNumbersSaid:=writeNumbers.proved
end Go.Proofs.YtganajogkdinaaaGreat
