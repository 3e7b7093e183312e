import Derived.Test.YtganajogkdinaaaGreatRows
import Derived.Test.YtganajogkdinaaaGreatGWpt
import Derived.Test.YtganajogkdinaaaGreatEvIn
import Derived.WalkKit
import Derived.ProofKit
import Derived.OpenShut
import Derived.ShutString
import Derived.ChangeOld
import Derived.Below
import Derived.SizedLaws
set_option linter.all false
namespace Go.Proofs.YtganajogkdinaaaGreat.writeParts
open Go.ChangeShapes Go.WideShapes Go.ChangeAt Go.RowKit Go.Ev Go.R4
set_option linter.unusedVariables false
theorem own:ownKnob Tryz.prog.godebug=none:=by kernel_rfl
theorem laidOut:laidOutB Tryz.prog=true:=by kernel_rfl
theorem mixed:Tryz.prog.follows .mixedOrders=true:=by kernel_rfl
set_option maxRecDepth 100000 in
theorem lifted(os:Os)(started:os.Started)(H:Type)(enc:TypeId×Value->H) :
  ReturnsInHanded {} Tryz.checked os 12 .any (Rows.writePartsSpec.pre6 enc Tryz.prog Tryz.f12 Rows.writePartsRow.domain false) (Rows.writePartsSpec.post enc Tryz.prog Tryz.f12 false true false false):=by
 refine returnsInHanded_of_change_sized (C:=Tryz.checked) own started (by kernel_rfl) Tryz.func12
  (ChangeSpec.witness6 (enc:=enc) (C:=Tryz.checked) false ⟨#[],#[.slice none 0 0,.int .i64 0,.slice none 0 0],[]⟩ 8 (by kernel_rfl) (by kernel_rfl) (by kernel_rfl) (by kernel_rfl)) ?_
 intro W base args ds gs before hval0 hW hcnd hsz0 _
 have hsz:(DataW.weightsEach Tryz.prog (Tryz.f12.params.toList++Rows.writePartsSpec.plain.varTypes Tryz.prog) (ds++gs)).all (· ≤ reachBytes)=true:=hsz0
 have hval:∀ (j:Nat) t v,Tryz.f12.params[j]?=some t->args[j]?=some v->Value.okWide Tryz.prog W .any base t v:=hval0
 have hW':=hW
 obtain⟨p,q,hA0,hV,rfl,hfz,hnd⟩:=hW
 have hA:DataW.TrodAll enc Tryz.prog W 0 (λ_=>true) true Tryz.f12.params.toList args.toList ds p:=hA0
 rw[Tryz.params12]at hA hval hsz
 obtain⟨v0,vs0,d0,ds0,p0,q0,hargs,rfl,rfl,h0,r0⟩:=trodAll_cons hA
 obtain⟨v1,vs1,d1,ds1,p1,q1,rfl,rfl,rfl,h1,r1⟩:=trodAll_cons r0
 obtain⟨v2,vs2,d2,ds2,p2,q2,rfl,rfl,rfl,h2,r2⟩:=trodAll_cons r1
 obtain⟨rfl,rfl,rfl⟩:=trodAll_nil r2
 obtain rfl:args = #[v0,v1,v2]:=by cases args;simp_all
 obtain⟨rfl,rfl⟩:=trodVars_none hV
 obtain⟨c0,f0,a0⟩:=arg_in (n:=20) (by kernel_rfl) (hval 0 22 v0 rfl rfl) h0 (weights_each (ts:=[22,3,44]++Rows.writePartsSpec.plain.varTypes Tryz.prog) (i:=0) rfl rfl hsz)
 obtain⟨x0,rfl,z0,w0⟩:=(Fits.slice (n:=19) (sz:=1) (by_:=8) Tryz.underlying22 (by kernel_rfl) (by kernel_rfl) (λ_ h=>Fits.int Tryz.underlying3 h)) f0
 obtain⟨c1,f1,a1⟩:=arg_in (n:=20) (by kernel_rfl) (hval 1 3 v1 rfl rfl) h1 (weights_each (ts:=[22,3,44]++Rows.writePartsSpec.plain.varTypes Tryz.prog) (i:=1) rfl rfl hsz)
 obtain⟨x1,rfl,w1⟩:=Fits.int Tryz.underlying3 f1
 obtain⟨c2,f2,a2⟩:=arg_in (n:=20) (by kernel_rfl) (hval 2 44 v2 rfl rfl) h2 (weights_each (ts:=[22,3,44]++Rows.writePartsSpec.plain.varTypes Tryz.prog) (i:=2) rfl rfl hsz)
 obtain⟨x2,rfl,z2,w2⟩:=(Fits.slice (n:=19) (sz:=1) (by_:=1) Tryz.underlying44 (by kernel_rfl) (by kernel_rfl) (λ_ h=>Fits.int Tryz.underlying5 h)) f2
 clear hA0 hval0 hsz0 hsz
 obtain⟨fuel,hfuel⟩:=Go.R4.WriteParts z0 w0 w1 z2 w2
 have run:evCall Tryz.prog Go.R4.cfg Go.R4.prims fuel 12 [.c (.v (.sl 1 (List.map (eI .i64) x0) none)),.c (.v (.int .i64 x1)),.c (.v (.sl 1 (List.map (eI .u8) x2) none))] []=some (.c (.v (.bool true)),[]):=Go.R4.law8_WriteParts.ok fuel x0 x1 x2 true hfuel
 have ars:ARs (snap W) noRho [] [.c (.v (.sl 1 (List.map (eI .i64) x0) none)),.c (.v (.int .i64 x1)),.c (.v (.sl 1 (List.map (eI .u8) x2) none))] [v0,v1,v2]:=by
  simp only[ARs]
  exact⟨v0,_,rfl,a0,⟨v1,_,rfl,a1,⟨v2,_,rfl,a2,rfl⟩⟩⟩
 refine(link mixed Go.R4.primsOk run ars).mono λe W' ⟨he,bel⟩=>?_
 subst he
 exact⟨_,rfl,_,_,_,[],_,[],hW',trodAll_mk1 (shut_bool Tryz.underlying4 _),(trodAll_cons_mk (back_in laidOut (by kernel_rfl) h0 bel) (trodAll_cons_mk (back_in laidOut (by kernel_rfl) h1 bel) (trodAll_cons_mk (back_in laidOut (by kernel_rfl) h2 bel) trodAll_mk0))),rfl,bel.frame _,λh=>by cases h⟩
theorem andT{a b:Bool}(h:a=true)(k:b=true):(a&&b)=true:=by rw[h,k];rfl
theorem q0:Rows.writePartsRow.wf (OpenSpec.ofChange Rows.writePartsSpec)=true:=by kernel_rfl
theorem q1:laidOutB Tryz.prog=true:=laidOut
theorem q2:mapsRowed Tryz.prog=true:=by kernel_rfl
theorem q3:Tryz.f12.params.all (Tryz.prog.readableRec ·)=true:=by kernel_rfl
theorem q4:namedTie Tryz.prog Rows.writePartsRow.named Rows.writePartsSpec.vars=true:=by kernel_rfl
theorem q5:(Rows.writePartsRow.stops == [])=true:=by kernel_rfl
theorem q6:(Tryz.prog.stops == [])=true:=by kernel_rfl
theorem q7:(Rows.writePartsRow.knobs == [])=true:=by kernel_rfl
theorem q8:(Tryz.prog.stopKnobs == [])=true:=by kernel_rfl
theorem q9:(Rows.writePartsRow.inPlace == Tryz.prog.inPlace 12)=true:=by kernel_rfl
theorem q10:(Rows.writePartsRow.unfollowed == Tryz.prog.unfollowed 12)=true:=by kernel_rfl
theorem q11:(Rows.writePartsRow.recurses == Tryz.prog.recurses 12)=true:=by kernel_rfl
theorem q12:(Rows.writePartsRow.named == Tryz.prog.varsNamed 12)=true:=by kernel_rfl
theorem q13:(Rows.writePartsRow.maps == (Tryz.f12.params.toList++Rows.writePartsSpec.plain.varTypes Tryz.prog).any (Tryz.prog.mapsRec ·))=true:=by kernel_rfl
theorem q14:(Rows.writePartsRow.ifaces == (Tryz.f12.params.toList++Rows.writePartsSpec.plain.varTypes Tryz.prog).any (Tryz.prog.ifacesRec ·))=true:=by kernel_rfl
theorem q15:(Rows.writePartsRow.mapsOut == Tryz.prog.mapsAmong Tryz.f12.resultTypes.toList)=true:=by kernel_rfl
theorem q16:(Rows.writePartsRow.loops == (Tryz.f12.params.toList++Rows.writePartsSpec.plain.varTypes Tryz.prog).any (Tryz.prog.loopsFrom ·))=true:=by kernel_rfl
theorem q17:(Rows.writePartsRow.wideKeys == (Tryz.f12.params.toList++Rows.writePartsSpec.plain.varTypes Tryz.prog++Tryz.f12.resultTypes.toList).any (Tryz.prog.wideKeysFrom ·))=true:=by kernel_rfl
theorem q18:Rows.writePartsSpec.vars.all (Tryz.prog.varReadable ·)=true:=by kernel_rfl
theorem q19:Tryz.f12.resultTypes.all (λt=>Tryz.prog.readableRec t&&decide (t<Tryz.prog.types.size))=true:=by kernel_rfl
theorem q20:(Rows.writePartsRow.ifacesOut == Tryz.f12.resultTypes.toList.any (Tryz.prog.ifacesRec ·))=true:=by kernel_rfl
theorem q21:(Rows.writePartsRow.loopsOut == Tryz.f12.resultTypes.toList.any (Tryz.prog.loopsFrom ·))=true:=by kernel_rfl
theorem q22:(Rows.writePartsRow.plainKeys == Tryz.prog.plainKeys)=true:=by kernel_rfl
theorem q23:Rows.writePartsRow.shortTexts.isNone=true:=by kernel_rfl
theorem q24:Tryz.prog.stopsHeard=true:=by kernel_rfl
theorem q25:Tryz.prog.mayEnter=true:=by kernel_rfl
theorem q26:(Rows.writePartsRow.lifted == Tryz.prog.liftsFinal)=true:=by kernel_rfl
theorem q27:(Tryz.prog.make == some Rows.writePartsRow.make)=true:=by kernel_rfl
theorem q28:(Rows.writePartsRow.kinds == (if Rows.writePartsRow.domain.isEmpty then[]else Tryz.f12.params.toList.map λt=>match Tryz.prog.underlying t with | some (.int k)=>some k |_=>none))=true:=by kernel_rfl
theorem q29:(Rows.writePartsRow.pinned == Rows.writePartsRow.pinnedBy)=true:=by kernel_rfl
theorem q30:(Rows.writePartsRow.veiled == (Tryz.f12.params.toList++Rows.writePartsSpec.plain.varTypes Tryz.prog++Tryz.f12.resultTypes.toList).any (Tryz.prog.veiledRec ·))=true:=by kernel_rfl
theorem q31:Rows.writePartsRow.veiledFits Tryz.prog Tryz.f12.params.toList (Tryz.f12.params.toList++Rows.writePartsSpec.plain.varTypes Tryz.prog++Tryz.f12.resultTypes.toList)=true:=by kernel_rfl
set_option maxRecDepth 100000 in
theorem facts:joinedFacts Tryz.prog 12 Tryz.f12 Rows.writePartsSpec Rows.writePartsRow=true:=by
 unfold joinedFacts
 exact andT (andT (andT (andT (andT (andT (andT (andT (andT (andT (andT (andT (andT (andT (andT (andT (andT (andT (andT (andT (andT (andT (andT (andT (andT (andT (andT (andT (andT (andT (andT (q0) q1) q2) q3) q4) q5) q6) q7) q8) q9) q10) q11) q12) q13) q14) q15) q16) q17) q18) q19) q20) q21) q22) q23) q24) q25) q26) q27) q28) q29) q30) q31
theorem inst:Tryz.f12.isInstance Tryz.prog Rows.writePartsRow.origin Rows.writePartsRow.targs:=of_decide_eq_true (by as_aux_lemma=>kernel_rfl)
theorem wrap:Tryz.f12.isWrapper Tryz.prog Rows.writePartsRow.wrapper Rows.writePartsRow.mainSum:=by unfold Func.isWrapper;first | (rw[if_pos (by as_aux_lemma=>decide +kernel)];kernel_rfl) | (rw[if_neg (by as_aux_lemma=>decide +kernel)];exact⟨rfl,rfl⟩)
theorem fname:Tryz.prog.funcNamed Rows.writePartsRow.func=some 12:=by kernel_rfl
theorem over:Rows.writePartsRow.holds Tryz.pinned (OpenSpec.ofChange Rows.writePartsSpec):=
 OpenClaim.holds_of_wide 12 Tryz.f12 rfl rfl rfl rfl rfl rfl rfl ⟨rfl,rfl,rfl,rfl,rfl⟩ rfl rfl rfl rfl rfl fname Tryz.func12 facts inst wrap
  (λos started H enc _=>lifted os started H enc)
theorem proved:Rows.WritePartsSaid:=over
#print axioms proved
end Go.Proofs.YtganajogkdinaaaGreat.writeParts
namespace Go.Proofs.YtganajogkdinaaaGreat
theorem writeParts_holds:Rows.WritePartsSaid:=writeParts.proved
end Go.Proofs.YtganajogkdinaaaGreat
