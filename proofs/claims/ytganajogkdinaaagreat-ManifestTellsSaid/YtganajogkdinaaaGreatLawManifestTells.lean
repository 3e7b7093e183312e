import Derived.Test.YtganajogkdinaaaGreatRows
import Derived.Test.YtganajogkdinaaaGreatGManH
import Derived.Test.YtganajogkdinaaaGreatGItrC
import Derived.Test.YtganajogkdinaaaGreatEvIn
import Derived.WalkKit
import Derived.ProofKit
import Derived.OpenShut
import Derived.ShutString
import Derived.ChangeOld
import Derived.Below
import Derived.SizedLaws
set_option linter.all false
namespace Go.Proofs.YtganajogkdinaaaGreat.manifestTells
open Go.ChangeShapes Go.WideShapes Go.ChangeAt Go.RowKit Go.Ev Go.R4
set_option linter.unusedVariables false
theorem own:ownKnob Tryz.prog.godebug=none:=by kernel_rfl
theorem laidOut:laidOutB Tryz.prog=true:=by kernel_rfl
theorem eF:Tryz.prog.follows .mixedOrders=true:=by kernel_rfl
set_option maxRecDepth 100000 in
theorem lifted(os:Os)(started:os.Started)(H:Type)(enc:TypeId×Value->H) :
  ReturnsInHanded {} Tryz.checked os 8 .any (Rows.manifestTellsSpec.pre6 enc Tryz.prog Tryz.f8 Rows.manifestTellsRow.domain false) (Rows.manifestTellsSpec.post enc Tryz.prog Tryz.f8 false true false false):=by
 refine returnsInHanded_of_change_sized (C:=Tryz.checked) own started (by kernel_rfl) Tryz.func8
  (ChangeSpec.witness6 (enc:=enc) (C:=Tryz.checked) false ⟨#[],#[.slice none 0 0,.agg #[.slice none 0 0,.slice none 0 0,.slice none 0 0,.slice none 0 0,.slice none 0 0,.slice none 0 0,.int .i64 0,.int .i64 0,.int .i64 0,.int .i64 0],.agg #[.slice none 0 0,.slice none 0 0,.slice none 0 0,.slice none 0 0,.slice none 0 0,.slice none 0 0,.slice none 0 0,.slice none 0 0,.slice none 0 0,.slice none 0 0,.slice none 0 0,.int .i64 0,.slice none 0 0,.slice none 0 0,.slice none 0 0,.slice none 0 0,.int .i64 0,.int .i64 0,.int .i64 0],.int .i64 0,.int .u8 0,.slice none 0 0],[]⟩ 8 (by kernel_rfl) (by kernel_rfl) (by kernel_rfl) (by kernel_rfl)) ?_
 intro W base args ds gs before hval0 hW hcnd hsz0 _
 have hsz:(DataW.weightsEach Tryz.prog (Tryz.f8.params.toList++Rows.manifestTellsSpec.plain.varTypes Tryz.prog) (ds++gs)).all (· ≤ reachBytes)=true:=hsz0
 have hval:∀ (j:Nat) t v,Tryz.f8.params[j]?=some t->args[j]?=some v->Value.okWide Tryz.prog W .any base t v:=hval0
 have hW':=hW
 obtain⟨p,q,hA0,hV,rfl,hfz,hnd⟩:=hW
 have hA:DataW.TrodAll enc Tryz.prog W 0 (λ_=>true) true Tryz.f8.params.toList args.toList ds p:=hA0
 rw[Tryz.params8]at hA hval hsz
 obtain⟨v0,vs0,d0,ds0,p0,q0,hargs,rfl,rfl,h0,r0⟩:=trodAll_cons hA
 obtain⟨v1,vs1,d1,ds1,p1,q1,rfl,rfl,rfl,h1,r1⟩:=trodAll_cons r0
 obtain⟨v2,vs2,d2,ds2,p2,q2,rfl,rfl,rfl,h2,r2⟩:=trodAll_cons r1
 obtain⟨v3,vs3,d3,ds3,p3,q3,rfl,rfl,rfl,h3,r3⟩:=trodAll_cons r2
 obtain⟨v4,vs4,d4,ds4,p4,q4,rfl,rfl,rfl,h4,r4⟩:=trodAll_cons r3
 obtain⟨v5,vs5,d5,ds5,p5,q5,rfl,rfl,rfl,h5,r5⟩:=trodAll_cons r4
 obtain⟨rfl,rfl,rfl⟩:=trodAll_nil r5
 obtain rfl:args = #[v0,v1,v2,v3,v4,v5]:=by cases args;simp_all
 obtain⟨rfl,rfl⟩:=trodVars_none hV
 obtain⟨c0,f0,a0⟩:=arg_in (n:=20) (by kernel_rfl) (hval 0 22 v0 rfl rfl) h0 (weights_each (ts:=[22,81,77,3,5,44]++Rows.manifestTellsSpec.plain.varTypes Tryz.prog) (i:=0) rfl rfl hsz)
 obtain⟨x0,rfl,z0,w0⟩:=(Fits.slice (n:=19) (sz:=1) (by_:=8) Tryz.underlying22 (by kernel_rfl) (by kernel_rfl) (λ_ h=>Fits.int Tryz.underlying3 h)) f0
 obtain⟨c1,f1,a1⟩:=arg_in (n:=20) (by kernel_rfl) (hval 1 81 v1 rfl rfl) h1 (weights_each (ts:=[22,81,77,3,5,44]++Rows.manifestTellsSpec.plain.varTypes Tryz.prog) (i:=1) rfl rfl hsz)
 obtain⟨x1,rfl,w1⟩:=aF.dec f1
 obtain⟨c2,f2,a2⟩:=arg_in (n:=20) (by kernel_rfl) (hval 2 77 v2 rfl rfl) h2 (weights_each (ts:=[22,81,77,3,5,44]++Rows.manifestTellsSpec.plain.varTypes Tryz.prog) (i:=2) rfl rfl hsz)
 obtain⟨x2,rfl,w2⟩:=ah.dec f2
 obtain⟨c3,f3,a3⟩:=arg_in (n:=20) (by kernel_rfl) (hval 3 3 v3 rfl rfl) h3 (weights_each (ts:=[22,81,77,3,5,44]++Rows.manifestTellsSpec.plain.varTypes Tryz.prog) (i:=3) rfl rfl hsz)
 obtain⟨x3,rfl,w3⟩:=Fits.int Tryz.underlying3 f3
 obtain⟨c4,f4,a4⟩:=arg_in (n:=20) (by kernel_rfl) (hval 4 5 v4 rfl rfl) h4 (weights_each (ts:=[22,81,77,3,5,44]++Rows.manifestTellsSpec.plain.varTypes Tryz.prog) (i:=4) rfl rfl hsz)
 obtain⟨x4,rfl,w4⟩:=Fits.int Tryz.underlying5 f4
 obtain⟨c5,f5,a5⟩:=arg_in (n:=20) (by kernel_rfl) (hval 5 44 v5 rfl rfl) h5 (weights_each (ts:=[22,81,77,3,5,44]++Rows.manifestTellsSpec.plain.varTypes Tryz.prog) (i:=5) rfl rfl hsz)
 obtain⟨x5,rfl,z5,w5⟩:=(Fits.slice (n:=19) (sz:=1) (by_:=1) Tryz.underlying44 (by kernel_rfl) (by kernel_rfl) (λ_ h=>Fits.int Tryz.underlying5 h)) f5
 clear hA0 hval0 hsz0 hsz
 obtain⟨fuel,hfuel⟩:=Go.R4.ManifestTells z0 w0 w1 w2 w3 w4 z5 w5
 have run:evCall Tryz.prog Go.R4.cfg Go.R4.prims fuel 8 [.c (.v (.sl 1 (List.map (eI .i64) x0) none)),.agp [.sl 1 (List.map (eI .i64) x1.Slots) none,.sl 1 (List.map (eI .i64) x1.Base) none,.sl 1 (List.map (eI .i64) x1.Size) none,.sl 1 (List.map (eI .i64) x1.Grow) none,.sl 1 (List.map (eI .i64) x1.Types) none,.sl 1 (List.map eS x1.Names) none,.int .i64 x1.Extra,.int .i64 x1.Mems,.int .i64 x1.Globals,.int .i64 x1.Index],.agp [.sl 2 (List.map ab.e x2.Module.Types) none,.sl 3 (List.map ag.e x2.Module.Imports) none,.sl 3 (List.map ai.e x2.Module.Funcs) none,.sl 2 (List.map au.e x2.Module.Mems) none,.sl 3 (List.map af.e x2.Module.Globals) none,.sl 3 (List.map aa.e x2.Module.Exports) none,.sl 4 (List.map aA.e x2.Module.Datas) none,.sl 2 (List.map am.e x2.Module.Customs) none,.sl 1 (List.map (eI .i64) x2.Slots.Globals) none,.sl 1 (List.map (eI .i64) x2.Layout.Base) none,.sl 1 (List.map (eI .i64) x2.Layout.Size) none,.int .i64 x2.Layout.Extra,.sl 1 (List.map (eI .i64) x2.Layout.Grow) none,.sl 2 (List.map ab.e x2.Types) none,.sl 3 (List.map aa.e x2.Names) none,.sl 3 (List.map aa.e x2.Hidden) none,.int .i64 x2.Extra,.int .i64 x2.Mems,.int .i64 x2.Globals],.c (.v (.int .i64 x3)),.c (.v (.int .u8 x4)),.c (.v (.sl 1 (List.map (eI .u8) x5) none))] []=some (.c (.v (.bool true)),[]):=Go.R4.law25_ManifestTells.ok fuel x0 x1 x2 x3 x4 x5 true hfuel
 have ars:ARs (snap W) noRho [] [.c (.v (.sl 1 (List.map (eI .i64) x0) none)),.agp [.sl 1 (List.map (eI .i64) x1.Slots) none,.sl 1 (List.map (eI .i64) x1.Base) none,.sl 1 (List.map (eI .i64) x1.Size) none,.sl 1 (List.map (eI .i64) x1.Grow) none,.sl 1 (List.map (eI .i64) x1.Types) none,.sl 1 (List.map eS x1.Names) none,.int .i64 x1.Extra,.int .i64 x1.Mems,.int .i64 x1.Globals,.int .i64 x1.Index],.agp [.sl 2 (List.map ab.e x2.Module.Types) none,.sl 3 (List.map ag.e x2.Module.Imports) none,.sl 3 (List.map ai.e x2.Module.Funcs) none,.sl 2 (List.map au.e x2.Module.Mems) none,.sl 3 (List.map af.e x2.Module.Globals) none,.sl 3 (List.map aa.e x2.Module.Exports) none,.sl 4 (List.map aA.e x2.Module.Datas) none,.sl 2 (List.map am.e x2.Module.Customs) none,.sl 1 (List.map (eI .i64) x2.Slots.Globals) none,.sl 1 (List.map (eI .i64) x2.Layout.Base) none,.sl 1 (List.map (eI .i64) x2.Layout.Size) none,.int .i64 x2.Layout.Extra,.sl 1 (List.map (eI .i64) x2.Layout.Grow) none,.sl 2 (List.map ab.e x2.Types) none,.sl 3 (List.map aa.e x2.Names) none,.sl 3 (List.map aa.e x2.Hidden) none,.int .i64 x2.Extra,.int .i64 x2.Mems,.int .i64 x2.Globals],.c (.v (.int .i64 x3)),.c (.v (.int .u8 x4)),.c (.v (.sl 1 (List.map (eI .u8) x5) none))] [v0,v1,v2,v3,v4,v5]:=by
  simp only[ARs]
  exact⟨v0,_,rfl,a0,⟨v1,_,rfl,a1,⟨v2,_,rfl,a2,⟨v3,_,rfl,a3,⟨v4,_,rfl,a4,⟨v5,_,rfl,a5,rfl⟩⟩⟩⟩⟩⟩
 refine(link eF Go.R4.primsOk run ars).mono λe W' ⟨he,bel⟩=>?_
 subst he
 exact⟨_,rfl,_,_,_,[],_,[],hW',trodAll_mk1 (shut_bool Tryz.underlying4 _),(trodAll_cons_mk (back_in laidOut (by kernel_rfl) h0 bel) (trodAll_cons_mk (back_in laidOut (by kernel_rfl) h1 bel) (trodAll_cons_mk (back_in laidOut (by kernel_rfl) h2 bel) (trodAll_cons_mk (back_in laidOut (by kernel_rfl) h3 bel) (trodAll_cons_mk (back_in laidOut (by kernel_rfl) h4 bel) (trodAll_cons_mk (back_in laidOut (by kernel_rfl) h5 bel) trodAll_mk0)))))),rfl,bel.frame _,λh=>by cases h⟩
theorem andT{a b:Bool}(h:a=true)(k:b=true):(a&&b)=true:=by rw[h,k];rfl
theorem q0:Rows.manifestTellsRow.wf (OpenSpec.ofChange Rows.manifestTellsSpec)=true:=by kernel_rfl
theorem q1:laidOutB Tryz.prog=true:=laidOut
theorem q2:mapsRowed Tryz.prog=true:=by kernel_rfl
theorem q3:Tryz.f8.params.all (Tryz.prog.readableRec ·)=true:=by kernel_rfl
theorem q4:namedTie Tryz.prog Rows.manifestTellsRow.named Rows.manifestTellsSpec.vars=true:=by kernel_rfl
theorem q5:(Rows.manifestTellsRow.stops == [])=true:=by kernel_rfl
theorem q6:(Tryz.prog.stops == [])=true:=by kernel_rfl
theorem q7:(Rows.manifestTellsRow.knobs == [])=true:=by kernel_rfl
theorem q8:(Tryz.prog.stopKnobs == [])=true:=by kernel_rfl
theorem q9:(Rows.manifestTellsRow.inPlace == Tryz.prog.inPlace 8)=true:=by kernel_rfl
theorem q10:(Rows.manifestTellsRow.unfollowed == Tryz.prog.unfollowed 8)=true:=by kernel_rfl
theorem q11:(Rows.manifestTellsRow.recurses == Tryz.prog.recurses 8)=true:=by kernel_rfl
theorem q12:(Rows.manifestTellsRow.named == Tryz.prog.varsNamed 8)=true:=by kernel_rfl
theorem q13:(Rows.manifestTellsRow.maps == (Tryz.f8.params.toList++Rows.manifestTellsSpec.plain.varTypes Tryz.prog).any (Tryz.prog.mapsRec ·))=true:=by kernel_rfl
theorem q14:(Rows.manifestTellsRow.ifaces == (Tryz.f8.params.toList++Rows.manifestTellsSpec.plain.varTypes Tryz.prog).any (Tryz.prog.ifacesRec ·))=true:=by kernel_rfl
theorem q15:(Rows.manifestTellsRow.mapsOut == Tryz.prog.mapsAmong Tryz.f8.resultTypes.toList)=true:=by kernel_rfl
theorem q16:(Rows.manifestTellsRow.loops == (Tryz.f8.params.toList++Rows.manifestTellsSpec.plain.varTypes Tryz.prog).any (Tryz.prog.loopsFrom ·))=true:=by kernel_rfl
theorem q17:(Rows.manifestTellsRow.wideKeys == (Tryz.f8.params.toList++Rows.manifestTellsSpec.plain.varTypes Tryz.prog++Tryz.f8.resultTypes.toList).any (Tryz.prog.wideKeysFrom ·))=true:=by kernel_rfl
theorem q18:Rows.manifestTellsSpec.vars.all (Tryz.prog.varReadable ·)=true:=by kernel_rfl
theorem q19:Tryz.f8.resultTypes.all (λt=>Tryz.prog.readableRec t&&decide (t<Tryz.prog.types.size))=true:=by kernel_rfl
theorem q20:(Rows.manifestTellsRow.ifacesOut == Tryz.f8.resultTypes.toList.any (Tryz.prog.ifacesRec ·))=true:=by kernel_rfl
theorem q21:(Rows.manifestTellsRow.loopsOut == Tryz.f8.resultTypes.toList.any (Tryz.prog.loopsFrom ·))=true:=by kernel_rfl
theorem q22:(Rows.manifestTellsRow.plainKeys == Tryz.prog.plainKeys)=true:=by kernel_rfl
theorem q23:Rows.manifestTellsRow.shortTexts.isNone=true:=by kernel_rfl
theorem q24:Tryz.prog.stopsHeard=true:=by kernel_rfl
theorem q25:Tryz.prog.mayEnter=true:=by kernel_rfl
theorem q26:(Rows.manifestTellsRow.lifted == Tryz.prog.liftsFinal)=true:=by kernel_rfl
theorem q27:(Tryz.prog.make == some Rows.manifestTellsRow.make)=true:=by kernel_rfl
theorem q28:(Rows.manifestTellsRow.kinds == (if Rows.manifestTellsRow.domain.isEmpty then[]else Tryz.f8.params.toList.map λt=>match Tryz.prog.underlying t with | some (.int k)=>some k |_=>none))=true:=by kernel_rfl
theorem q29:(Rows.manifestTellsRow.pinned == Rows.manifestTellsRow.pinnedBy)=true:=by kernel_rfl
theorem q30:(Rows.manifestTellsRow.veiled == (Tryz.f8.params.toList++Rows.manifestTellsSpec.plain.varTypes Tryz.prog++Tryz.f8.resultTypes.toList).any (Tryz.prog.veiledRec ·))=true:=by kernel_rfl
theorem q31:Rows.manifestTellsRow.veiledFits Tryz.prog Tryz.f8.params.toList (Tryz.f8.params.toList++Rows.manifestTellsSpec.plain.varTypes Tryz.prog++Tryz.f8.resultTypes.toList)=true:=by kernel_rfl
set_option maxRecDepth 100000 in
theorem facts:joinedFacts Tryz.prog 8 Tryz.f8 Rows.manifestTellsSpec Rows.manifestTellsRow=true:=by
 unfold joinedFacts
 exact andT (andT (andT (andT (andT (andT (andT (andT (andT (andT (andT (andT (andT (andT (andT (andT (andT (andT (andT (andT (andT (andT (andT (andT (andT (andT (andT (andT (andT (andT (andT (q0) q1) q2) q3) q4) q5) q6) q7) q8) q9) q10) q11) q12) q13) q14) q15) q16) q17) q18) q19) q20) q21) q22) q23) q24) q25) q26) q27) q28) q29) q30) q31
theorem inst:Tryz.f8.isInstance Tryz.prog Rows.manifestTellsRow.origin Rows.manifestTellsRow.targs:=of_decide_eq_true (by as_aux_lemma=>kernel_rfl)
theorem wrap:Tryz.f8.isWrapper Tryz.prog Rows.manifestTellsRow.wrapper Rows.manifestTellsRow.mainSum:=by unfold Func.isWrapper;first | (rw[if_pos (by as_aux_lemma=>decide +kernel)];kernel_rfl) | (rw[if_neg (by as_aux_lemma=>decide +kernel)];exact⟨rfl,rfl⟩)
theorem fname:Tryz.prog.funcNamed Rows.manifestTellsRow.func=some 8:=by kernel_rfl
theorem over:Rows.manifestTellsRow.holds Tryz.pinned (OpenSpec.ofChange Rows.manifestTellsSpec):=
 OpenClaim.holds_of_wide 8 Tryz.f8 rfl rfl rfl rfl rfl rfl rfl ⟨rfl,rfl,rfl,rfl,rfl⟩ rfl rfl rfl rfl rfl fname Tryz.func8 facts inst wrap
  (λos started H enc _=>lifted os started H enc)
theorem proved:Rows.ManifestTellsSaid:=over
#print axioms proved
end Go.Proofs.YtganajogkdinaaaGreat.manifestTells
namespace Go.Proofs.YtganajogkdinaaaGreat
theorem manifestTells_holds:Rows.ManifestTellsSaid:=manifestTells.proved
end Go.Proofs.YtganajogkdinaaaGreat
