import Derived.Test.YtganajogkdinaaaGreatGNamesP
set_option linter.all false
namespace Go.R4
open Go.Proofs Go.Ev
set_option maxRecDepth 100000
def FitT(t:ab):Prop:=t.Params.length<=4000000000000000000/\t.Results.length<=4000000000000000000
def FitF(f:ai):Prop:=f.Locals.length<=4000000000000000000/\f.Code.length<=4000000000000000000/\∀ i∈f.Code,i.L.length<=4000000000000000000
structure Fit(m:ay):Prop where
 lt:m.Types.length<=4000000000000000000
 li:m.Imports.length<=4000000000000000000
 lf:m.Funcs.length<=4000000000000000000
 lm:m.Mems.length<=4000000000000000000
 lg:m.Globals.length<=4000000000000000000
 le:m.Exports.length<=4000000000000000000
 ld:m.Datas.length<=4000000000000000000
 lc:m.Customs.length<=4000000000000000000
 ts:∀ t∈m.Types,FitT t
 fs:∀ f∈m.Funcs,FitF f
def ae2(t:Int):Prop:=t=127∨t=126∨t=124
theorem acu(l:List Int)(hl:l.length<=4000000000000000000):Wp (λk=>aT.f k l) (Tell (∀ e∈l,ae2 e)):=by
 refine .succ ?_
 simp only[aT.f]
 refine aa4 (.succ ?_)
 simp only[bG.f]
 refine aau (.succ ?_)
 simp only[bW.f]
 refine aaV l hl ae2 (λe _=>.succ ?_)
 simp only[cC.f]
 unfold ae2
 refine .ite (λh=>.one (.no (by omega))) (λh=>.ite (λh=>.one (.no (by omega))) (λh2=>.one ?_))
 exact(Tell.dec (c:=e=124) Iff.rfl).not.iff (by omega)
def TypeP(t:ab):Prop:=(t.Params.length<=8/\∀ e∈t.Params,ae2 e)/\(t.Results.length<=8/\∀ e∈t.Results,ae2 e)
theorem akV(t:ab)(h:FitT t):Wp (λk=>cQ.f k t) (Tell (TypeP t)):=by
 refine .succ ?_
 simp only[cQ.f]
 unfold TypeP
 refine .ite (λh1=>.ite (λh2=>?_) (λh2=>.one (.no λq=>by have:=q.2.1;omega))) (λh1=>.one (.no λq=>by have:=q.1.1;omega))
 refine .bind (acu _ h.1) (λr hr=>.tif hr (λh3=>.bind (acu _ h.2) (λr hr=>.one (hr.iff ⟨λq=>⟨⟨by omega,h3⟩,by omega,q⟩,λq=>q.2.2⟩))) (λh3=>.one (.no λq=>h3 q.1.2)))
theorem aoU(l:List ab)(hl:l.length<=4000000000000000000)(h:∀ t∈l,FitT t):Wp (λk=>cq.f k l) (Tell (∀ t∈l,TypeP t)):=by
 refine .succ ?_
 simp only[cq.f]
 refine aa4 (.succ ?_)
 simp only[bE.f]
 refine aau (.succ ?_)
 simp only[bQ.f]
 refine aaV l hl TypeP (λe he=>.succ ?_)
 simp only[cv.f]
 exact ace (akV e (h e he))
def ImpP(x:aj):Prop:=age x.Module/\age x.Name/\0<=x.fType/\x.fType<=2147483647
theorem aoW(l:List aj)(hl:l.length<=4000000000000000000):Wp (λk=>cr.f k l) (Tell (∀ t∈l,ImpP t)):=by
 refine .succ ?_
 simp only[cr.f]
 refine aa4 (.succ ?_)
 simp only[bK.f]
 refine aau (.succ ?_)
 simp only[bR.f]
 refine aaV l hl ImpP (λe he=>.succ ?_)
 simp only[cI.f]
 refine ace (.succ ?_)
 simp only[cw.f]
 unfold ImpP
 exact .bind (ac2 _) (λr hr=>.tif hr (λh1=>.bind (ac2 _) (λr hr=>.tif hr (λh2=>.bind (abk _) (λr hr=>.one (hr.iff ⟨λq=>⟨h1,h2,q⟩,λq=>q.2.2⟩))) (λh2=>.one (.no λq=>h2 q.2.1)))) (λh1=>.one (.no λq=>h1 q.1)))
def CusP(x:aD):Prop:=age x.Name/\x.Bytes.length<=1048576
theorem an6(l:List aD)(hl:l.length<=4000000000000000000):Wp (λk=>bY.f k l) (Tell (∀ t∈l,CusP t)):=by
 refine .succ ?_
 simp only[bY.f]
 refine aa4 (.succ ?_)
 simp only[bH.f]
 refine aau (.succ ?_)
 simp only[bP.f]
 refine aaV l hl CusP (λe he=>.succ ?_)
 simp only[cB.f]
 refine ace (.succ ?_)
 simp only[cy.f]
 unfold CusP
 exact .bind (ac2 _) (λr hr=>.tif hr (λh1=>.one (.dec ⟨λq=>⟨h1,by omega⟩,λq=>by have:=q.2;omega⟩)) (λh1=>.one (.no λq=>h1 q.1)))
def FunP(f:ai):Prop:=(0<=f.fType/\f.fType<=2147483647)/\(f.Locals.length<=256/\∀ e∈f.Locals,ae2 e)/\f.Code.length<=65536/\∀ i∈f.Code,aex i
theorem aoL(l:List ai)(hl:l.length<=4000000000000000000)(h:∀ f∈l,FitF f):Wp (λk=>bX.f k l) (Tell (∀ t∈l,FunP t)):=by
 refine .succ ?_
 simp only[bX.f]
 refine aa4 (.succ ?_)
 simp only[bM.f]
 refine aau (.succ ?_)
 simp only[bT.f]
 refine aaV l hl FunP (λe he=>.succ ?_)
 simp only[cD.f]
 refine ace (.succ ?_)
 simp only[dc.f]
 obtain⟨g1,g2,g3⟩:=h e he
 unfold FunP
 refine .bind (abk _) (λr hr=>.tif hr (λh1=>?_) (λh1=>.one (.no λq=>h1 q.1)))
 refine .ite (λh2=>?_) (λh2=>.one (.no λq=>by have:=q.2.1.1;omega))
 refine .bind (acu _ g1) (λr hr=>.tif hr (λh3=>?_) (λh3=>.one (.no λq=>h3 q.2.1.2)))
 refine .ite (λh4=>?_) (λh4=>.one (.no λq=>by have:=q.2.2.1;omega))
 refine ajy (Q:=∀ i∈e.Code,aex i) (aa4 (.succ ?_)) ⟨λq=>⟨h1,⟨by omega,h3⟩,by omega,q⟩,λq=>q.2.2.2⟩
 simp only[bL.f]
 refine aau (.succ ?_)
 simp only[bS.f]
 refine aaV _ g2 aex (λi hi=>.succ ?_)
 simp only[cz.f]
 exact ace (anT i)
def MemP(x:au):Prop:=0<=x.Min/\x.Min<=x.Max/\x.Max<=512
theorem aoq(l:List au)(hl:l.length<=4000000000000000000):Wp (λk=>cb.f k l) (Tell (∀ t∈l,MemP t)):=by
 refine .succ ?_
 simp only[cb.f]
 refine aa4 (.succ ?_)
 simp only[bI.f]
 refine aau (.succ ?_)
 simp only[bU.f]
 refine aaV l hl MemP (λe he=>.succ ?_)
 simp only[cA.f]
 refine ace (.succ ?_)
 simp only[cH.f]
 unfold MemP
 exact .ite (λh1=>.ite (λh2=>.one (.dec (by omega))) (λh2=>.one (.no (by omega)))) (λh1=>.one (.no (by omega)))
def GloP(x:ah):Prop:=ae2 x.fType/\(x.fType=127->x.Init<=4294967295)
theorem aoC(l:List ah)(hl:l.length<=4000000000000000000):Wp (λk=>ca.f k l) (Tell (∀ t∈l,GloP t)):=by
 refine .succ ?_
 simp only[ca.f]
 refine aa4 (.succ ?_)
 simp only[bF.f]
 refine aau (.succ ?_)
 simp only[bN.f]
 refine aaV l hl GloP (λe he=>.succ ?_)
 simp only[cG.f]
 refine ace (.succ ?_)
 simp only[cE.f]
 unfold GloP
 refine .bind (acu [e.fType] (by simp)) (λr hr=>.tif hr (λh1=>?_) (λh1=>.one (.no λq=>h1 (λx hx=>by rw[List.mem_singleton.1 hx];exact q.1))))
 have h1':=h1 e.fType (List.mem_singleton.2 rfl)
 exact .ite (λh2=>.one (.dec ⟨λq=>⟨h1',λ_=>q⟩,λq=>q.2 h2⟩)) (λh2=>.one (.yes ⟨h1',λq=>(h2 q).elim⟩))
def DatP(x:aB):Prop:=(x.Active=true->(0<=x.Mem/\x.Mem<4)/\0<=x.At/\x.At<=2147483647)/\(x.Active=false->x.Mem=0/\x.At=0)/\x.Bytes.length<=1048576
theorem aoK(l:List aB)(hl:l.length<=4000000000000000000):Wp (λk=>cc.f k l) (Tell (∀ t∈l,DatP t)):=by
 refine .succ ?_
 simp only[cc.f]
 refine aa4 (.succ ?_)
 simp only[bD.f]
 refine aau (.succ ?_)
 simp only[bO.f]
 refine aaV l hl DatP (λe he=>.succ ?_)
 simp only[cF.f]
 refine ace (.succ ?_)
 simp only[dk.f]
 unfold DatP
 obtain⟨ac,mem,at_,by_⟩:=e
 dsimp only
 cases ac with
 | true=>
  simp only[if_true,true_implies,Bool.true_eq_false,false_implies,true_and]
  refine .ite (λh1=>?_) (λh1=>?_) <;>
  exact .seg (Q:=Tell ((0<=mem/\mem<4)/\0<=at_/\at_<=2147483647)) (.bind (aaN _ _) (λr hr=>.tif hr (λh2=>.bind (abk _) (λr hr=>.left (hr.iff ⟨λq=>⟨h2,q⟩,λq=>q.2⟩))) (λh2=>.left (.no λq=>h2 q.1))))
   (λx hx=>.tif hx (λh2=>.one (.dec ⟨λq=>⟨h2,by omega⟩,λq=>by have:=q.2;omega⟩)) (λh2=>.one (.no λq=>h2 q.1)))
 | false=>
  simp only[Bool.false_eq_true,if_false,false_implies,true_implies,true_and]
  refine .ite (λh1=>?_) (λh1=>?_)
  ·exact .seg (Q:=Tell (at_=0)) (.left (.dec Iff.rfl)) (λx hx=>.tif hx (λh2=>.one (.dec ⟨λq=>⟨⟨h1,h2⟩,by omega⟩,λq=>by have:=q.2;omega⟩)) (λh2=>.one (.no λq=>h2 q.1.2)))
  ·exact .seg (Q:=Tell False) (.left (.no id)) (λx hx=>.tif hx (λh2=>h2.elim) (λh2=>.one (.no λq=>h1 q.1.1)))
def ad5(m:ay):Prop:=((∀ t∈m.Types,TypeP t)/\(∀ t∈m.Imports,ImpP t)/\(∀ t∈m.Funcs,FunP t)/\(∀ t∈m.Mems,MemP t)/\∀ t∈m.Globals,GloP t)/\adE m.Exports/\(∀ t∈m.Datas,DatP t)/\∀ t∈m.Customs,CusP t
def adW(m:ay):Prop:=(m.Types.length:Int)>64∨(iadd .i64 (m.Imports.length:Int) (m.Funcs.length:Int))>256∨(m.Mems.length:Int)>4∨(m.Globals.length:Int)>256∨(m.Datas.length:Int)>16∨(m.Exports.length:Int)>256∨(m.Customs.length:Int)>16
def RP(m:ay)(r:Int):Prop:=(adW m/\r=13)∨(¬adW m/\ad5 m/\r=0)∨(¬adW m/\¬ad5 m/\r=12)
theorem RP.eq{m:ay}{r s:Int}(h:RP m r)(k:RP m s):r=s:=by
 rcases h with⟨a,b⟩ | ⟨a,b,c⟩ | ⟨a,b,c⟩ <;> rcases k with⟨d,e⟩ | ⟨d,e,f⟩ | ⟨d,e,f⟩ <;> first | omega | exact(a d).elim | exact(d a).elim | exact(b e).elim | exact(e b).elim
theorem amT(m:ay):Wp (λk=>cY.f k m) (Tell (adW m)):=by
 refine .succ ?_
 simp only[cY.f]
 unfold adW
 generalize iadd .i64 (m.Imports.length:Int) (m.Funcs.length:Int)=s
 exact .ite (λh=>.one (.yes (by omega))) (λh1=>.ite (λh=>.one (.yes (by omega))) (λh2=>.ite (λh=>.one (.yes (by omega))) (λh3=>.ite (λh=>.one (.yes (by omega))) (λh4=>.ite (λh=>.one (.yes (by omega))) (λh5=>.ite (λh=>.one (.yes (by omega))) (λh6=>.one (.dec (by omega))))))))
theorem ak0(m:ay)(hm:Fit m):Wp (λk=>cM.f k m) (RP m):=by
 refine .succ ?_
 simp only[cM.f]
 refine .bind (amT m) (λr hr=>.tif hr (λhF=>.one (.inl ⟨hF,rfl⟩)) (λhF=>?_))
 refine .seg (Q:=Tell (¬ad5 m)) ?_ (λx hx=>.tif hx (λh=>.one (.inr (.inr ⟨hF,h,rfl⟩))) (λh=>.one (.inr (.inl ⟨hF,Classical.not_not.1 h,rfl⟩))))
 refine .bind (aoU _ hm.lt hm.ts) (λr hr=>.nif hr (λh=>.left (.yes λq=>h q.1.1)) (λh1=>?_))
 refine .bind (aoW _ hm.li) (λr hr=>.nif hr (λh=>.left (.yes λq=>h q.1.2.1)) (λh2=>?_))
 refine .bind (ags _ hm.le) (λr hr=>.nif hr (λh=>.left (.yes λq=>h q.2.1)) (λh3=>?_))
 refine .bind (an6 _ hm.lc) (λr hr=>.nif hr (λh=>.left (.yes λq=>h q.2.2.2)) (λh4=>?_))
 refine .bind (aoL _ hm.lf hm.fs) (λr hr=>.nif hr (λh=>.left (.yes λq=>h q.1.2.2.1)) (λh5=>?_))
 refine .bind (aoq _ hm.lm) (λr hr=>.nif hr (λh=>.left (.yes λq=>h q.1.2.2.2.1)) (λh6=>?_))
 refine .bind (aoC _ hm.lg) (λr hr=>.nif hr (λh=>.left (.yes λq=>h q.1.2.2.2.2)) (λh7=>?_))
 refine .bind (aoK _ hm.ld) (λr hr=>.nif hr (λh=>.left (.yes λq=>h q.2.2.1)) (λh8=>.left (.no λq=>q ⟨⟨h1,h2,h5,h6,h7⟩,h3,h8,h4⟩)))
end Go.R4
namespace Go.R4
open Go.Proofs Go.Ev
set_option maxRecDepth 100000
end Go.R4
