import Derived.Test.YtganajogkdinaaaGreatGNamesP
set_option linter.all false
namespace Go.R4
open Go.Proofs Go.Ev
set_option maxRecDepth 100000
def FitT(t:af):Prop:=t.Params.length<=4000000000000000000/\t.Results.length<=4000000000000000000
def FitF(f:aj):Prop:=f.Locals.length<=4000000000000000000/\f.Code.length<=4000000000000000000/\∀ i∈f.Code,i.L.length<=4000000000000000000
structure Fit(m:an):Prop where
 lt:m.Types.length<=4000000000000000000
 li:m.Imports.length<=4000000000000000000
 lf:m.Funcs.length<=4000000000000000000
 lm:m.Mems.length<=4000000000000000000
 lg:m.Globals.length<=4000000000000000000
 le:m.Exports.length<=4000000000000000000
 ld:m.Datas.length<=4000000000000000000
 lc:m.Customs.length<=4000000000000000000
 ts:∀ t∈m.Types,FitT t
 fs:∀ f∈m.Funcs,FitF f
def adl(t:Int):Prop:=t=127∨t=126∨t=124
theorem acM(l:List Int)(hl:l.length<=4000000000000000000):Wp (λk=>ba.f k l) (Tell (∀ e∈l,adl e)):=by
 refine .succ ?_
 simp only[ba.f]
 refine aa4 (.succ ?_)
 simp only[ce.f]
 refine aat (.succ ?_)
 simp only[ci.f]
 refine aa1 l hl adl (λe _=>.succ ?_)
 simp only[cX.f]
 unfold adl
 refine .ite (λh=>.one (.no (by omega))) (λh=>.ite (λh=>.one (.no (by omega))) (λh2=>.one ?_))
 exact(Tell.dec (c:=e=124) Iff.rfl).not.iff (by omega)
def TypeP(t:af):Prop:=(t.Params.length<=8/\∀ e∈t.Params,adl e)/\(t.Results.length<=8/\∀ e∈t.Results,adl e)
theorem ams(t:af)(h:FitT t):Wp (λk=>dx.f k t) (Tell (TypeP t)):=by
 refine .succ ?_
 simp only[dx.f]
 unfold TypeP
 refine .ite (λh1=>.ite (λh2=>?_) (λh2=>.one (.no λq=>by have:=q.2.1;omega))) (λh1=>.one (.no λq=>by have:=q.1.1;omega))
 refine .bind (acM _ h.1) (λr hr=>.tif hr (λh3=>.bind (acM _ h.2) (λr hr=>.one (hr.iff ⟨λq=>⟨⟨by omega,h3⟩,by omega,q⟩,λq=>q.2.2⟩))) (λh3=>.one (.no λq=>h3 q.1.2)))
theorem apu(l:List af)(hl:l.length<=4000000000000000000)(h:∀ t∈l,FitT t):Wp (λk=>cM.f k l) (Tell (∀ t∈l,TypeP t)):=by
 refine .succ ?_
 simp only[cM.f]
 refine aa4 (.succ ?_)
 simp only[bX.f]
 refine aat (.succ ?_)
 simp only[cv.f]
 refine aa1 l hl TypeP (λe he=>.succ ?_)
 simp only[dg.f]
 exact acp (ams e (h e he))
def ImpP(x:ak):Prop:=afp x.Module/\afp x.Name/\0<=x.fType/\x.fType<=2147483647
theorem apv(l:List ak)(hl:l.length<=4000000000000000000):Wp (λk=>cO.f k l) (Tell (∀ t∈l,ImpP t)):=by
 refine .succ ?_
 simp only[cO.f]
 refine aa4 (.succ ?_)
 simp only[cd.f]
 refine aat (.succ ?_)
 simp only[cu.f]
 refine aa1 l hl ImpP (λe he=>.succ ?_)
 simp only[dh.f]
 refine acp (.succ ?_)
 simp only[de.f]
 unfold ImpP
 exact .bind (adq _) (λr hr=>.tif hr (λh1=>.bind (adq _) (λr hr=>.tif hr (λh2=>.bind (abt _) (λr hr=>.one (hr.iff ⟨λq=>⟨h1,h2,q⟩,λq=>q.2.2⟩))) (λh2=>.one (.no λq=>h2 q.2.1)))) (λh1=>.one (.no λq=>h1 q.1)))
def CusP(x:aI):Prop:=afp x.Name/\x.Bytes.length<=1048576
theorem aoX(l:List aI)(hl:l.length<=4000000000000000000):Wp (λk=>cy.f k l) (Tell (∀ t∈l,CusP t)):=by
 refine .succ ?_
 simp only[cy.f]
 refine aa4 (.succ ?_)
 simp only[cb.f]
 refine aat (.succ ?_)
 simp only[cq.f]
 refine aa1 l hl CusP (λe he=>.succ ?_)
 simp only[dd.f]
 refine acp (.succ ?_)
 simp only[db.f]
 unfold CusP
 exact .bind (adq _) (λr hr=>.tif hr (λh1=>.one (.dec ⟨λq=>⟨h1,by omega⟩,λq=>by have:=q.2;omega⟩)) (λh1=>.one (.no λq=>h1 q.1)))
def FunP(f:aj):Prop:=(0<=f.fType/\f.fType<=2147483647)/\(f.Locals.length<=256/\∀ e∈f.Locals,adl e)/\f.Code.length<=65536/\∀ i∈f.Code,ac3 i
theorem aoV(l:List aj)(hl:l.length<=4000000000000000000)(h:∀ f∈l,FitF f):Wp (λk=>cC.f k l) (Tell (∀ t∈l,FunP t)):=by
 refine .succ ?_
 simp only[cC.f]
 refine aa4 (.succ ?_)
 simp only[ca.f]
 refine aat (.succ ?_)
 simp only[cn.f]
 refine aa1 l hl FunP (λe he=>.succ ?_)
 simp only[di.f]
 refine acp (.succ ?_)
 simp only[dI.f]
 obtain⟨g1,g2,g3⟩:=h e he
 unfold FunP
 refine .bind (abt _) (λr hr=>.tif hr (λh1=>?_) (λh1=>.one (.no λq=>h1 q.1)))
 refine .ite (λh2=>?_) (λh2=>.one (.no λq=>by have:=q.2.1.1;omega))
 refine .bind (acM _ g1) (λr hr=>.tif hr (λh3=>?_) (λh3=>.one (.no λq=>h3 q.2.1.2)))
 refine .ite (λh4=>?_) (λh4=>.one (.no λq=>by have:=q.2.2.1;omega))
 refine aiG (Q:=∀ i∈e.Code,ac3 i) (aa4 (.succ ?_)) ⟨λq=>⟨h1,⟨by omega,h3⟩,by omega,q⟩,λq=>q.2.2.2⟩
 simp only[cg.f]
 refine aat (.succ ?_)
 simp only[cm.f]
 refine aa1 _ g2 ac3 (λi hi=>.succ ?_)
 simp only[dc.f]
 exact acp (ano i)
def MemP(x:au):Prop:=0<=x.Min/\x.Min<=x.Max/\x.Max<=512
theorem aoY(l:List au)(hl:l.length<=4000000000000000000):Wp (λk=>cD.f k l) (Tell (∀ t∈l,MemP t)):=by
 refine .succ ?_
 simp only[cD.f]
 refine aa4 (.succ ?_)
 simp only[bW.f]
 refine aat (.succ ?_)
 simp only[cj.f]
 refine aa1 l hl MemP (λe he=>.succ ?_)
 simp only[da.f]
 refine acp (.succ ?_)
 simp only[cW.f]
 unfold MemP
 exact .ite (λh1=>.ite (λh2=>.one (.dec (by omega))) (λh2=>.one (.no (by omega)))) (λh1=>.one (.no (by omega)))
def GloP(x:ai):Prop:=adl x.fType/\(x.fType=127->x.Init<=4294967295)
theorem aph(l:List ai)(hl:l.length<=4000000000000000000):Wp (λk=>cB.f k l) (Tell (∀ t∈l,GloP t)):=by
 refine .succ ?_
 simp only[cB.f]
 refine aa4 (.succ ?_)
 simp only[bY.f]
 refine aat (.succ ?_)
 simp only[ct.f]
 refine aa1 l hl GloP (λe he=>.succ ?_)
 simp only[cY.f]
 refine acp (.succ ?_)
 simp only[cU.f]
 unfold GloP
 refine .bind (acM [e.fType] (by simp)) (λr hr=>.tif hr (λh1=>?_) (λh1=>.one (.no λq=>h1 (λx hx=>by rw[List.mem_singleton.1 hx];exact q.1))))
 have h1':=h1 e.fType (List.mem_singleton.2 rfl)
 exact .ite (λh2=>.one (.dec ⟨λq=>⟨h1',λ_=>q⟩,λq=>q.2 h2⟩)) (λh2=>.one (.yes ⟨h1',λq=>(h2 q).elim⟩))
def DatP(x:aA):Prop:=(x.Active=true->(0<=x.Mem/\x.Mem<4)/\0<=x.At/\x.At<=2147483647)/\(x.Active=false->x.Mem=0/\x.At=0)/\x.Bytes.length<=1048576
theorem apk(l:List aA)(hl:l.length<=4000000000000000000):Wp (λk=>cw.f k l) (Tell (∀ t∈l,DatP t)):=by
 refine .succ ?_
 simp only[cw.f]
 refine aa4 (.succ ?_)
 simp only[bZ.f]
 refine aat (.succ ?_)
 simp only[co.f]
 refine aa1 l hl DatP (λe he=>.succ ?_)
 simp only[cV.f]
 refine acp (.succ ?_)
 simp only[dN.f]
 unfold DatP
 obtain⟨ac,mem,at_,by_⟩:=e
 dsimp only
 cases ac with
 | true=>
  simp only[if_true,true_implies,Bool.true_eq_false,false_implies,true_and]
  refine .ite (λh1=>?_) (λh1=>?_) <;>
  exact .seg (Q:=Tell ((0<=mem/\mem<4)/\0<=at_/\at_<=2147483647)) (.bind (aaV _ _) (λr hr=>.tif hr (λh2=>.bind (abt _) (λr hr=>.left (hr.iff ⟨λq=>⟨h2,q⟩,λq=>q.2⟩))) (λh2=>.left (.no λq=>h2 q.1))))
   (λx hx=>.tif hx (λh2=>.one (.dec ⟨λq=>⟨h2,by omega⟩,λq=>by have:=q.2;omega⟩)) (λh2=>.one (.no λq=>h2 q.1)))
 | false=>
  simp only[Bool.false_eq_true,if_false,false_implies,true_implies,true_and]
  refine .ite (λh1=>?_) (λh1=>?_)
  ·exact .seg (Q:=Tell (at_=0)) (.left (.dec Iff.rfl)) (λx hx=>.tif hx (λh2=>.one (.dec ⟨λq=>⟨⟨h1,h2⟩,by omega⟩,λq=>by have:=q.2;omega⟩)) (λh2=>.one (.no λq=>h2 q.1.2)))
  ·exact .seg (Q:=Tell False) (.left (.no id)) (λx hx=>.tif hx (λh2=>h2.elim) (λh2=>.one (.no λq=>h1 q.1.1)))
def adz(m:an):Prop:=((∀ t∈m.Types,TypeP t)/\(∀ t∈m.Imports,ImpP t)/\(∀ t∈m.Funcs,FunP t)/\(∀ t∈m.Mems,MemP t)/\∀ t∈m.Globals,GloP t)/\adD m.Exports/\(∀ t∈m.Datas,DatP t)/\∀ t∈m.Customs,CusP t
def ad6(m:an):Prop:=(m.Types.length:Int)>64∨(iadd .i64 (m.Imports.length:Int) (m.Funcs.length:Int))>256∨(m.Mems.length:Int)>4∨(m.Globals.length:Int)>256∨(m.Datas.length:Int)>16∨(m.Exports.length:Int)>256∨(m.Customs.length:Int)>16
def RP(m:an)(r:Int):Prop:=(ad6 m/\r=13)∨(¬ad6 m/\adz m/\r=0)∨(¬ad6 m/\¬adz m/\r=12)
theorem RP.eq{m:an}{r s:Int}(h:RP m r)(k:RP m s):r=s:=by
 rcases h with⟨a,b⟩ | ⟨a,b,c⟩ | ⟨a,b,c⟩ <;> rcases k with⟨d,e⟩ | ⟨d,e,f⟩ | ⟨d,e,f⟩ <;> first | omega | exact(a d).elim | exact(d a).elim | exact(b e).elim | exact(e b).elim
theorem aoy(m:an):Wp (λk=>dC.f k m) (Tell (ad6 m)):=by
 refine .succ ?_
 simp only[dC.f]
 unfold ad6
 generalize iadd .i64 (m.Imports.length:Int) (m.Funcs.length:Int)=s
 exact .ite (λh=>.one (.yes (by omega))) (λh1=>.ite (λh=>.one (.yes (by omega))) (λh2=>.ite (λh=>.one (.yes (by omega))) (λh3=>.ite (λh=>.one (.yes (by omega))) (λh4=>.ite (λh=>.one (.yes (by omega))) (λh5=>.ite (λh=>.one (.yes (by omega))) (λh6=>.one (.dec (by omega))))))))
theorem ahr(m:an)(hm:Fit m):Wp (λk=>dr.f k m) (RP m):=by
 refine .succ ?_
 simp only[dr.f]
 refine .bind (aoy m) (λr hr=>.tif hr (λhF=>.one (.inl ⟨hF,rfl⟩)) (λhF=>?_))
 refine .seg (Q:=Tell (¬adz m)) ?_ (λx hx=>.tif hx (λh=>.one (.inr (.inr ⟨hF,h,rfl⟩))) (λh=>.one (.inr (.inl ⟨hF,Classical.not_not.1 h,rfl⟩))))
 refine .bind (apu _ hm.lt hm.ts) (λr hr=>.nif hr (λh=>.left (.yes λq=>h q.1.1)) (λh1=>?_))
 refine .bind (apv _ hm.li) (λr hr=>.nif hr (λh=>.left (.yes λq=>h q.1.2.1)) (λh2=>?_))
 refine .bind (agT _ hm.le) (λr hr=>.nif hr (λh=>.left (.yes λq=>h q.2.1)) (λh3=>?_))
 refine .bind (aoX _ hm.lc) (λr hr=>.nif hr (λh=>.left (.yes λq=>h q.2.2.2)) (λh4=>?_))
 refine .bind (aoV _ hm.lf hm.fs) (λr hr=>.nif hr (λh=>.left (.yes λq=>h q.1.2.2.1)) (λh5=>?_))
 refine .bind (aoY _ hm.lm) (λr hr=>.nif hr (λh=>.left (.yes λq=>h q.1.2.2.2.1)) (λh6=>?_))
 refine .bind (aph _ hm.lg) (λr hr=>.nif hr (λh=>.left (.yes λq=>h q.1.2.2.2.2)) (λh7=>?_))
 refine .bind (apk _ hm.ld) (λr hr=>.nif hr (λh=>.left (.yes λq=>h q.2.2.1)) (λh8=>.left (.no λq=>q ⟨⟨h1,h2,h5,h6,h7⟩,h3,h8,h4⟩)))
end Go.R4
namespace Go.R4
open Go.Proofs Go.Ev
set_option maxRecDepth 100000
theorem ak6(t:Int):Wp (λk=>dK.f k t) (Tell (adl t)):=by
 refine .succ ?_
 simp only[dK.f]
 unfold adl
 exact .ite (λh=>.one (.yes (by omega))) (λh=>.ite (λh=>.one (.yes (by omega))) (λh2=>.one (.dec (by omega))))
theorem afo(l:List Int)(n:Int)(hl:l.length<=4000000000000000000):Wp (λk=>bT.f k l n) (Tell ((l.length:Int)<=n/\∀ e∈l,adl e)):=by
 refine .succ ?_
 simp only[bT.f]
 refine .alt (aaS (O:=Unit) l hl adl (λ_ _=>True) (λj e he hm=>aaM he (.bind (ak6 _) (λr hr=>.nif hr (λh=>.one (.off h)) (λh=>.one (.on h)))))) (λ_ h=>.one (.dec ⟨λq=>⟨q,h⟩,λq=>q.1⟩)) (λ_ h=>.one (.no λq=>h.1 q.2))
theorem alO(m:an)(hm:Fit m):Wp (λk=>aQ.f k m) (Tell ((∀ t∈m.Types,TypeP t)/\(∀ t∈m.Imports,ImpP t)/\(∀ t∈m.Funcs,FunP t)/\(∀ t∈m.Mems,MemP t)/\∀ t∈m.Globals,GloP t)):=by
 refine .succ ?_
 simp only[aQ.f]
 refine .alt (aaS (O:=Unit) m.Types hm.lt TypeP (λ_ _=>True) (λj e he hi=>aaM he ?_)) (λ_ h1=>?_) (λ_ h=>.one (.no λq=>h.1 q.1))
 ·obtain⟨g1,g2⟩:=hm.ts e hi
  refine .bind (afo _ _ g1) (λr hr=>.nif hr (λh=>.one (.off λq=>h ⟨by have:=q.1.1;omega,q.1.2⟩)) (λh1=>.bind (afo _ _ g2) (λr hr=>.nif hr (λh=>.one (.off λq=>h ⟨by have:=q.2.1;omega,q.2.2⟩)) (λh2=>.one (.on ?_)))))
  exact⟨⟨by omega,h1.2⟩,by omega,h2.2⟩
 refine .alt (aaS (O:=Unit) m.Imports hm.li ImpP (λ_ _=>True) (λj e he hi=>aaM he ?_)) (λ_ h2=>?_) (λ_ h=>.one (.no λq=>h.1 q.2.1))
 ·refine .bind (adO _) (λr hr=>.nif hr (λh=>.one (.off λq=>h q.1)) (λh1=>.bind (adO _) (λr hr=>.nif hr (λh=>.one (.off λq=>h q.2.1)) (λh2=>.bind (agx _ _) (λr hr=>.nif hr (λh=>.one (.off λq=>h q.2.2)) (λh3=>.one (.on ⟨h1,h2,h3⟩)))))))
 refine .alt (aaS (O:=Unit) m.Funcs hm.lf FunP (λ_ _=>True) (λj e he hi=>aaM he ?_)) (λ_ h3=>?_) (λ_ h=>.one (.no λq=>h.1 q.2.2.1))
 ·obtain⟨g1,g2,g3⟩:=hm.fs e hi
  refine .bind (agx _ _) (λr hr=>.nif hr (λh=>.one (.off λq=>h q.1)) (λh1=>.bind (afo _ _ g1) (λr hr=>.nif hr (λh=>.one (.off λq=>h ⟨by have:=q.2.1.1;omega,q.2.1.2⟩)) (λh2=>?_))))
  refine .ite (λh=>.one (.off λq=>by have:=q.2.2.1;omega)) (λh3=>?_)
  refine .alt (aaS (O:=Unit) e.Code g2 ac3 (λ_ _=>True) (λj i he hi=>aaM he (.bind (aeu i (g3 i hi)) (λr hr=>.nif hr (λh=>.one (.off h)) (λh=>.one (.on h)))))) (λ_ h=>.one (.on ⟨h1,⟨by omega,h2.2⟩,by omega,h⟩)) (λ_ h=>.one (.off λq=>h.1 q.2.2.2))
 refine .alt (aaS (O:=Unit) m.Mems hm.lm MemP (λ_ _=>True) (λj e he hi=>aaM he ?_)) (λ_ h4=>?_) (λ_ h=>.one (.no λq=>h.1 q.2.2.2.1))
 ·exact .ite (λh=>.one (.off λq=>by have:=q.1;omega)) (λh1=>.ite (λh=>.one (.off λq=>by have:=q.2.1;omega)) (λh2=>.ite (λh=>.one (.off λq=>by have:=q.2.2;omega)) (λh3=>.one (.on ⟨by omega,by omega,by omega⟩))))
 refine .alt (aaS (O:=Unit) m.Globals hm.lg GloP (λ_ _=>True) (λj e he hi=>?_)) (λ_ h5=>.one (.yes ⟨h1,h2,h3,h4,h5⟩)) (λ_ h=>.one (.no λq=>h.1 q.2.2.2.2))
 refine .seg (Q:=λ_=>GloP e) (aaM he (.bind (ak6 _) (λr hr=>.nif hr (λh=>.right (.off λq=>h q.1)) (λh1=>.ite (λh2=>.ite (λh3=>.right (.off λq=>by have:=q.2 h2;omega)) (λh3=>.left ⟨h1,λ_=>by omega⟩)) (λh2=>.left ⟨h1,λq=>(h2 q).elim⟩))))) (λ_ h=>.one (.on h))
theorem anr(m:an)(hm:Fit m):Wp (λk=>bD.f k m) (Tell (adD m.Exports/\(∀ t∈m.Datas,DatP t)/\∀ t∈m.Customs,CusP t)):=by
 refine .succ ?_
 simp only[bD.f]
 refine .alt (aiH (O:=Unit) m.Exports hm.le (λj e=>ExpP m.Exports j e) (λ_ _=>True) (λj e he _=>aaM he ?_)) (λ_ h1=>?_) (λ_ h=>.one (.no λq=>h.1 q.1))
 ·refine .seg (Q:=λ_=>afp e.Name/\(0<=e.Index/\e.Index<=2147483647)/\(e.Kind=0∨e.Kind=2∨e.Kind=3)) ?_ (λ_ h=>?_)
  ·exact .bind (adO _) (λr hr=>.nif hr (λh=>.right (.off λq=>h q.1)) (λh1=>.bind (agx _ _) (λr hr=>.nif hr (λh=>.right (.off λq=>h q.2.1)) (λh2=>.ite (λh=>.left ⟨h1,h2,.inl h⟩) (λh3=>.ite (λh=>.left ⟨h1,h2,.inr (.inl h)⟩) (λh4=>.ite (λh=>.left ⟨h1,h2,.inr (.inr h)⟩) (λh5=>.right (.off λq=>by have:=q.2.2.1;omega))))))))
  ·have hj:=(List.getElem?_eq_some_iff.1 he).1
   have:=hm.le
   refine .alt (Q:=λ_=>∀ (i:Nat) x,i<j->m.Exports[i]?=some x->x.Name≠e.Name) (Q2:=λ_=>¬∀ (i:Nat) x,i<j->m.Exports[i]?=some x->x.Name≠e.Name)
    (.loop (λ(n:Nat) (i:Int)=>0<=i/\i+(n:Int)=j/\∀ (a:Nat) x,a<i.toNat->m.Exports[a]?=some x->x.Name≠e.Name) (λn i hi=>?_) (n:=j) ⟨by omega,by omega,λa x h=>by simp at h⟩) (λ_ h2=>.one (.on ⟨h.1,h.2.1,h.2.2,h2⟩)) (λ_ h2=>.one (.off λq=>h2 q.2.2.2))
   obtain⟨i1,i2,i3⟩:=hi
   simp only[bD.b7]
   refine .ite (λhlt=>.bind (.idx i1 (by omega)) (λy hy=>.ite (λhs=>.right ?_) (λhs=>.left ?_))) (λhge=>.right ?_)
   ·exact λq=>q i.toNat y (by omega) hy ((ab8 _ _).1 hs)
   ·refine⟨n-1,by omega,?_⟩
    rw[aai (by omega) (by omega)]
    refine⟨by omega,by omega,λa x ha hx=>?_⟩
    by_cases c:a<i.toNat
    ·exact i3 a x c hx
    ·have:a=i.toNat:=by omega
     subst this
     rw[hy]at hx;cases hx
     exact λq=>hs ((ab8 _ _).2 q)
   ·exact λa x ha hx=>i3 a x (by omega) hx
 refine .alt (aaS (O:=Unit) m.Datas hm.ld DatP (λ_ _=>True) (λj e he hi=>?_)) (λ_ h2=>?_) (λ_ h=>.one (.no λq=>h.1 q.2.1))
 ·refine .seg (Q:=λ_=>DatP e) (aaM he ?_) (λ_ h=>.one (.on h))
  unfold DatP
  obtain⟨ac,mem,at_,by_⟩:=e
  dsimp only
  cases ac with
  | true=>
   simp only[if_true,Bool.not_true,Bool.false_eq_true,if_false,true_implies,Bool.true_eq_false,false_implies,true_and]
   exact .bind (agx _ _) (λr hr=>.nif hr (λh=>.right (.off λq=>h ⟨q.1.1.1,by have:=q.1.1.2;omega⟩)) (λh1=>.bind (agx _ _) (λr hr=>.nif hr (λh=>.right (.off λq=>h q.1.2)) (λh2=>.ite (λh=>.right (.off λq=>by have:=q.2;omega)) (λh3=>.left ⟨⟨⟨h1.1,by omega⟩,h2⟩,by omega⟩)))))
  | false=>
   simp only[Bool.not_false,Bool.false_eq_true,if_false,if_true,false_implies,true_implies,true_and]
   exact .ite (λh1=>.ite (λh2=>.ite (λh=>.right (.off λq=>by have:=q.2;omega)) (λh3=>.left ⟨⟨h1,h2⟩,by omega⟩)) (λh2=>.right (.off λq=>h2 q.1.2))) (λh1=>.right (.off λq=>h1 q.1.1))
 refine .alt (aaS (O:=Unit) m.Customs hm.lc CusP (λ_ _=>True) (λj e he hi=>aaM he ?_)) (λ_ h3=>.one (.yes ⟨h1,h2,h3⟩)) (λ_ h=>.one (.no λq=>h.1 q.2.2))
 exact .bind (adO _) (λr hr=>.nif hr (λh=>.one (.off λq=>h q.1)) (λh1=>.ite (λh=>.one (.off λq=>by have:=q.2;omega)) (λh2=>.one (.on ⟨h1,by omega⟩))))
theorem akq(m:an)(hm:Fit m):Wp (λk=>dT.f k m) (RP m):=by
 refine .succ ?_
 simp only[dT.f]
 have hF:ad6 m↔((m.Types.length:Int)>64∨(iadd .i64 (m.Imports.length:Int) (m.Funcs.length:Int))>256∨(m.Mems.length:Int)>4∨(m.Globals.length:Int)>256∨(m.Datas.length:Int)>16∨(m.Exports.length:Int)>256∨(m.Customs.length:Int)>16):=Iff.rfl
 revert hF
 generalize iadd .i64 (m.Imports.length:Int) (m.Funcs.length:Int)=s
 intro hF
 refine .ite (λh=>.one (.inl ⟨hF.2 (by omega),rfl⟩)) (λh1=>.ite (λh=>.one (.inl ⟨hF.2 (by omega),rfl⟩)) (λh2=>.ite (λh=>.one (.inl ⟨hF.2 (by omega),rfl⟩)) (λh3=>.ite (λh=>.one (.inl ⟨hF.2 (by omega),rfl⟩)) (λh4=>.ite (λh=>.one (.inl ⟨hF.2 (by omega),rfl⟩)) (λh5=>.ite (λh=>.one (.inl ⟨hF.2 (by omega),rfl⟩)) (λh6=>.ite (λh=>.one (.inl ⟨hF.2 (by omega),rfl⟩)) (λh7=>?_)))))))
 have hN:¬ad6 m:=λq=>by have:=hF.1 q;omega
 exact .bind (alO m hm) (λr hr=>.nif hr (λh=>.one (.inr (.inr ⟨hN,λq=>h q.1,rfl⟩))) (λh1=>.bind (anr m hm) (λr hr=>.nif hr (λh=>.one (.inr (.inr ⟨hN,λq=>h q.2,rfl⟩))) (λh2=>.one (.inr (.inl ⟨hN,⟨h1,h2⟩,rfl⟩))))))
end Go.R4
