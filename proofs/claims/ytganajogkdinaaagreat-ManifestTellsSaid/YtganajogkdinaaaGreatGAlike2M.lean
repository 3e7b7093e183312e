import Derived.Test.YtganajogkdinaaaGreatGRight2M
set_option linter.all false
namespace Go.R4
open Go.Proofs Go.Ev
set_option maxRecDepth 100000
theorem ao9(a b:List Int)(hb:a.length<=4000000000000000000):Wp (λk=>if(a.length:Int)=(b.length:Int)then altB (loopS (λx:Int=>if x<(a.length:Int)then(at? a x).bind λe54=>((at? b x).bind λe56=>(if e54=e56 then(some (.inl (iadd .i64 x 1)))else(some (.inr (.inr ()):Int⊕(Unit⊕Unit)))))else some (.inr (.inl ()))) k (0:Int)) (λ_=>some true) (λ_=>some false)else some false) (Tell (a=b)):=by
 refine ag4 (ahD a b hb (λx y=>x=y) (λi x y hx hy _=>aal hx (aal hy (.ite (λh=>.one (.on h)) (λh=>.one (.off h)))))) ⟨λh=>?_,λh=>?_⟩
 ·refine List.ext_getElem? λi=>?_
  by_cases c:i<a.length
  ·have h1:a[i]?=some (a[i]'c):=List.getElem?_eq_getElem _
   have h2:b[i]?=some (b[i]'(by rw[<-h.1];exact c)):=List.getElem?_eq_getElem _
   rw[h1,h2,h.2 i _ _ h1 h2]
  ·rw[List.getElem?_eq_none (by omega),List.getElem?_eq_none (by rw[<-h.1];omega)]
 ·subst h;exact aaL λ_ _=>rfl
theorem adV(a b:List Int)(hb:a.length<=4000000000000000000):Wp (λk=>bW.f k a b) (Tell (a=b)):=by
 refine .succ ?_
 simp only[bW.f]
 exact ao9 a b hb
def sT(x y:ab):Prop:=x.Params=y.Params/\x.Results=y.Results
def sI(x y:ag):Prop:=x.Module=y.Module/\x.Name=y.Name/\x.fType=y.fType
def sN(x y:aj):Prop:=x.Op=y.Op/\x.A=y.A/\x.B=y.B/\x.N=y.N/\x.L=y.L
def sF(x y:ai):Prop:=x.fType=y.fType/\x.Locals=y.Locals/\Ev.Alike sN x.Code y.Code
def sM(x y:au):Prop:=x.Min=y.Min/\x.Max=y.Max
def sG(x y:af):Prop:=x.fType=y.fType/\x.Var=y.Var/\x.Init=y.Init
def sE(x y:aa):Prop:=x.Name=y.Name/\x.Kind=y.Kind/\x.Index=y.Index
def sD(x y:aA):Prop:=x.Active=y.Active/\x.Mem=y.Mem/\x.At=y.At/\aaD (strOf x.Bytes) (strOf y.Bytes)=true
def sC(x y:am):Prop:=x.Name=y.Name/\aaD (strOf x.Bytes) (strOf y.Bytes)=true
theorem tI(x y:ag):Tell (sI x y) ((aaD x.Module y.Module)&&((aaD x.Name y.Name)&&((x.fType == y.fType)&&true))):=by simp[Tell,sI,aaT]
theorem tM(x y:au):Tell (sM x y) ((x.Min == y.Min)&&((x.Max == y.Max)&&true)):=by simp[Tell,sM]
theorem tG(x y:af):Tell (sG x y) ((x.fType == y.fType)&&((x.Var == y.Var)&&((x.Init == y.Init)&&true))):=by simp[Tell,sG]
theorem tE(x y:aa):Tell (sE x y) ((aaD x.Name y.Name)&&((x.Kind == y.Kind)&&((x.Index == y.Index)&&true))):=by simp[Tell,sE,aaT]
theorem aoJ{F:Nat->Option Bool}{Q:Prop}{i:Int}(h:Wp F (Tell Q)):Wp (λk=>(F k).bind λr=>if(!r)=true then some (.inr (.inr ()))else some (.inl (iadd .i64 i 1):Int⊕(Unit⊕Unit))) (Step Q i (λ_=>True)):=
 .bind h (λ_ hr=>.nif hr (λh=>.one (.off h)) (λh=>.one (.on h)))
theorem st_n{r:Bool}{Q:Prop}{i:Int}(hr:Tell Q r):Wp (λ_=>if(!r)=true then some (.inr (.inr ()))else some (.inl (iadd .i64 i 1):Int⊕(Unit⊕Unit))) (Step Q i (λ_=>True)):=.nif hr (λh=>.one (.off h)) (λh=>.one (.on h))
def ajt(a b:ak):Prop:=Ev.Alike sT a.Types b.Types/\Ev.Alike sI a.Imports b.Imports/\Ev.Alike sF a.Funcs b.Funcs/\Ev.Alike sM a.Mems b.Mems/\Ev.Alike sG a.Globals b.Globals/\Ev.Alike sE a.Exports b.Exports/\Ev.Alike sD a.Datas b.Datas/\Ev.Alike sC a.Customs b.Customs
theorem ag6(m:ak):ajt m m:=
 ⟨aaL λ_ _=>⟨rfl,rfl⟩,aaL λ_ _=>⟨rfl,rfl,rfl⟩,aaL λ_ _=>⟨rfl,rfl,aaL λ_ _=>⟨rfl,rfl,rfl,rfl,rfl⟩⟩,aaL λ_ _=>⟨rfl,rfl⟩,aaL λ_ _=>⟨rfl,rfl,rfl⟩,aaL λ_ _=>⟨rfl,rfl,rfl⟩,aaL λ_ _=>⟨rfl,rfl,rfl,(aaT _ _).2 rfl⟩,aaL λ_ _=>⟨rfl,(aaT _ _).2 rfl⟩⟩
end Go.R4
namespace Go.R4
open Go.Proofs Go.Ev
set_option maxRecDepth 100000
theorem agy(x y:ab)(h:FitT x):Wp (λk=>du.f k x y) (Tell (sT x y)):=by
 refine .succ ?_
 simp only[du.f]
 unfold sT
 exact .bind (adV _ _ h.1) (λr hr=>.tif hr (λh1=>.bind (adV _ _ h.2) (λr hr=>.one (hr.iff ⟨λq=>⟨h1,q⟩,λq=>q.2⟩))) (λh1=>.one (.no λq=>h1 q.1)))
theorem ajk(a b:List aj)(hl:a.length<=4000000000000000000)(h:∀ i∈a,i.L.length<=4000000000000000000):Wp (λk=>dr.f k a b) (Tell (Ev.Alike sN a b)):=by
 refine .succ ?_
 simp only[dr.f]
 refine ahD a b hl sN (λi x y hx hy hm=>aal hx (aal hy (.ite (λh1=>?_) (λh1=>.one (.off λq=>h1 q.1)))))
 refine aal hx (aal hy (.ite (λh2=>?_) (λh1=>.one (.off λq=>h1 q.2.1))))
 refine aal hx (aal hy (.ite (λh3=>?_) (λh1=>.one (.off λq=>h1 q.2.2.1))))
 refine aal hx (aal hy (.ite (λh4=>?_) (λh1=>.one (.off λq=>h1 q.2.2.2.1))))
 refine aal hx (aal hy (.bind (adV _ _ (h x hm)) (λr hr=>.nif hr (λh5=>.one (.off λq=>h5 q.2.2.2.2)) (λh5=>.one (.on ⟨h1,h2,h3,h4,h5⟩)))))
theorem alu(a b:ak)(ha:Fit a)(l4:a.Mems.length=b.Mems.length)(l5:a.Globals.length=b.Globals.length)(l6:a.Exports.length=b.Exports.length)(l7:a.Datas.length=b.Datas.length)(l8:a.Customs.length=b.Customs.length) :
  Wp (λk=>aO.f k a b) (Tell (Ev.Alike sM a.Mems b.Mems/\Ev.Alike sG a.Globals b.Globals/\Ev.Alike sE a.Exports b.Exports/\Ev.Alike sD a.Datas b.Datas/\Ev.Alike sC a.Customs b.Customs)):=by
 refine .succ ?_
 simp only[aO.f]
 refine .alt (abu _ _ ha.lm sM (λi x y hx hy hm=>aal hx (aal hy (st_n (tM x y)))) l4) (λ_ h4=>?_) (λ_ h=>.one (.no λq=>h q.1.2))
 refine .alt (abu _ _ ha.lg sG (λi x y hx hy hm=>aal hx (aal hy (st_n (tG x y)))) l5) (λ_ h5=>?_) (λ_ h=>.one (.no λq=>h q.2.1.2))
 refine .alt (abu _ _ ha.le sE (λi x y hx hy hm=>aal hx (aal hy (st_n (tE x y)))) l6) (λ_ h6=>?_) (λ_ h=>.one (.no λq=>h q.2.2.1.2))
 refine .alt (abu _ _ ha.ld sD (λi x y hx hy hm=>aal hx (aal hy ?_)) l7) (λ_ h7=>?_) (λ_ h=>.one (.no λq=>h q.2.2.2.1.2))
 ·refine .nif (Q:=x.Active=y.Active) (by simp[Tell]) (λh=>.one (.off λq=>h q.1)) (λh1=>.ite (λh2=>.ite (λh3=>.nif (Q:=aaD (strOf x.Bytes) (strOf y.Bytes)=true) Iff.rfl (λh=>.one (.off λq=>h q.2.2.2)) (λh4=>.one (.on ⟨h1,h2,h3,h4⟩))) (λh=>.one (.off λq=>h q.2.2.1))) (λh=>.one (.off λq=>h q.2.1)))
 refine .alt (abu _ _ ha.lc sC (λi x y hx hy hm=>aal hx (aal hy ?_)) l8) (λ_ h8=>.one (.yes ⟨⟨l4,h4⟩,⟨l5,h5⟩,⟨l6,h6⟩,⟨l7,h7⟩,l8,h8⟩)) (λ_ h=>.one (.no λq=>h q.2.2.2.2.2))
 refine .nif (Q:=x.Name=y.Name) (aaT _ _) (λh=>.one (.off λq=>h q.1)) (λh1=>aal hx (aal hy (.nif (Q:=aaD (strOf x.Bytes) (strOf y.Bytes)=true) Iff.rfl (λh=>.one (.off λq=>h q.2)) (λh4=>.one (.on ⟨h1,h4⟩)))))
theorem alS(a b:ak)(ha:Fit a):Wp (λk=>cJ.f k a b) (Tell (ajt a b)):=by
 refine .succ ?_
 simp only[cJ.f]
 unfold ajt
 refine .ite (λl1=>.ite (λl2=>.ite (λl3=>.ite (λl4=>.ite (λl5=>.ite (λl6=>.ite (λl7=>.ite (λl8=>?_) (λh=>.one (.no λq=>h (by rw[q.2.2.2.2.2.2.2.1])))) (λh=>.one (.no λq=>h (by rw[q.2.2.2.2.2.2.1.1])))) (λh=>.one (.no λq=>h (by rw[q.2.2.2.2.2.1.1])))) (λh=>.one (.no λq=>h (by rw[q.2.2.2.2.1.1])))) (λh=>.one (.no λq=>h (by rw[q.2.2.2.1.1])))) (λh=>.one (.no λq=>h (by rw[q.2.2.1.1])))) (λh=>.one (.no λq=>h (by rw[q.2.1.1])))) (λh=>.one (.no λq=>h (by rw[q.1.1])))
 refine .alt (abu _ _ ha.lt sT (λi x y hx hy hm=>aal hx (aal hy (aoJ (agy x y (ha.ts x hm))))) (by omega)) (λ_ h1=>?_) (λ_ h=>.one (.no λq=>h q.1.2))
 refine .alt (abu _ _ ha.li sI (λi x y hx hy hm=>aal hx (aal hy (st_n (tI x y)))) (by omega)) (λ_ h2=>?_) (λ_ h=>.one (.no λq=>h q.2.1.2))
 refine .alt (abu _ _ ha.lf sF (λi x y hx hy hm=>aal hx (aal hy ?_)) (by omega)) (λ_ h3=>?_) (λ_ h=>.one (.no λq=>h q.2.2.1.2))
 ·obtain⟨g1,g2,g3⟩:=ha.fs x hm
  refine .ite (λe1=>?_) (λh=>.one (.off λq=>h q.1))
  refine aal hx (aal hy (.bind (adV _ _ g1) (λr hr=>.nif hr (λh=>.one (.off λq=>h q.2.1)) (λe2=>?_))))
  exact aal hx (aal hy (.bind (ajk _ _ g2 g3) (λr hr=>.nif hr (λh=>.one (.off λq=>h q.2.2)) (λe3=>.one (.on ⟨e1,e2,e3⟩)))))
 exact .bind (alu a b ha (by omega) (by omega) (by omega) (by omega) (by omega)) (λr hr=>.one (hr.iff ⟨λq=>⟨⟨by omega,h1⟩,⟨by omega,h2⟩,⟨by omega,h3⟩,q⟩,λq=>q.2.2.2⟩))
end Go.R4
