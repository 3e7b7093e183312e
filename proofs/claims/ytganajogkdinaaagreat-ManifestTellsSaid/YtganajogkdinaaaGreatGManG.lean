import Derived.Test.YtganajogkdinaaaGreatGManF
import Derived.KernelRfl
set_option linter.all false
namespace Go.R4
open Go.Proofs Go.Ev
set_option maxRecDepth 100000
namespace Mn
theorem adC{l:List aa}(hl:l.length<=4000000000000000000):Wp (λk=>bk.f k l l) (· = true):=by
 refine .succ ?_
 simp only[bk.f]
 refine .pos trivial (.alt (Q:=λ_=>True) (Q2:=λ_=>False) ?_ (λ_ _=>.one rfl) (λ_ h=>h.elim))
 refine .loop (λ(n:Nat) (x:Int)=>0<=x/\x+(n:Int)=l.length) (λn x hv=>?_) (n:=l.length) ⟨by omega,by omega⟩
 obtain⟨h1,h2⟩:=hv
 simp only[bk.b4]
 refine .ite (λhlt=>.bind (.idx h1 hlt) (λy hy=>.bind (.idx h1 hlt) (λz hz=>.neg ?_ (.left ⟨n-1,by omega,?_⟩)))) (λ_=>.right trivial)
 ·rw[hy]at hz;cases hz
  have:aaD y.Name y.Name=true:=(aaT _ _).2 rfl
  simp[this]
 ·rw[aah (by omega) (by omega)];omega
theorem aii{p:ah}(h:FitP p):Wp (λk=>bP.f k p p) (· = true):=by
 refine .succ ?_
 simp only[bP.f]
 have ht:=h.t
 refine .pos trivial (.alt (Q:=λ_=>True) (Q2:=λ_=>False) ?_ (λ_ _=>?_) (λ_ h=>h.elim))
 ·refine .loop (λ(n:Nat) (x:Int)=>0<=x/\x+(n:Int)=p.Types.length) (λn x hv=>?_) (n:=p.Types.length) ⟨by omega,by omega⟩
  obtain⟨h1,h2⟩:=hv
  simp only[bP.b4]
  refine .ite (λhlt=>.bind (.idx h1 hlt) (λy hy=>.bind (.idx h1 hlt) (λz hz=>?_))) (λ_=>.right trivial)
  rw[hy]at hz;cases hz
  refine .bind (agy _ _ (h.ts y (List.mem_of_getElem? hy))) (λr hr=>.nif hr (λq=>(q ⟨rfl,rfl⟩).elim) (λ_=>.left ⟨n-1,by omega,?_⟩))
  rw[aah (by omega) (by omega)];omega
 ·have sm:∀ {l:List Int},l.length<=4000000000000000000->Wp (λk=>aY.f k l l) (· = true):=λhl=>(al8 _ _ hl).mono λr hr=>by simp[hr]
  refine .bind (alS p.Module p.Module h.m) (λr hr=>.pos (hr.2 (ag6 _)) ?_)
  refine .bind (sm h.s) (λr hr=>.pos hr ?_)
  refine .bind (sm h.b) (λr hr=>.pos hr ?_)
  refine .bind (sm h.z) (λr hr=>.pos hr ?_)
  refine .bind (sm h.g) (λr hr=>.pos hr ?_)
  refine .bind (adC h.n) (λr hr=>.pos hr ?_)
  refine .bind (adC h.h) (λr hr=>.pos hr ?_)
  exact .pos trivial (.pos trivial (.one (by simp)))
theorem aoO{p:ah}(hf:FitP p)(hn:Nums p)(h:¬RPl p):Wp (λk=>cr.f k p) (λr=>r.2=12):=by
 refine .succ ?_
 simp only[cr.f]
 refine .bind (acY hf hn) (λr hr=>?_)
 rcases hr with⟨q,_⟩ | ⟨_,rfl⟩
 ·exact(h q).elim
 ·exact .neg (by decide) (.one rfl)
theorem akI{p:ah}(hf:FitP p)(hn:Nums p):Wp (λk=>dt.f k p) (· = true):=by
 refine .succ ?_
 simp only[dt.f]
 refine .bind (ad9 hf) (λr1 hr1=>.bind (acY hf hn) (λr2 hr2=>?_))
 rcases hr2 with⟨q,rfl⟩ | ⟨q,rfl⟩
 ·have e1:r1=true:=hr1.2 q
  subst e1
  refine .seg (Q:=λ_=>True) (.bind (aek hf hn) (λr3 hr3=>?_)) (λ_ _=>?_)
  ·have e3:r3=true:=hr3.2 q
   subst e3
   refine .neg (by simp) (.pos rfl (.pos rfl (.bind (ad3 q) (λr4 hr4=>?_))))
   subst hr4
   have:aaD (strOf (planE p)) (strOf (planE p))=true:=(aaT _ _).2 rfl
   exact .neg (by simp[this]) (.neg (by simp) (.left trivial))
  ·refine .neg (by simp) (.bind (aju hf.m q) (λr5 hr5=>?_))
   subst hr5
   exact .pos rfl (.bind (aii hf) (λr6 hr6=>.pos hr6 (.one (by simp[q.x]))))
 ·have e1:r1=false:=by
   cases r1 with
   | false=>rfl
   | true=>exact(q (hr1.1 rfl)).elim
  subst e1
  refine .seg (Q:=λ_=>True) (.bind (aek hf hn) (λr3 hr3=>?_)) (λ_ _=>?_)
  ·have e3:r3=false:=by
    cases r3 with
    | false=>rfl
    | true=>exact(q (hr3.1 rfl)).elim
   subst e3
   exact .neg (by simp) (.neg (by simp) (.pos (by simp) (.pos rfl (.pos rfl (.left trivial)))))
  ·refine .pos (by simp) (.bind (aoO hf hn q) (λr5 hr5=>.one ?_))
   simp[hr5]
theorem anM(j:Nat):cR.f (j+80)=some true:=by kernel_rfl
theorem known_wp:Wp (λk=>cR.f k) (· = true):=by
 refine .at_ 80 (λk hk=>?_) rfl
 obtain⟨k,rfl⟩:∃ j,k=j+80:=⟨k-80,by omega⟩
 exact anM k
end Mn
end Go.R4
