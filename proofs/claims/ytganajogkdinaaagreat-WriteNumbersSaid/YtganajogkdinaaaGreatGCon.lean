import Derived.Test.YtganajogkdinaaaGreatEvPl
set_option linter.all false
namespace Go.Ev
set_option maxRecDepth 100000
def Tell(Q:Prop)(r:Bool):Prop:=r=true↔Q
theorem Tell.dec{Q:Prop}{c:Prop}[Decidable c](h:c↔Q):Tell Q (decide c):=by simp only[Tell,decide_eq_true_iff];exact h
theorem Tell.yes{Q:Prop}(h:Q):Tell Q true:=⟨λ_=>h,λ_=>rfl⟩
theorem Tell.no{Q:Prop}(h:¬Q):Tell Q false:=⟨λe=>(by cases e),λq=>(h q).elim⟩
theorem Tell.not{Q:Prop}{r:Bool}(h:Tell Q r):Tell (¬Q) (!r):=by cases r <;> simp_all[Tell]
theorem Tell.iff{Q R:Prop}{r:Bool}(h:Tell Q r)(e:Q↔R):Tell R r:=Iff.trans h e
theorem Tell.eq{Q:Prop}{r s:Bool}(h:Tell Q r)(k:Tell Q s):r=s:=Bool.eq_iff_iff.2 (Iff.trans h k.symm)
theorem Tell.true{Q:Prop}{r:Bool}(h:Tell Q r)(q:Q):r=Bool.true:=h.2 q
theorem aiG{F:Nat->Option Bool}{Q R:Prop}(h:Wp F (Tell Q))(e:Q↔R):Wp F (Tell R):=h.mono λ_ q=>q.iff e
theorem agJ{F:Nat->Option Bool}{Q:Prop}(h:Wp F (Tell Q)):Wp (λk=>(F k).bind λr=>some r) (Tell Q):=.bind h (λ_ q=>.one q)
theorem acp{F:Nat->Option Bool}{Q:Prop}(h:Wp F (Tell Q)):Wp (λk=>(F k).bind λr=>some (!r)) (Tell (¬Q)):=.bind h (λ_ q=>.one q.not)
theorem aa4{F:Nat->Option Bool}{Q:Prop}(h:Wp F (Tell (¬Q))):Wp (λk=>(F k).bind λr=>some (!r)) (Tell Q):=aiG (acp h) (by simp)
section
variable{α:Type}{P:α->Prop}{F G:Nat->Option α}{Q:Prop}{r:Bool}
theorem Wp.tif(hr:Tell Q r)(h1:Q->Wp F P)(h2:¬Q->Wp G P):Wp (λk=>if r=true then F k else G k) P:=
 .ite (λh=>h1 (hr.1 h)) (λh=>h2 (λq=>h (hr.2 q)))
theorem Wp.nif(hr:Tell Q r)(h1:¬Q->Wp F P)(h2:Q->Wp G P):Wp (λk=>if(!r)=true then F k else G k) P:=
 .ite (λh=>h1 (λq=>by rw[hr.2 q]at h;cases h)) (λh=>h2 (hr.1 (by cases r <;> simp_all)))
end
def Step{O:Type}(q:Prop)(i:Int)(P2:O->Prop)(r:Int⊕(Unit⊕O)):Prop:=(q/\r = .inl (iadd .i64 i 1))∨(¬q/\∃ o,P2 o/\r = .inr (.inr o))
theorem Step.on{O:Type}{q:Prop}{i:Int}{P2:O->Prop}(h:q):Step q i P2 (.inl (iadd .i64 i 1)):=.inl ⟨h,rfl⟩
theorem Step.off{q:Prop}{i:Int}(h:¬q):Step q i (λ_:Unit=>True) (.inr (.inr ())):=.inr ⟨h,(),trivial,rfl⟩
theorem aiH{α:Type}{O:Type}(l:List α)(hl:l.length<=4000000000000000000)(q:Nat->α->Prop)(P2:Int->O->Prop){B:Nat->Int->Option (Int⊕(Unit⊕O))}
  (hB:∀ (i:Nat) e,l[i]?=some e->(∀ (j:Nat) x,j<i->l[j]?=some x->q j x)->Wp (λk=>B k (i:Int)) (Step (q i e) i (P2 i))) :
  Wp (λk=>loopS (λx:Int=>if x<(l.length:Int)then B k x else some (.inr (.inl ()))) k (0:Int)) (aaJ (λ_=>∀ (j:Nat) x,l[j]?=some x->q j x) (λo=>(¬∀ (j:Nat) x,l[j]?=some x->q j x)/\∃ i:Nat,P2 i o)):=by
 refine .loop (λ(n:Nat) (i:Int)=>0<=i/\i+(n:Int)=l.length/\∀ (j:Nat) x,j<i.toNat->l[j]?=some x->q j x) (λn i hi=>?_) (n:=l.length) ⟨by omega,by omega,λj x h=>by simp at h⟩
 obtain⟨h1,h2,h3⟩:=hi
 refine .ite (λhlt=>?_) (λhge=>.right ?_)
 ·have he:l[i.toNat]?=some (l[i.toNat]'(by omega)):=List.getElem?_eq_getElem _
  have hw:=hB i.toNat _ he h3
  have ei:((i.toNat:Nat):Int)=i:=by omega
  rw[ei]at hw
  refine hw.mono λr hr=>?_
  rcases hr with⟨hq,rfl⟩ | ⟨hq,o,ho,rfl⟩
  ·refine⟨n-1,by omega,?_⟩
   rw[aai (by omega) (by omega)]
   refine⟨by omega,by omega,λj x hj hx=>?_⟩
   by_cases hji:j<i.toNat
   ·exact h3 j x hji hx
   ·have:j=i.toNat:=by omega
    subst this
    rw[he]at hx;cases hx
    exact hq
  ·exact⟨λhall=>hq (hall _ _ he),i.toNat,by rw[ei];exact ho⟩
 ·intro j x hx
  have:=(List.getElem?_eq_some_iff.1 hx).1
  exact h3 j x (by omega) hx
theorem aaS{α:Type}{O:Type}(l:List α)(hl:l.length<=4000000000000000000)(q:α->Prop)(P2:Int->O->Prop){B:Nat->Int->Option (Int⊕(Unit⊕O))}
  (hB:∀ (i:Nat) e,l[i]?=some e->e∈l->Wp (λk=>B k (i:Int)) (Step (q e) i (P2 i))) :
  Wp (λk=>loopS (λx:Int=>if x<(l.length:Int)then B k x else some (.inr (.inl ()))) k (0:Int)) (aaJ (λ_=>∀ e∈l,q e) (λo=>(¬∀ e∈l,q e)/\∃ i:Nat,P2 i o)):=by
 have e1:(∀ (j:Nat) x,l[j]?=some x->q x) ↔ ∀ e∈l,q e:=⟨λh e he=>by obtain⟨j,hj⟩:=List.getElem?_of_mem he;exact h j e hj,λh j x hx=>h x (List.mem_of_getElem? hx)⟩
 refine(aiH l hl (λ_=>q) P2 (λi e he _=>hB i e he (List.mem_of_getElem? he))).mono λr hr=>?_
 rcases r with u | o
 ·exact e1.1 hr
 ·exact⟨λh=>hr.1 (e1.2 h),hr.2⟩
theorem aaM{α β:Type}{l:List α}{i:Nat}{e:α}(h:l[i]?=some e){f:Nat->α->Option β}{P:β->Prop}(hf:Wp (λk=>f k e) P):Wp (λk=>(at? l (i:Int)).bind (f k)) P:=by
 simp only[at?_nat,h,Option.bind_some];exact hf
theorem aa1{α:Type}(l:List α)(hl:l.length<=4000000000000000000)(good:α->Prop){g:Nat->α->Option Bool}(hg:∀ e∈l,Wp (λk=>g k e) (Tell (¬good e))) :
  Wp (λk=>altB (loopS (λx:Int=>if x<(l.length:Int)then(at? l x).bind (λe=>(g k e).bind λr=>if r=true then some (.inr (.inr x))else some (.inl (iadd .i64 x 1)))else some (.inr (.inl ()):Int⊕(Unit⊕Int))) k (0:Int)) (λ_=>some (-1:Int)) (λx=>some x)) (λr=>0<=r ↔ ¬∀ e∈l,good e):=by
 refine .alt (aaS (O:=Int) l hl good (λi o=>o=i) (λi e he hm=>aaM he (.bind (hg e hm) (λr hr=>.tif hr (λh=>.one (.inr ⟨h,_,rfl,rfl⟩)) (λh=>.one (.on (Classical.not_not.1 h))))))) (λ_ h=>.one ?_) (λo h=>.one ?_)
 ·exact⟨λq=>by omega,λq=>(q h).elim⟩
 ·obtain⟨h1,i,rfl⟩:=h
  exact⟨λ_=>h1,λ_=>by omega⟩
theorem aat{F:Nat->Option Int}{A:Prop}(h:Wp F (λr=>0<=r ↔ ¬A)):Wp (λk=>(F k).bind λr=>some (decide (r≥0))) (Tell (¬A)):=.bind h (λ_ q=>.one (.dec q))
end Go.Ev
