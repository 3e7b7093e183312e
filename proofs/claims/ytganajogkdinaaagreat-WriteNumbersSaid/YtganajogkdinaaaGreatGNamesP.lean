import Derived.Test.YtganajogkdinaaaGreatGTx2P
import Derived.Test.YtganajogkdinaaaGreatGInst4P
set_option linter.all false
namespace Go.R4
open Go.Proofs Go.Ev
set_option maxRecDepth 100000
theorem akt{a b:ByteArray}(h:a.data.toList=b.data.toList):a=b:=ByteArray.ext (Array.ext' h)
theorem ab8(x y:ByteArray):abI x y=true↔x=y:=by
 unfold abI
 constructor
 ·intro h
  have h2:x.toList=y.toList:=by simpa using h
  rw[ByteArray.toList_eq,ByteArray.toList_eq]at h2
  exact akt h2
 ·rintro rfl;simp
theorem acv(x y:ByteArray):sEq x y=true↔x=y:=by
 cases x with
 | mk x=>cases y with
  | mk y=>
   show((x == y)=true)↔_
   simp
theorem acf(s:ByteArray):(strL s).length=s.size:=by simp[strL]
theorem akF(s:ByteArray):Tx.By (strL s):=by
 intro y hy
 simp only[strL,List.mem_map]at hy
 obtain⟨x,_,rfl⟩:=hy
 have:=x.toNat_lt
 omega
def afp(s:ByteArray):Prop:=s.size<=64/\(Tx.cnt (strL s)).isSome=true
theorem adq(s:ByteArray):Wp (λk=>aL.f k s) (Tell (afp s)):=by
 refine .succ ?_
 simp only[aL.f]
 refine .ite (λh=>?_) (λh=>.one (.no λq=>by have:=q.1;omega))
 refine .pos (by omega) (agJ (ahn (n:=200002) (λj=>Tx.right_ok (j+200000) (akF s) (by rw[acf];omega) (by omega)) ?_))
 exact⟨λe=>⟨by omega,e⟩,λe=>e.2⟩
theorem adO(s:ByteArray):Wp (λk=>cG.f k s) (Tell (afp s)):=by
 refine .succ ?_
 simp only[cG.f]
 refine .ite (λh=>?_) (λh=>.one (.no λq=>by have:=q.1;omega))
 refine .pos (by omega) (.bind (Q:=λr=>r=Tx.ansV (Tx.cnt (strL s))) (ahn (n:=200001) (λj=>Tx.signs_ok (j+200000) (akF s) (by rw[acf];omega) (by omega)) rfl) (λr hr=>.one ?_))
 rw[hr,Tx.ansV_dec]
 exact⟨λe=>⟨by omega,e⟩,λe=>e.2⟩
theorem abt(n:Int):Wp (λk=>aC.f k n) (Tell (0<=n/\n<=2147483647)):=by
 refine .succ ?_
 simp only[aC.f]
 exact .ite (λh=>.one (.dec (by omega))) (λh=>.one (.no (by omega)))
theorem mget_put(h:List (ByteArray×Int))(x y:ByteArray)(v:Int):mget sEq (mput sEq h x v) y=if y=x then some v else mget sEq h y:=by
 induction h with
 | nil=>
  simp only[mput,mget]
  by_cases e:y=x
  ·rw[if_pos e,(acv y x).2 e];rfl
  ·rw[if_neg e,Bool.eq_false_iff.2 (λq=>e ((acv y x).1 q))];rfl
 | cons a r ih=>
  obtain⟨k,u⟩:=a
  simp only[mput,mget]
  cases c:sEq x k with
  | true=>
   have hx:=(acv x k).1 c
   subst hx
   simp only[cond_true,mget]
   by_cases e:y=x
   ·rw[if_pos e,(acv y x).2 e];rfl
   ·rw[if_neg e,Bool.eq_false_iff.2 (λq=>e ((acv y x).1 q))];rfl
  | false=>
   have hx:x≠k:=λq=>by rw[(acv x k).2 q]at c;cases c
   simp only[cond_false,mget]
   cases c2:sEq y k with
   | true=>
    have hy:=(acv y k).1 c2
    subst hy
    rw[if_neg (λq=>hx q.symm)];rfl
   | false=>simpa only[cond_false]using ih
def ExpP(l:List ae)(j:Nat)(e:ae):Prop:=afp e.Name/\(0<=e.Index/\e.Index<=2147483647)/\(e.Kind=0∨e.Kind=2∨e.Kind=3)/\∀ (i:Nat) x,i<j->l[i]?=some x->x.Name≠e.Name
def adD(l:List ae):Prop:=∀ (j:Nat) e,l[j]?=some e->ExpP l j e
theorem ag0{l:List ae}{j:Nat}{e:ae}(he:l[j]?=some e)(h:¬ExpP l j e):¬adD l:=λq=>h (q j e he)
theorem agT(l:List ae)(hl:l.length<=4000000000000000000):Wp (λk=>aW.f k l) (Tell (adD l)):=by
 refine .succ ?_
 simp only[aW.f]
 refine .alt (Q:=λ_=>adD l) (Q2:=λ_=>¬adD l) (.loop (λ(n:Nat) (v:Int×List (ByteArray×Int))=>0<=v.1/\v.1+(n:Int)=l.length/\(∀ (j:Nat) e,j<v.1.toNat->l[j]?=some e->ExpP l j e) ∧
  (∀ nm,mget sEq v.2 nm=none∨mget sEq v.2 nm=some 1)/\(∀ nm,mget sEq v.2 nm=none ↔ ∀ (j:Nat) e,j<v.1.toNat->l[j]?=some e->e.Name≠nm)) (λn v hi=>?_) (n:=l.length) ⟨by simp,by simp,λj e h=>by simp at h,λ_=>.inl rfl,λnm=>⟨λ_ j e h=>by simp at h,λ_=>rfl⟩⟩)
  (λ_ h=>.one (.yes h)) (λ_ h=>.one (.no h))
 obtain⟨x,h⟩:=v
 obtain⟨h1,h2,h3,h4,h5⟩:=hi
 simp only[aW.b3]
 dsimp only at h1 h2 h3 h4 h5
 refine .ite (λhlt=>?_) (λhge=>.right ?_)
 rotate_left
 ·intro j e he
  have:=(List.getElem?_eq_some_iff.1 he).1
  exact h3 j e (by omega) he
 refine .seg (Q:=λh'=>∃ e,l[x.toNat]?=some e/\ExpP l x.toNat e/\h'=mput sEq h e.Name 1) ?_ (λh' hh=>.left ?_)
 ·refine .bind (.idx h1 hlt) (λe he=>?_)
  have key:∀ {F:Nat->Option (List (ByteArray×Int)⊕((Int×List (ByteArray×Int))⊕(Unit⊕Unit)))},True:=fun {_}=>trivial
  have hput:∀ v:Int,(mget sEq (mput sEq h e.Name v) e.Name).getD 0=v:=λv=>by rw[mget_put,if_pos rfl];rfl
  rw[hput]
  have bad:∀ {v:Int},v>1->v=iadd .i64 ((mget sEq h e.Name).getD 0) 1->¬adD l:=by
   intro v hv hve hx
   have hp:=(hx x.toNat e he).2.2.2
   rw[(h5 e.Name).2 (λj y hj hy=>hp j y hj hy)]at hve
   subst hve
   revert hv;decide
  have good:∀ {v:Int},¬v>1->v=iadd .i64 ((mget sEq h e.Name).getD 0) 1->v=1/\∀ (j:Nat) y,j<x.toNat->l[j]?=some y->y.Name≠e.Name:=by
   intro v hv hve
   rcases h4 e.Name with hm | hm
   ·rw[hm]at hve;exact⟨hve,(h5 e.Name).1 hm⟩
   ·rw[hm]at hve;subst hve;exact absurd (by decide) hv
  generalize hg:iadd .i64 ((mget sEq h e.Name).getD 0) 1=v at hput ⊢
  have hnm:¬afp e.Name->¬adD l:=λq=>ag0 he (λp=>q p.1)
  have hix:¬(0<=e.Index/\e.Index<=2147483647)->¬adD l:=λq=>ag0 he (λp=>q p.2.1)
  refine .ite (λhk=>?_) (λhk=>.ite (λhk2=>?_) (λhk2=>?_))
  ·refine .ite (λhv=>.right (bad hv hg.symm)) (λhv=>.bind (adq _) (λr hr=>.nif hr (λq=>.right (hnm q)) (λhN=>.bind (abt _) (λr hr=>.nif hr (λq=>.right (hix q)) (λhI=>.left ?_)))))
   obtain⟨rfl,hd⟩:=good hv hg.symm
   exact⟨e,he,⟨hN,hI,.inl hk,hd⟩,rfl⟩
  ·refine .ite (λhv=>.right (bad hv hg.symm)) (λhv=>.bind (adq _) (λr hr=>.nif hr (λq=>.right (hnm q)) (λhN=>.bind (abt _) (λr hr=>.nif hr (λq=>.right (hix q)) (λhI=>.left ?_)))))
   obtain⟨rfl,hd⟩:=good hv hg.symm
   exact⟨e,he,⟨hN,hI,.inr (.inl hk2),hd⟩,rfl⟩
  ·refine .ite (λhv=>.right (bad hv hg.symm)) (λhv=>.bind (adq _) (λr hr=>.nif hr (λq=>.right (hnm q)) (λhN=>.ite (λhk3=>.bind (abt _) (λr hr=>.nif hr (λq=>.right (hix q)) (λhI=>.left ?_))) (λhk3=>.right (ag0 he (λp=>by have:=p.2.2.1;omega))))))
   obtain⟨rfl,hd⟩:=good hv hg.symm
   exact⟨e,he,⟨hN,hI,.inr (.inr hk3),hd⟩,rfl⟩
 ·obtain⟨e,he,hE,rfl⟩:=hh
  refine⟨n-1,by omega,?_⟩
  rw[aai (by omega) (by omega)]
  have ex:(x+1).toNat=x.toNat+1:=by omega
  refine⟨by dsimp only;omega,by dsimp only;omega,λj y hj hy=>?_,λnm=>?_,λnm=>?_⟩
  ·dsimp only at hj
   by_cases c:j<x.toNat
   ·exact h3 j y c hy
   ·have:j=x.toNat:=by omega
    subst this
    rw[he]at hy;cases hy;exact hE
  ·dsimp only
   rw[mget_put]
   by_cases c:nm=e.Name
   ·rw[if_pos c];exact .inr rfl
   ·rw[if_neg c];exact h4 nm
  ·dsimp only
   rw[mget_put,ex]
   by_cases c:nm=e.Name
   ·rw[if_pos c]
    exact⟨λq=>(by cases q),λq=>(q x.toNat e (by omega) he c.symm).elim⟩
   ·rw[if_neg c,h5 nm]
    constructor
    ·intro q j y hj hy
     by_cases c2:j<x.toNat
     ·exact q j y c2 hy
     ·have:j=x.toNat:=by omega
      subst this
      rw[he]at hy;cases hy;exact λz=>c z.symm
    ·exact λq j y hj hy=>q j y (by omega) hy
end Go.R4
