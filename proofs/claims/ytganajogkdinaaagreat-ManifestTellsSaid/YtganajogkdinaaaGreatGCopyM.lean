import Derived.Test.YtganajogkdinaaaGreatGAlike2M
set_option linter.all false
namespace Go.R4
open Go.Proofs Go.Ev
set_option maxRecDepth 100000
theorem abr{n b:Nat}(h:aac n b):Wp (λk=>tick n b k) (λ_=>True):=.at_ (a:=()) 1 (λ_ hk=>anp h hk) trivial
theorem bN:bigN=140737488351232:=rfl
theorem aot{t:ab}(h1:t.Params.length*8<=bigN)(h2:t.Results.length*8<=bigN):Wp (λk=>dI.f k t) (· = t):=by
 have:=bN
 refine .succ ?_
 simp only[dI.f]
 exact .bind (abr (aab (by omega) (by omega))) (λ_ _=>.bind (abr (aab (by omega) (by omega))) (λ_ _=>.one rfl))
theorem an7{β:Type}[DecidableEq β](a b:List β)(hl:a.length=b.length)(hb:a.length<=4000000000000000000) :
  Wp (λk=>loopS (λi:Int=>if i<(a.length:Int)then((at? a i).bind λx=>((at? b i).bind λy=>(if x=y then(some (.inl (iadd .i64 i 1)))else(some (.inr (.inr ()))))))else(some (.inr (.inl ())):Option (Int⊕(Unit⊕Unit)))) k (0:Int))
   (aaR (λ_=>a=b) (λ_=>a≠b)):=by
 refine .loop (λ(n:Nat) (i:Int)=>0<=i/\i+(n:Int)=a.length/\a.take i.toNat=b.take i.toNat) (λn i hi=>?_) (n:=a.length) ⟨by omega,by omega,by simp⟩
 obtain⟨h1,h2,h3⟩:=hi
 refine .ite (λhlt=>?_) (λhge=>.right ?_)
 ·refine .bind (.idx h1 hlt) (λx hx=>.bind (.idx h1 (by omega)) (λy hy=>.ite (λhe=>?_) (λhe=>.right ?_)))
  ·subst he
   refine .left ⟨n-1,by omega,?_⟩
   rw[aah (by omega) (by omega)]
   refine⟨by omega,by omega,?_⟩
   rw[show(i+1).toNat=i.toNat+1 from by omega,List.take_add_one,List.take_add_one,h3,hx,hy]
  ·intro hab
   subst hab
   rw[hx]at hy
   exact he (Option.some.inj hy)
 ·rw[List.take_of_length_le (by omega),List.take_of_length_le (by omega)]at h3
  exact h3
theorem al8(a b:List Int)(hb:a.length<=4000000000000000000):Wp (λk=>aY.f k a b) (· = decide (a=b)):=by
 refine .succ ?_
 simp only[aY.f]
 refine .ite (λh=>?_) (λh=>.one ?_)
 ·refine .alt (an7 a b (by omega) hb) (λ_ h=>.one ?_) (λ_ h=>.one ?_)
  ·exact(decide_eq_true h).symm
  ·exact(decide_eq_false h).symm
 ·rw[decide_eq_false];intro e;subst e;exact h rfl
structure Siz(m:ak):Prop where
 t:m.Types.length<=2000/\∀ t∈m.Types,t.Params.length<=1000/\t.Results.length<=1000
 i:m.Imports.length<=2000
 f:m.Funcs.length<=2000/\∀ f∈m.Funcs,f.Code.length<=100000/\f.Locals.length<=2000/\∀ i∈f.Code,i.L.length<=1000
 me:m.Mems.length<=2000
 g:m.Globals.length<=2000
 e:m.Exports.length<=2000
 d:m.Datas.length<=2000/\∀ x∈m.Datas,x.Bytes.length<=2000000
 c:m.Customs.length<=2000/\∀ x∈m.Customs,x.Bytes.length<=2000000
theorem abK{α:Type}{l:List α}{i:Nat}{e:α}(h:l[i]?=some e):l.set i e=l:=by
 obtain⟨hi,rfl⟩:=List.getElem?_eq_some_iff.1 h;exact List.set_getElem_self hi
theorem ac1{α:Type}{l:List α}{x:Int}(h0:0<=x){e:α}(he:l[x.toNat]?=some e):l.take x.toNat++[e]=l.take (x+1).toNat:=by
 rw[show(x+1).toNat=x.toNat+1 from by omega,List.take_add_one,he];rfl
theorem anB{m:ak}(h:Siz m):Fit m:=by
 obtain⟨⟨t,tx⟩,i,⟨f,fx⟩,me,g,e,⟨d,dx⟩,⟨c,cx⟩⟩:=h
 refine⟨by omega,by omega,by omega,by omega,by omega,by omega,by omega,by omega,λx hx=>?_,λx hx=>⟨?_,?_,λy hy=>?_⟩⟩
 ·have:=tx x hx;exact⟨by omega,by omega⟩
 ·have:=fx x hx;omega
 ·have:=fx x hx;omega
 ·have:=(fx x hx).2.2 y hy;omega
theorem ajb{m:ak}(h:Siz m):Wp (λk=>aH.f k m) (· = (m.Imports,m.Mems,m.Globals,m.Exports,m.Types,m.Funcs,m.Datas,m.Customs)):=by
 have hb:=bN
 obtain⟨⟨t,tx⟩,i,⟨f,fs⟩,me,g,e,⟨d,dx⟩,⟨c,cx⟩⟩:=h
 refine .succ ?_
 simp only[aH.f]
 refine .bind (abr (aab (by omega) (by omega))) (λ_ _=>.bind (abr (aab (by omega) (by omega))) (λ_ _=>.bind (abr (aab (by omega) (by omega))) (λ_ _=>.bind (abr (aab (by omega) (by omega))) (λ_ _=>?_))))
 refine .bind (Q:=λr=>r=m.Types) ?_ (λr1 hr1=>.bind (Q:=λr=>r=m.Funcs) ?_ (λr2 hr2=>.bind (Q:=λr=>r=m.Datas) ?_ (λr3 hr3=>.bind (Q:=λr=>r=m.Customs) ?_ (λr4 hr4=>.one (by rw[hr1,hr2,hr3,hr4])))))
 ·refine .loop (λ(n:Nat) (v:Int×List ab)=>0<=v.1/\v.1+(n:Int)=m.Types.length/\v.2=m.Types.take v.1.toNat) (λn v hv=>?_) (n:=m.Types.length) ⟨by simp,by simp,by simp⟩
  obtain⟨x,a⟩:=v
  obtain⟨h1,h2,h3⟩:=hv
  dsimp only at h1 h2 h3
  subst h3
  simp only[aH.b3]
  refine .ite (λhlt=>.bind (.idx h1 hlt) (λy hy=>?_)) (λhge=>.right (List.take_of_length_le (by omega)))
  have:=tx y (List.mem_of_getElem? hy)
  refine .bind (aot (by omega) (by omega)) (λr hr=>?_)
  subst hr
  refine .pos (aab (by rw[List.length_take];omega) (by rw[List.length_take];omega)) (.left ⟨n-1,by omega,?_⟩)
  rw[aah (by omega) (by omega)]
  exact⟨by dsimp only;omega,by dsimp only;omega,ac1 h1 hy⟩
 ·refine .loop (λ(n:Nat) (v:Int×List ai)=>0<=v.1/\v.1+(n:Int)=m.Funcs.length/\v.2=m.Funcs.take v.1.toNat) (λn v hv=>?_) (n:=m.Funcs.length) ⟨by simp,by simp,by simp⟩
  obtain⟨x,a⟩:=v
  obtain⟨h1,h2,h3⟩:=hv
  dsimp only at h1 h2 h3
  subst h3
  simp only[aH.b8]
  refine .ite (λhlt=>.bind (.idx h1 hlt) (λy hy=>?_)) (λhge=>.right (List.take_of_length_le (by omega)))
  have hm:=List.mem_of_getElem? hy
  obtain⟨y1,y2,yL⟩:=fs y hm
  refine .bind (abr (aab (by omega) (by omega))) (λ_ _=>.bind (Q:=λr=>r=y.Code) ?_ (λr hr=>?_))
  ·refine .loop (λ(n:Nat) (v:Int×List aj)=>0<=v.1/\v.1+(n:Int)=y.Code.length/\v.2=y.Code) (λn v hv=>?_) (n:=y.Code.length) ⟨by simp,by simp,rfl⟩
   obtain⟨z,b⟩:=v
   obtain⟨g1,g2,g3⟩:=hv
   dsimp only at g1 g2 g3
   subst g3
   simp only[aH.b12]
   refine .ite (λhz=>?_) (λhge=>.right rfl)
   refine .pos ⟨g1,hz⟩ (.bind (.get (by omega)) (λu hu=>?_))
   have hu':=yL u (List.mem_of_getElem? hu)
   refine .bind (abr (aab (by omega) (by omega))) (λ_ _=>.pos ⟨g1,hz⟩ (.bind (.get (by omega)) (λw hw=>?_)))
   rw[hu]at hw;cases hw
   rw[show y.Code.set z.toNat (aj.mk u.Op u.A u.B u.N u.L)=y.Code from abK hu]
   refine .left ⟨n-1,by omega,?_⟩
   rw[aah (by omega) (by omega)]
   exact⟨by dsimp only;omega,by dsimp only;omega,rfl⟩
  ·subst hr
   refine .bind (abr (aab (by omega) (by omega))) (λ_ _=>.pos (aab (by rw[List.length_take];omega) (by rw[List.length_take];omega)) (.left ⟨n-1,by omega,?_⟩))
   rw[aah (by omega) (by omega)]
   exact⟨by dsimp only;omega,by dsimp only;omega,ac1 h1 hy⟩
 ·refine .loop (λ(n:Nat) (v:Int×List aA)=>0<=v.1/\v.1+(n:Int)=m.Datas.length/\v.2=m.Datas.take v.1.toNat) (λn v hv=>?_) (n:=m.Datas.length) ⟨by simp,by simp,by simp⟩
  obtain⟨x,a⟩:=v
  obtain⟨h1,h2,h3⟩:=hv
  dsimp only at h1 h2 h3
  subst h3
  simp only[aH.b19]
  refine .ite (λhlt=>.bind (.idx h1 hlt) (λy hy=>?_)) (λhge=>.right (List.take_of_length_le (by omega)))
  have:=dx y (List.mem_of_getElem? hy)
  refine .bind (abr (aab (by omega) (by omega))) (λ_ _=>.pos (aab (by rw[List.length_take];omega) (by rw[List.length_take];omega)) (.left ⟨n-1,by omega,?_⟩))
  rw[aah (by omega) (by omega)]
  exact⟨by dsimp only;omega,by dsimp only;omega,ac1 h1 hy⟩
 ·refine .loop (λ(n:Nat) (v:Int×List am)=>0<=v.1/\v.1+(n:Int)=m.Customs.length/\v.2=m.Customs.take v.1.toNat) (λn v hv=>?_) (n:=m.Customs.length) ⟨by simp,by simp,by simp⟩
  obtain⟨x,a⟩:=v
  obtain⟨h1,h2,h3⟩:=hv
  dsimp only at h1 h2 h3
  subst h3
  simp only[aH.b25]
  refine .ite (λhlt=>.bind (.idx h1 hlt) (λy hy=>?_)) (λhge=>.right (List.take_of_length_le (by omega)))
  have:=cx y (List.mem_of_getElem? hy)
  refine .bind (abr (aab (by omega) (by omega))) (λ_ _=>.pos (aab (by rw[List.length_take];omega) (by rw[List.length_take];omega)) (.left ⟨n-1,by omega,?_⟩))
  rw[aah (by omega) (by omega)]
  exact⟨by dsimp only;omega,by dsimp only;omega,ac1 h1 hy⟩
theorem ajW{m:ak}(hf:Fit m)(h1:¬adG m)(h2:aec m):Siz m:=by
 unfold adG at h1
 have li:=hf.li
 have lf:=hf.lf
 rw[aah (by omega) (by omega)]at h1
 obtain⟨⟨t,i,f,_,_⟩,_,d,c⟩:=h2
 refine⟨⟨by omega,λx hx=>?_⟩,by omega,⟨by omega,λx hx=>?_⟩,by omega,by omega,by omega,⟨by omega,λx hx=>?_⟩,by omega,λx hx=>?_⟩
 ·have:=(t x hx).1.1;have:=(t x hx).2.1;omega
 ·obtain⟨_,g1,g2,g3⟩:=f x hx
  refine⟨by omega,by have:=g1.1;omega,λj hj=>?_⟩
  obtain⟨_,a,_,_,_,l⟩:=g3 j hj
  by_cases hc:cls j.Op=5
  ·rw[hc]at a
   have:=a.1;omega
  ·have:(shp (cls j.Op)).l=false:=by unfold shp;split <;> first | rfl | (rename_i e;exact(hc e).elim)
   have:=l this;omega
 ·have:=(d x hx).2.2;omega
 ·have:=(c x hx).2;omega
end Go.R4
