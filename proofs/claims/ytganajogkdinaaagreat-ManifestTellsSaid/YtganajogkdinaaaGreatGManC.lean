import Derived.Test.YtganajogkdinaaaGreatGLebM
import Derived.Test.YtganajogkdinaaaGreatGAlike2M
import Derived.Test.YtganajogkdinaaaGreatGModUM
set_option linter.all false
namespace Go.R4
open Go.Proofs Go.Ev
set_option maxRecDepth 100000
namespace Mn
theorem ack{α:Type}{g:α->List Int}{c:Nat}:∀ {l:List α},(∀ x∈l,(g x).length<=c)->(l.flatMap g).length<=c*l.length
 | [],_=>by simp
 | x::l,h=>by
  have h1:=h x (List.mem_cons_self ..)
  have h2:=ack (l:=l) λy hy=>h y (List.mem_cons_of_mem _ hy)
  simp only[List.flatMap_cons,List.length_append,List.length_cons,Nat.mul_succ]
  omega
theorem aa6{α:Type}{l:List α}(hl:l.length<=4000000000000000000){g:α->List Int}{h0:List Int}{B:Nat->(Int×List Int)->Option ((Int×List Int)⊕List Int)}
  (hB:∀ (i:Nat) e,i<l.length->l[i]?=some e->e∈l->Wp (λk=>B k ((i:Int),h0++(l.take i).flatMap g)) (· = .inl (iadd .i64 (i:Int) 1,h0++(l.take i).flatMap g++g e)))
  (hend:∀ h,Wp (λk=>B k ((l.length:Int),h)) (· = .inr h)):Wp (λk=>loopS (B k) k ((0:Int),h0)) (· = h0++l.flatMap g):=by
 refine .loop (λ(n:Nat) (v:Int×List Int)=>∃ i:Nat,i+n=l.length/\v=((i:Int),h0++(l.take i).flatMap g)) (λn v hv=>?_) (n:=l.length) ⟨0,by omega,by simp⟩
 obtain⟨i,h1,rfl⟩:=hv
 cases n with
 | zero=>
  have:i=l.length:=by omega
  subst this
  refine(hend _).mono λa ha=>?_
  subst ha
  simp[aaR]
 | succ n=>
  have hi:i<l.length:=by omega
  refine(hB i l[i] hi (List.getElem?_eq_getElem hi) (List.getElem_mem hi)).mono λa ha=>?_
  subst ha
  refine⟨n,by omega,i+1,by omega,?_⟩
  have e:(l.take (i+1)).flatMap g=(l.take i).flatMap g++g l[i]:=by
   rw[<-List.take_append_getElem hi,List.flatMap_append,List.flatMap_cons,List.flatMap_nil,List.append_nil]
  rw[aah (by omega) (by omega),e,List.append_assoc]
  rfl
theorem aaB{α:Type}{g:α->List Int}{c:Nat}{l:List α}(h:∀ x∈l,(g x).length<=c)(i:Nat):((l.take i).flatMap g).length<=c*l.length:=
 Nat.le_trans (ack λx hx=>h x (List.mem_of_mem_take hx)) (Nat.mul_le_mul_left _ (by rw[List.length_take];omega))
theorem akt{n:Int}(h0:0<=n)(h1:n<18446744073709551616):icv .u64 n=n:=by
 show IntKind.u64.wrap n=n
 rw[Lb.wrap_u64];omega
theorem aay{n:Int}(h0:0<=n)(h1:n<18446744073709551616):(Lb.encU n).length<=10:=(Lb.encU_by h0 h1).2
theorem aer{n:Int}(h0:0<=n)(h1:n<9223372036854775808):Wp (λk=>aJ.f k n) (· = Lb.encU n):=by
 refine .succ ?_
 simp only[aJ.f,akt h0 (by omega)]
 exact .bind (.at_ (P:=(· = Lb.encU n)) 20 (λk hk=>Lb.u_ok hk h0 (by omega)) rfl) (λ_ h=>.one h)
theorem aeh{n:Int}(h0:0<=n)(h1:n<9223372036854775808):Wp (λk=>bB.f k n) (· = Lb.encU n):=by
 refine .succ ?_
 simp only[bB.f,akt h0 (by omega)]
 exact .bind (.at_ (P:=(· = Lb.encU n)) 20 (λk hk=>Lb.refu_ok hk h0 (by omega)) rfl) (λ_ h=>.one h)
def rowE(l:List Int):List Int:=Lb.encU l.length++l.flatMap λn=>Lb.encU (n+1)
def Num(l:List Int):Prop:=∀ n∈l,-1<=n/\n<=512
theorem adS{l:List Int}(hl:l.length<=1000)(h:Num l):(rowE l).length<=10+10*l.length:=by
 have:=ack (l:=l) (g:=λn=>Lb.encU (n+1)) (c:=10) λx hx=>aay (by have:=h x hx;omega) (by have:=h x hx;omega)
 have h2:=aay (n:=(l.length:Int)) (by omega) (by omega)
 simp only[rowE,List.length_append];omega
theorem afs{l:List Int}(hl:l.length<=1000)(h:Num l):Wp (λk=>aR.f k l) (· = rowE l):=by
 have hg:∀ x∈l,(Lb.encU (x+1)).length<=10:=λx hx=>aay (by have:=h x hx;omega) (by have:=h x hx;omega)
 have h2:=aay (n:=(l.length:Int)) (by omega) (by omega)
 refine .succ ?_
 simp only[aR.f]
 refine .bind (aer (by omega) (by omega)) (λr hr=>?_)
 subst hr
 refine .bind (aa6 (g:=λn=>Lb.encU (n+1)) (by omega) (λi e hi he hm=>?_) (λh=>?_)) (λr hr=>.one hr)
 ·have hn:=h e hm
  have hq:=hg e hm
  have ht:=aaB (l:=l) (g:=λn=>Lb.encU (n+1)) (c:=10) hg i
  simp only[aR.b3]
  refine .pos (by omega) (aal he ?_)
  rw[aah (by omega) (by omega)]
  refine .bind (aer (by omega) (by omega)) (λr hr=>?_)
  subst hr
  exact .pos (aab (by simp only[List.length_append];omega) (by simp only[List.length_append];omega)) (.one rfl)
 ·simp only[aR.b3]
  exact .neg (by omega) (.one rfl)
theorem afq{l:List Int}(hl:l.length<=1000)(h:Num l):Wp (λk=>bw.f k l) (· = rowE l):=by
 have hg:∀ x∈l,(Lb.encU (x+1)).length<=10:=λx hx=>aay (by have:=h x hx;omega) (by have:=h x hx;omega)
 have h2:=aay (n:=(l.length:Int)) (by omega) (by omega)
 refine .succ ?_
 simp only[bw.f]
 refine .bind (aeh (by omega) (by omega)) (λr hr=>?_)
 subst hr
 refine .bind (aa6 (g:=λn=>Lb.encU (n+1)) (by omega) (λi e hi he hm=>?_) (λh=>?_)) (λr hr=>.one hr)
 ·have hn:=h e hm
  have hq:=hg e hm
  have ht:=aaB (l:=l) (g:=λn=>Lb.encU (n+1)) (c:=10) hg i
  simp only[bw.b3]
  refine .pos (by omega) (aal he ?_)
  rw[aah (by omega) (by omega)]
  refine .bind (aeh (by omega) (by omega)) (λr hr=>?_)
  subst hr
  exact .pos (aab (by simp only[List.length_append];omega) (by simp only[List.length_append];omega)) (.one rfl)
 ·simp only[bw.b3]
  exact .neg (by omega) (.one rfl)
def valE(l:List Int):List Int:=Lb.encU l.length++l.flatMap λt=>[icv .u8 t]
theorem ahp{l:List Int}(hl:l.length<=1000):(valE l).length<=10+l.length:=by
 have:=ack (l:=l) (g:=λt=>[icv .u8 t]) (c:=1) λx hx=>by simp
 have h2:=aay (n:=(l.length:Int)) (by omega) (by omega)
 simp only[valE,List.length_append];omega
theorem ajo{l:List Int}(hl:l.length<=1000):Wp (λk=>aP.f k l) (· = valE l):=by
 have h2:=aay (n:=(l.length:Int)) (by omega) (by omega)
 refine .succ ?_
 simp only[aP.f]
 refine .bind (aer (by omega) (by omega)) (λr hr=>?_)
 subst hr
 refine .bind (aa6 (g:=λt=>[icv .u8 t]) (by omega) (λi e hi he hm=>?_) (λh=>?_)) (λr hr=>.one hr)
 ·have ht:=aaB (l:=l) (g:=λt=>[icv .u8 t]) (c:=1) (λx hx=>by simp) i
  simp only[aP.b3]
  exact .pos (by omega) (aal he (.pos (aab (by simp only[List.length_append];omega) (by simp only[List.length_append];omega)) (.one rfl)))
 ·simp only[aP.b3]
  exact .neg (by omega) (.one rfl)
theorem aiR{l:List Int}(hl:l.length<=1000):Wp (λk=>bG.f k l) (· = valE l):=by
 have h2:=aay (n:=(l.length:Int)) (by omega) (by omega)
 refine .succ ?_
 simp only[bG.f]
 refine .bind (aeh (by omega) (by omega)) (λr hr=>?_)
 subst hr
 refine .bind (aa6 (g:=λt=>[icv .u8 t]) (by omega) (λi e hi he hm=>?_) (λh=>?_)) (λr hr=>.one hr)
 ·have ht:=aaB (l:=l) (g:=λt=>[icv .u8 t]) (c:=1) (λx hx=>by simp) i
  simp only[bG.b3]
  exact .pos (by omega) (aal he (.pos (aab (by simp only[List.length_append];omega) (by simp only[List.length_append];omega)) (.one rfl)))
 ·simp only[bG.b3]
  exact .neg (by omega) (.one rfl)
def tot:List (List Int)->Nat
 | []=>0
 | x::r=>x.length+tot r
theorem ah4{l:List (List Int)}{i:Nat}{x:List Int}(h:l[i]?=some x):tot (l.drop i)=x.length+tot (l.drop (i+1)):=by
 have hi:i<l.length:=(List.getElem?_eq_some_iff.1 h).1
 have:l.drop i=x::l.drop (i+1):=by
  rw[List.drop_eq_getElem_cons hi]
  rw[List.getElem?_eq_getElem hi]at h
  cases h;rfl
 rw[this];rfl
theorem anD{n:Int}(h0:0<=n)(h1:n<=140737488355328):Wp (λk=>dv.f k n) (λr=>r.1=0/\(r.2.length:Int)=n):=by
 refine .succ ?_
 simp only[dv.f]
 refine .neg (by omega) ?_
 rw[aas (by omega) (by omega),Int.sub_zero]
 refine .ite (λh=>.pos ⟨h0,aab (by omega) (by omega)⟩ (.pos ⟨by omega,by omega,by omega⟩ (.one ⟨by simp,by simp;omega⟩))) (λh=>.one ⟨rfl,by simp;omega⟩)
theorem ajr{l:List (List Int)}(h1:tot l<=140737488355328)(h2:l.length<=1000000){B1:Nat->(Int×Int)->Option ((Int×Int)⊕Int)}{B2:Nat->(Nat×Int×List Int)->Option ((Nat×Int×List Int)⊕(Nat×List Int))}
  (e1:∀ k n i,B1 k (n,i)=if i<(l.length:Int)then((at? l i).bind λe=>if(iadd .i64 n (e.length:Int))<0 then none else some (.inl (iadd .i64 n (e.length:Int),iadd .i64 i 1)))else some (.inr n))
  (e2:∀ k n i q,B2 k (n,i,q)=if i<(l.length:Int)then((at? l i).bind λe=>((if(0+n)+e.length<=q.length then some ()else none).bind λ_=>some (.inl (n+e.length,iadd .i64 i 1,overL q (0+n) e))))else some (.inr (n,q))) :
  Wp (λk=>(loopS (B1 k) k ((0:Int),(0:Int))).bind λsize=>(dv.f k size).bind λ(r,q)=>(loopS (B2 k) k (r,(0:Int),q)).bind λ(n,h)=>if n<=h.length then some (List.take n h)else none) (· = l.flatten):=by
 refine .bind (Q:=λr=>r=(tot l:Int)) ?_ (λn hn=>?_)
 ·refine .loop (λ(m:Nat) (v:Int×Int)=>0<=v.2/\v.2+(m:Int)=l.length/\v.1+(tot (l.drop v.2.toNat):Int)=tot l/\0<=v.1) (λm v hv=>?_) (n:=l.length) ⟨by simp,by simp,by simp,by simp⟩
  obtain⟨n,i⟩:=v
  obtain⟨g1,g2,g3,g4⟩:=hv
  dsimp only at g1 g2 g3 g4
  simp only[e1]
  refine .ite (λhi=>?_) (λhi=>.right ?_)
  ·refine .bind (.idx g1 hi) (λx hx=>?_)
   have:=ah4 hx
   rw[aah (by omega) (by omega)]
   refine .neg (by omega) (.left ⟨m-1,by omega,?_⟩)
   rw[aah (by omega) (by omega)]
   dsimp only
   rw[show(i+1).toNat=i.toNat+1 from by omega]
   exact⟨by omega,by omega,by omega,by omega⟩
  ·rw[List.drop_of_length_le (by omega)]at g3
   simp only[tot]at g3
   omega
 subst hn
 refine .bind (anD (by omega) (by omega)) (λr hr=>?_)
 obtain⟨n,q⟩:=r
 obtain⟨e1,e2'⟩:=hr
 dsimp only at e1 e2' ⊢
 subst e1
 refine .bind (Q:=λr=>r.1<=r.2.length/\r.2.take r.1=l.flatten) ?_ (λr hr=>?_)
 rotate_left
 ·obtain⟨n,q⟩:=r
  exact .pos hr.1 (.one hr.2)
 refine .loop (λ(m:Nat) (v:Nat×Int×List Int)=>0<=v.2.1/\v.2.1+(m:Int)=l.length/\v.1+tot (l.drop v.2.1.toNat)=v.2.2.length/\v.2.2.take v.1=(l.take v.2.1.toNat).flatten) (λm v hv=>?_) (n:=l.length) ⟨by simp,by simp,by simp;omega,by simp⟩
 obtain⟨n,i,q⟩:=v
 obtain⟨g1,g2,g3,g4⟩:=hv
 dsimp only at g1 g2 g3 g4
 simp only[e2]
 refine .ite (λhi=>?_) (λhi=>.right ?_)
 ·refine .bind (.idx g1 hi) (λx hx=>?_)
  have hd:=ah4 hx
  refine .bind (Q:=λ_=>True) (.pos (by omega) (.one trivial)) (λ_ _=>.left ⟨m-1,by omega,?_⟩)
  rw[aah (by omega) (by omega)]
  dsimp only
  have hlen:(overL q (0+n) x).length=q.length:=over_len (by omega)
  rw[show(i+1).toNat=i.toNat+1 from by omega,hlen]
  refine⟨by omega,by omega,by omega,?_⟩
  rw[List.take_add_one,hx]
  simp only[Option.toList_some,List.flatten_append,List.flatten_cons,List.flatten_nil,List.append_nil]
  rw[<-g4]
  simp only[overL,Nat.zero_add]
  rw[<-List.append_assoc]
  exact List.take_left' (by rw[List.length_append,List.length_take];omega)
 ·rw[List.drop_of_length_le (by omega)]at g3
  rw[List.take_of_length_le (l:=l) (i:=i.toNat) (by omega)]at g4
  simp only[tot]at g3
  exact⟨by dsimp only;omega,g4⟩
theorem aj1{a b c:List Int}(h:a.length+b.length+c.length<=140737488355328):Wp (λk=>be.f k a b c) (· = a++b++c):=by
 refine .succ ?_
 simp only[be.f]
 refine(ajr (l:=[a,b,c]) (by simp only[tot];omega) (by simp) (B1:=λk=>be.b3 k a b c) (B2:=λk=>be.b11 k a b c) (λk n i=>rfl) (λk n i q=>rfl)).mono λr hr=>?_
 rw[hr];simp
theorem ank{a b c d e:List Int}(h:a.length+b.length+c.length+d.length+e.length<=140737488355328):Wp (λk=>bA.f k a b c d e) (· = a++b++c++d++e):=by
 refine .succ ?_
 simp only[bA.f]
 refine(ajr (l:=[a,b,c,d,e]) (by simp only[tot];omega) (by simp) (B1:=λk=>bA.b3 k a b c d e) (B2:=λk=>bA.b11 k a b c d e) (λk n i=>rfl) (λk n i q=>rfl)).mono λr hr=>?_
 rw[hr];simp
theorem an2{a b c d e f g i:List Int}(h:a.length+b.length+c.length+d.length+e.length+f.length+g.length+i.length<=140737488355328):Wp (λk=>bS.f k a b c d e f g i) (· = a++b++c++d++e++f++g++i):=by
 refine .succ ?_
 simp only[bS.f]
 refine(ajr (l:=[a,b,c,d,e,f,g,i]) (by simp only[tot];omega) (by simp) (B1:=λk=>bS.b3 k a b c d e f g i ((8:Nat):Int)) (B2:=λk=>bS.b11 k a b c d e f g i ((8:Nat):Int)) (λk n i=>rfl) (λk n i q=>rfl)).mono λr hr=>?_
 rw[hr];simp
def expE(x:aa):List Int:=Lb.encU x.Name.size++strL x.Name++Lb.encU x.Kind++Lb.encU x.Index
def ExF(x:aa):Prop:=x.Name.size<=64/\(0<=x.Kind/\x.Kind<=3)/\0<=x.Index/\x.Index<=2147483647
theorem acW{x:aa}(h:ExF x):(expE x).length<=94:=by
 obtain⟨h1,h2,h3⟩:=h
 have e1:=aay (n:=(x.Name.size:Int)) (by omega) (by omega)
 have e2:=aay (n:=x.Kind) (by omega) (by omega)
 have e3:=aay (n:=x.Index) (by omega) (by omega)
 simp only[expE,List.length_append,acj];omega
def shE(l:List aa):List Int:=Lb.encU l.length++l.flatMap expE
theorem aks{l:List aa}(hl:l.length<=1000)(h:∀ x∈l,ExF x):(shE l).length<=10+94*l.length:=by
 have:=ack (l:=l) (g:=expE) (c:=94) λx hx=>acW (h x hx)
 have h2:=aay (n:=(l.length:Int)) (by omega) (by omega)
 simp only[shE,List.length_append];omega
theorem amG{l:List aa}(hl:l.length<=1000)(h:∀ x∈l,ExF x):Wp (λk=>aZ.f k l) (· = shE l):=by
 have h2:=aay (n:=(l.length:Int)) (by omega) (by omega)
 refine .succ ?_
 simp only[aZ.f]
 refine .bind (aer (by omega) (by omega)) (λr hr=>?_)
 subst hr
 refine .bind (aa6 (g:=expE) (by omega) (λi e hi he hm=>?_) (λh=>?_)) (λr hr=>.one hr)
 ·have ht:=aaB (l:=l) (g:=expE) (c:=94) (λx hx=>acW (h x hx)) i
  have hx:=h e hm
  have hxl:=acW hx
  obtain⟨q1,q2,q3⟩:=hx
  simp only[expE,List.length_append]at hxl
  simp only[aZ.b3]
  refine .pos (by omega) (aal he (.pos (by omega) ?_))
  refine .bind (aer (by omega) (by omega)) (λr1 hr1=>.bind (aer (by omega) (by omega)) (λr2 hr2=>.bind (aer (by omega) (by omega)) (λr3 hr3=>?_)))
  subst hr1;subst hr2;subst hr3
  refine .bind (ank (by simp only[List.length_append];omega)) (λr hr=>.one ?_)
  subst hr
  simp only[expE,List.append_assoc]
 ·simp only[aZ.b3]
  exact .neg (by omega) (.one rfl)
theorem amD{l:List aa}(hl:l.length<=1000)(h:∀ x∈l,ExF x):Wp (λk=>bH.f k l) (· = shE l):=by
 have h2:=aay (n:=(l.length:Int)) (by omega) (by omega)
 refine .succ ?_
 simp only[bH.f]
 refine .bind (aeh (by omega) (by omega)) (λr hr=>?_)
 subst hr
 refine .bind (aa6 (g:=expE) (by omega) (λi e hi he hm=>?_) (λh=>?_)) (λr hr=>.one hr)
 ·have ht:=aaB (l:=l) (g:=expE) (c:=94) (λx hx=>acW (h x hx)) i
  have hx:=h e hm
  have hxl:=acW hx
  obtain⟨q1,q2,q3⟩:=hx
  simp only[expE,List.length_append]at hxl
  simp only[bH.b3]
  refine .pos (by omega) (aal he ?_)
  refine .bind (aeh (by omega) (by omega)) (λr1 hr1=>?_)
  subst hr1
  refine .pos (aab (by simp only[List.length_append];omega) (by simp only[List.length_append];omega)) (.pos (aab (by simp only[List.length_append];omega) (by simp only[List.length_append];omega)) (.bind (aeh (by omega) (by omega)) (λr2 hr2=>?_)))
  subst hr2
  refine .pos (aab (by simp only[List.length_append];omega) (by simp only[List.length_append];omega)) (.bind (aeh (by omega) (by omega)) (λr3 hr3=>?_))
  subst hr3
  refine .pos (aab (by simp only[List.length_append];omega) (by simp only[List.length_append];omega)) (.one ?_)
  simp only[expE,List.append_assoc]
 ·simp only[bH.b3]
  exact .neg (by omega) (.one rfl)
end Mn
end Go.R4
namespace Go.R4
open Go.Proofs Go.Ev
set_option maxRecDepth 100000
namespace Mn
def OkM(m:ak):Prop:=¬adG m/\aec m
theorem ahd{m:ak}{r:Int}(h:RP m r):r=0↔OkM m:=by
 unfold OkM
 rcases h with⟨a,b⟩ | ⟨a,b,c⟩ | ⟨a,b,c⟩
 ·exact⟨λh=>by omega,λh=>(h.1 a).elim⟩
 ·exact⟨λ_=>⟨a,b⟩,λ_=>c⟩
 ·exact⟨λh=>by omega,λh=>(b h.2).elim⟩
abbrev tmod(l:List ab):ak:=⟨l,[],[],[],[],[],[],[]⟩
abbrev emod(l:List aa):ak:=⟨[],[],[],[],[],l,[],[]⟩
theorem okT{l:List ab}(hl:l.length<=64):OkM (tmod l) ↔ ∀ t∈l,acp t:=by
 unfold OkM adG aec
 have e:iadd .i64 ((0:Nat):Int) ((0:Nat):Int)=0:=by decide +kernel
 simp only[e,List.length_nil]
 constructor
 ·exact λh=>h.2.1.1
 ·intro h
  refine⟨by omega,⟨h,?_,?_,?_,?_⟩,?_,?_,?_⟩ <;> first | (intro x hx;cases hx;done) | (intro j e he;simp at he)
theorem okE{l:List aa}:OkM (emod l)↔l.length<=256/\aeu l:=by
 unfold OkM adG aec
 have e:iadd .i64 ((0:Nat):Int) ((0:Nat):Int)=0:=by decide +kernel
 simp only[e,List.length_nil]
 constructor
 ·exact λh=>⟨by omega,h.2.2.1⟩
 ·intro h
  refine⟨by omega,⟨?_,?_,?_,?_,?_⟩,h.2,?_,?_⟩ <;> (intro x hx;cases hx)
theorem fitT{l:List ab}(hl:l.length<=4000000000000000000)(h:∀ t∈l,FitT t):Fit (tmod l):=by
 refine⟨hl,?_,?_,?_,?_,?_,?_,?_,h,?_⟩ <;> first | (simp;done) | (intro x hx;cases hx)
theorem fitE{l:List aa}(hl:l.length<=4000000000000000000):Fit (emod l):=by
 refine⟨?_,?_,?_,?_,?_,hl,?_,?_,?_,?_⟩ <;> first | (simp;done) | (intro x hx;cases hx)
structure FitP(p:ah):Prop where
 m:Fit p.Module
 s:p.Slots.Globals.length<=4000000000000000000
 b:p.Layout.Base.length<=4000000000000000000
 z:p.Layout.Size.length<=4000000000000000000
 g:p.Layout.Grow.length<=4000000000000000000
 t:p.Types.length<=4000000000000000000
 ts:∀ t∈p.Types,FitT t
 n:p.Names.length<=4000000000000000000
 h:p.Hidden.length<=4000000000000000000
structure Nums(p:ah):Prop where
 i1:∀ n∈p.Slots.Globals,inR .i64 n
 i2:∀ n∈p.Layout.Base,inR .i64 n
 i3:∀ n∈p.Layout.Size,inR .i64 n
 i4:∀ n∈p.Layout.Grow,inR .i64 n
structure RPl(p:ah):Prop where
 m:OkM p.Module
 s:p.Slots.Globals.length=0∨p.Slots.Globals.length=24
 l:p.Layout.Base.length<=4/\p.Layout.Size.length<=4/\p.Layout.Grow.length<=4
 n1:Num p.Slots.Globals
 n2:Num p.Layout.Base
 n3:Num p.Layout.Size
 n4:Num p.Layout.Grow
 t:p.Types.length<=512
 ts:∀ t∈p.Types,acp t
 e:OkM (emod p.Names)
 h:OkM (emod p.Hidden)
 x:p.Layout.Extra=0
 r:(0<=p.Extra/\p.Extra<=16)/\(0<=p.Mems/\p.Mems<=4)/\0<=p.Globals/\p.Globals<=256
theorem abN(n m:Int):Wp (λk=>aQ.f k n m) (Tell (0<=n/\n<=m)):=by
 refine .succ ?_
 simp only[aQ.f]
 exact .ite (λh=>.one (.dec (by omega))) (λh=>.one (.no (by omega)))
theorem abZ{l:List Int}(hl:l.length<=4000000000000000000)(hi:∀ n∈l,inR .i64 n):Wp (λk=>aM.f k l) (Tell (Num l)):=by
 refine .succ ?_
 simp only[aM.f]
 refine aa1 (.succ ?_)
 simp only[bM.f]
 refine aaz (.succ ?_)
 simp only[bJ.f]
 refine abf l hl (λn=>-1<=n/\n<=512) (λe he=>.succ ?_)
 simp only[bL.f]
 obtain⟨h0,h1⟩:-9223372036854775808<=e/\e<=9223372036854775807:=hi e he
 by_cases hm:e=9223372036854775807
 ·subst hm
  have e1:iadd .i64 9223372036854775807 1 = -9223372036854775808:=by decide +kernel
  rw[e1]
  exact .bind (abN _ _) (λr hr=>.nif hr (λ_=>.one (.yes (by omega))) (λh=>(by omega)))
 ·rw[aah (by omega) (by omega)]
  exact .bind (abN _ _) (λr hr=>.nif hr (λh=>.one (.yes (by omega))) (λh=>.one (.dec (by omega))))
theorem abU{l:List Int}(hl:l.length<=4000000000000000000)(m:Int):Wp (λk=>aC.f k l m) (Tell (Num l/\(l.length:Int)<=m)):=by
 refine .succ ?_
 simp only[aC.f]
 refine .alt (aa2 (O:=Unit) l hl (λn=>-1<=n/\n<=512) (λ_ _=>True) (λi e he hm=>?_)) (λ_ h=>.one (.dec ⟨λq=>⟨h,q⟩,λq=>q.2⟩)) (λ_ h=>.one (.no λq=>h.1 q.1))
 exact aal he (.ite (λh=>.one (.off (by omega))) (λh1=>aal he (.ite (λh=>.one (.off (by omega))) (λh2=>.one (.on (by omega))))))
theorem akW{X:Type}{F:Nat->Unit->X->Option (Unit⊕Unit)}{q:X->Prop}:∀ {xs:List X},(∀ x∈xs,Wp (λk=>F k () x) (λr=>(q x/\r = .inl ())∨(¬q x/\r = .inr ()))) →
  Wp (λk=>rngB (F k) xs ()) (aaR (λ_=>∀ x∈xs,q x) (λ_=>¬∀ x∈xs,q x))
 | [],_=>.left λx hx=>by cases hx
 | x::xs,h=>by
  obtain⟨a,ha,K,hK⟩:=h x (List.mem_cons_self ..)
  obtain⟨b,hb,J,hJ⟩:=akW (xs:=xs) λy hy=>h y (List.mem_cons_of_mem _ hy)
  rcases ha with⟨hq,rfl⟩ | ⟨hq,rfl⟩
  ·refine⟨b,?_,max K J,λk hk=>?_⟩
   ·cases b with
    | inl u=>exact λy hy=>(List.mem_cons.1 hy).elim (λe=>e ▸ hq) (hb y)
    | inr u=>exact λhall=>hb λy hy=>hall y (List.mem_cons_of_mem _ hy)
   ·simp only[rngB,hK k (by omega)]
    exact hJ k (by omega)
  ·refine⟨.inr (),λhall=>hq (hall x (List.mem_cons_self ..)),K,λk hk=>?_⟩
   simp only[rngB,hK k hk]
theorem aej{α:Type}{n:Nat}:∀ (f:Nat) (l:List α) (c:List α),c∈chunkF f n l->c.length<=n/\∀ x∈c,x∈l
 | 0,l,c,h=>by simp[chunkF]at h
 | f+1,[],c,h=>by simp[chunkF]at h
 | f+1,y::r,c,h=>by
  simp only[chunkF,List.mem_cons]at h
  rcases h with rfl | h
  ·exact⟨by rw[List.length_take];omega,λx hx=>List.mem_of_mem_take hx⟩
  ·obtain⟨h1,h2⟩:=aej f _ c h
   exact⟨h1,λx hx=>List.mem_of_mem_drop (h2 x hx)⟩
theorem aeO{α:Type}{n:Nat}(hn:0<n):∀ (f:Nat) (l:List α),l.length<=f->∀ x∈l,∃ c∈chunkF f n l,x∈c
 | 0,l,h,x,hx=>by have:l=[]:=List.eq_nil_of_length_eq_zero (by omega);subst this;cases hx
 | f+1,[],h,x,hx=>by cases hx
 | f+1,y::r,h,x,hx=>by
  rw[<-List.take_append_drop n (y::r),List.mem_append]at hx
  simp only[chunkF,List.mem_cons]
  rcases hx with hx | hx
  ·exact⟨_,.inl rfl,hx⟩
  ·obtain⟨c,h1,h2⟩:=aeO hn f ((y::r).drop n) (by simp only[List.length_drop,List.length_cons]at h ⊢;omega) x hx
   exact⟨c,.inr h1,h2⟩
theorem ajV{l:List ab}(hl:l.length<=4000000000000000000)(h:∀ t∈l,FitT t):Wp (λk=>bC.f k l) (Tell (∀ t∈l,acp t)):=by
 refine .succ ?_
 simp only[bC.f]
 refine .bind (Q:=(· = (l,(64:Int)))) (.succ (by simp only[eh.f];exact .neg (by omega) (.one rfl))) (λr hr=>?_)
 subst hr
 have hs:shortC (64:Int) (List.map ab.e l)=true:=by
  simp only[shortC,aiy,List.length_map,Bool.and_eq_true,decide_eq_true_eq];omega
 simp only[hs,cond_true]
 refine .alt (akW (q:=λc=>∀ t∈c,acp t) (λc hc=>?_)) (λ_ h=>.one (.yes λt ht=>?_)) (λ_ h=>.one (.no λq=>h λc hc t ht=>q t ((aej _ _ c hc).2 t ht)))
 ·obtain⟨g1,g2⟩:=aej _ _ c hc
  simp only[bC.r6]
  refine .bind (afB (tmod c) (fitT (by simp at g1;omega) λt ht=>h t (g2 t ht))) (λr hr=>?_)
  have:=ahd hr
  rw[okT (by simpa using g1)]at this
  exact .ite (λh=>.one (.inl ⟨this.1 h,rfl⟩)) (λh=>.one (.inr ⟨λq=>h (this.2 q),rfl⟩))
 ·obtain⟨c,h1,h2⟩:=aeO (n:=64) (by omega) l.length l (Nat.le_refl _) t ht
  exact h c h1 t h2
theorem aem{l:List aa}(hl:l.length<=4000000000000000000):Wp (λk=>bt.f k l) (Tell (OkM (emod l))):=by
 refine .succ ?_
 simp only[bt.f]
 exact .bind (afB (emod l) (fitE hl)) (λr hr=>.one (.dec (ahd hr)))
theorem aek{p:ah}(h:FitP p)(hn:Nums p):Wp (λk=>bj.f k p) (Tell (RPl p)):=by
 refine .succ ?_
 simp only[bj.f]
 refine .seg (Q:=Tell (¬(OkM p.Module/\(p.Slots.Globals.length=0∨p.Slots.Globals.length=24)))) ?_ (λx hx=>.tif hx (λh=>.one (.no λq=>h ⟨q.m,q.s⟩)) (λh1=>?_))
 ·refine .bind (afB _ h.m) (λr hr=>?_)
  have:=ahd hr
  exact .ite (λh=>.ite (λh1=>.left (.no λq=>q ⟨this.1 h,by omega⟩)) (λh1=>.ite (λh2=>.left (.no λq=>q ⟨this.1 h,by omega⟩)) (λh2=>.left (.yes λq=>by omega)))) (λh=>.left (.yes λq=>h (this.2 q.1)))
 have h1:=Classical.not_not.1 h1
 refine .seg (Q:=Tell (¬(p.Layout.Base.length<=4/\p.Layout.Size.length<=4/\p.Layout.Grow.length<=4))) ?_ (λx hx=>.tif hx (λh=>.one (.no λq=>h q.l)) (λh2=>?_))
 ·exact .ite (λh=>.left (.yes (by omega))) (λh1=>.ite (λh=>.left (.yes (by omega))) (λh2=>.ite (λh=>.left (.yes (by omega))) (λh3=>.left (.no (by omega)))))
 have h2:=Classical.not_not.1 h2
 refine .seg (Q:=Tell (¬(Num p.Slots.Globals/\Num p.Layout.Base/\Num p.Layout.Size/\Num p.Layout.Grow))) ?_ (λx hx=>.tif hx (λh=>.one (.no λq=>h ⟨q.n1,q.n2,q.n3,q.n4⟩)) (λh3=>?_))
 ·refine .bind (abZ h.s hn.i1) (λr hr=>.nif hr (λh=>.left (.yes λq=>h q.1)) (λa1=>?_))
  refine .bind (abZ h.b hn.i2) (λr hr=>.nif hr (λh=>.left (.yes λq=>h q.2.1)) (λa2=>?_))
  refine .bind (abZ h.z hn.i3) (λr hr=>.nif hr (λh=>.left (.yes λq=>h q.2.2.1)) (λa3=>?_))
  exact .bind (abZ h.g hn.i4) (λr hr=>.nif hr (λh=>.left (.yes λq=>h q.2.2.2)) (λa4=>.left (.no λq=>q ⟨a1,a2,a3,a4⟩)))
 have h3:=Classical.not_not.1 h3
 refine .seg (Q:=Tell (¬(p.Types.length<=512/\(∀ t∈p.Types,acp t)/\OkM (emod p.Names)/\OkM (emod p.Hidden)))) ?_ (λx hx=>.tif hx (λh=>.one (.no λq=>h ⟨q.t,q.ts,q.e,q.h⟩)) (λh4=>?_))
 ·refine .ite (λh=>.left (.yes (by omega))) (λa0=>?_)
  refine .bind (ajV h.t h.ts) (λr hr=>.nif hr (λh=>.left (.yes λq=>h q.2.1)) (λa1=>?_))
  refine .bind (aem h.n) (λr hr=>.nif hr (λh=>.left (.yes λq=>h q.2.2.1)) (λa2=>?_))
  exact .bind (aem h.h) (λr hr=>.nif hr (λh=>.left (.yes λq=>h q.2.2.2)) (λa3=>.left (.no λq=>q ⟨by omega,a1,a2,a3⟩)))
 have h4:=Classical.not_not.1 h4
 refine .ite (λh5=>?_) (λh=>.one (.no λq=>h q.x))
 refine .bind (abN _ _) (λr hr=>.tif hr (λa1=>?_) (λh=>.one (.no λq=>h q.r.1)))
 refine .bind (abN _ _) (λr hr=>.tif hr (λa2=>?_) (λh=>.one (.no λq=>h q.r.2.1)))
 exact .bind (abN _ _) (λr hr=>.one (hr.iff ⟨λa3=>⟨h1.1,h1.2,h2,h3.1,h3.2.1,h3.2.2.1,h3.2.2.2,h4.1,h4.2.1,h4.2.2.1,h4.2.2.2,h5,a1,a2,a3⟩,λq=>q.r.2.2⟩))
theorem ai6{p:ah}(hl:p.Types.length<=512)(h:∀ t∈p.Types,FitT t):Wp (λk=>loopS (bv.b7 k p) k (0:Int)) (aaR (λ_=>∀ t∈p.Types,acp t) (λ_=>¬∀ t∈p.Types,acp t)):=by
 refine .loop (λ(n:Nat) (i:Int)=>∃ j:Nat,i=(j:Int)/\n=p.Types.length+64-j/\j<=p.Types.length+63/\∀ t∈p.Types.take j,acp t) (λn i hi=>?_) (n:=p.Types.length+64) ⟨0,rfl,by omega,by omega,by simp⟩
 obtain⟨j,rfl,hn,hj,hall⟩:=hi
 simp only[bv.b7]
 refine .ite (λhlt=>?_) (λhge=>.right ?_)
 ·have em:imin (iadd .i64 (j:Int) 64) (p.Types.length:Int)=((min (j+64) p.Types.length:Nat):Int):=by
   rw[aah (by omega) (by omega)]
   unfold imin
   split <;> omega
  rw[em,aah (by omega) (by omega)]
  refine .pos ⟨by omega,by omega,by omega⟩ ?_
  simp only[Int.toNat_natCast]
  obtain⟨c,hc⟩:∃ c,List.drop j (List.take (min (j+64) p.Types.length) p.Types)=c:=⟨_,rfl⟩
  rw[hc]
  have hcl:c.length<=64:=by rw[<-hc];simp only[List.length_drop,List.length_take];omega
  have hcm:∀ t∈c,t∈p.Types:=λt ht=>by rw[<-hc]at ht;exact List.mem_of_mem_take (List.mem_of_mem_drop ht)
  refine .bind (acM (tmod c) (fitT (by omega) λt ht=>h t (hcm t ht))) (λr hr=>?_)
  have:=ahd hr
  rw[okT hcl]at this
  refine .ite (λh0=>.left ⟨n-64,by omega,j+64,by omega,by omega,by omega,λt ht=>?_⟩) (λh0=>.right λhall=>h0 (this.2 λt ht=>hall t (hcm t ht)))
  by_cases hjt:t∈p.Types.take j
  ·exact hall t hjt
  ·refine this.1 h0 t ?_
   rw[<-hc]
   have e1:p.Types.take (j+64)=p.Types.take (min (j+64) p.Types.length):=by rw[<-List.take_take,List.take_length]
   rw[e1,<-List.take_append_drop j (p.Types.take (min (j+64) p.Types.length)),List.mem_append,List.take_take]at ht
   rcases ht with ht | ht
   ·rw[show min j (min (j+64) p.Types.length)=j from by omega]at ht
    exact(hjt ht).elim
   ·exact ht
 ·have hr:=hall
  rw[List.take_of_length_le (by omega)]at hr
  exact hr
theorem ad9{p:ah}(h:FitP p):Wp (λk=>bv.f k p) (Tell (RPl p)):=by
 refine .succ ?_
 simp only[bv.f]
 have num:∀ {l1 l2 l3 l4:List Int}{m1:Int},l1.length<=4000000000000000000->l2.length<=4000000000000000000->l3.length<=4000000000000000000->l4.length<=4000000000000000000->(l1.length:Int)<=m1 →
   Wp (λk=>(aC.f k l1 m1).bind λr80=>(if(!r80)=true then(some (.inr false))else((aC.f k l2 (4:Int)).bind λr82=>(if(!r82)=true then(some (.inr false))else((aC.f k l3 (4:Int)).bind λr84=>(if(!r84)=true then(some (.inr false))else((aC.f k l4 (4:Int)).bind λr86=>(if(!r86)=true then(some (.inr false))else(some (.inl ():Unit⊕Bool))))))))))
   (aaR (λ_=>Num l1/\(Num l2/\l2.length<=4)/\(Num l3/\l3.length<=4)/\Num l4/\l4.length<=4) (λr=>r=false/\¬(Num l1/\(Num l2/\l2.length<=4)/\(Num l3/\l3.length<=4)/\Num l4/\l4.length<=4))):=by
  intro l1 l2 l3 l4 m1 e1 e2 e3 e4 hm
  refine .bind (abU e1 m1) (λr hr=>.nif hr (λh=>.right ⟨rfl,λq=>h ⟨q.1,hm⟩⟩) (λa1=>?_))
  refine .bind (abU e2 4) (λr hr=>.nif hr (λh=>.right ⟨rfl,λq=>h ⟨q.2.1.1,by have:=q.2.1.2;omega⟩⟩) (λa2=>?_))
  refine .bind (abU e3 4) (λr hr=>.nif hr (λh=>.right ⟨rfl,λq=>h ⟨q.2.2.1.1,by have:=q.2.2.1.2;omega⟩⟩) (λa3=>?_))
  exact .bind (abU e4 4) (λr hr=>.nif hr (λh=>.right ⟨rfl,λq=>h ⟨q.2.2.2.1,by have:=q.2.2.2.2;omega⟩⟩) (λa4=>.left ⟨a1.1,⟨a2.1,by have:=a2.2;omega⟩,⟨a3.1,by have:=a3.2;omega⟩,a4.1,by have:=a4.2;omega⟩))
 refine .seg (Q:=λ_=>OkM p.Module/\(p.Slots.Globals.length=0∨p.Slots.Globals.length=24)/\Num p.Slots.Globals/\(Num p.Layout.Base/\p.Layout.Base.length<=4)/\(Num p.Layout.Size/\p.Layout.Size.length<=4)/\Num p.Layout.Grow/\p.Layout.Grow.length<=4) ?_ (λ_ h1=>?_)
 ·refine .bind (acM _ h.m) (λr hr=>?_)
  have:=ahd hr
  refine .ite (λh0=>.ite (λh1=>?_) (λh1=>.ite (λh2=>?_) (λh2=>.right (.no λq=>by have:=q.s;omega)))) (λh0=>.right (.no λq=>h0 (this.2 q.m)))
  ·refine(num h.s h.b h.z h.g (Int.le_refl _)).mono λr hr=>?_
   rcases r with u | b
   ·exact⟨this.1 h0,by omega,hr⟩
   ·obtain⟨rfl,hr⟩:=hr
    exact .no λq=>hr ⟨q.n1,⟨q.n2,q.l.1⟩,⟨q.n3,q.l.2.1⟩,q.n4,q.l.2.2⟩
  ·refine(num h.s h.b h.z h.g (Int.le_refl _)).mono λr hr=>?_
   rcases r with u | b
   ·exact⟨this.1 h0,by omega,hr⟩
   ·obtain⟨rfl,hr⟩:=hr
    exact .no λq=>hr ⟨q.n1,⟨q.n2,q.l.1⟩,⟨q.n3,q.l.2.1⟩,q.n4,q.l.2.2⟩
 obtain⟨b0,b1,b2,b3,b4,b5⟩:=h1
 refine .ite (λh=>.one (.no λq=>by have:=q.t;omega)) (λc0=>.ite (λc1=>?_) (λh=>.one (.no λq=>h q.x)))
 refine .ite (λh=>.one (.no λq=>by have:=q.r;omega)) (λc2=>.ite (λh=>.one (.no λq=>by have:=q.r;omega)) (λc3=>.ite (λh=>.one (.no λq=>by have:=q.r;omega)) (λc4=>.ite (λh=>.one (.no λq=>by have:=q.r;omega)) (λc5=>.ite (λh=>.one (.no λq=>by have:=q.r;omega)) (λc6=>.ite (λh=>.one (.no λq=>by have:=q.r;omega)) (λc7=>?_))))))
 refine .alt (ai6 (by omega) h.ts) (λ_ d1=>?_) (λ_ h=>.one (.no λq=>h q.ts))
 refine .bind (acM (emod p.Names) (fitE h.n)) (λr hr=>?_)
 have d2:=ahd hr
 refine .ite (λh0=>?_) (λh0=>.one (.no λq=>h0 (d2.2 q.e)))
 refine .bind (acM (emod p.Hidden) (fitE h.h)) (λr hr=>.one (.dec ?_))
 have d3:=ahd hr
 exact⟨λh9=>⟨b0,b1,⟨b3.2,b4.2,b5.2⟩,b2,b3.1,b4.1,b5.1,by omega,d1,d2.1 h0,d3.1 h9,c1,by omega⟩,λq=>d3.2 q.h⟩
end Mn
end Go.R4
namespace Go.R4
open Go.Proofs Go.Ev
set_option maxRecDepth 100000
namespace Mn
def typE(t:ab):List Int:=valE t.Params++valE t.Results
def planE(p:ah):List Int:=rowE p.Slots.Globals++(rowE p.Layout.Base++(rowE p.Layout.Size++(rowE p.Layout.Grow++(Lb.encU p.Extra++(Lb.encU p.Mems++(Lb.encU p.Globals ++
 (Lb.encU p.Types.length++(p.Types.flatMap typE++(shE p.Names++shE p.Hidden)))))))))
theorem exF{l:List aa}(h:OkM (emod l)):l.length<=256/\∀ x∈l,ExF x:=by
 obtain⟨h1,h2⟩:=okE.1 h
 refine⟨h1,λx hx=>?_⟩
 obtain⟨j,hj⟩:=List.getElem?_of_mem hx
 obtain⟨g1,g2,g3,_⟩:=h2 j x hj
 exact⟨g1.1,by omega,g2⟩
theorem acH{t:ab}(h:acp t):(typE t).length<=36:=by
 have h1:=ahp (l:=t.Params) (by have:=h.1.1;omega)
 have h2:=ahp (l:=t.Results) (by have:=h.2.1;omega)
 have:=h.1.1
 have:=h.2.1
 simp only[typE,List.length_append];omega
structure Lens(p:ah):Prop where
 a:(rowE p.Slots.Globals).length<=250
 b:(rowE p.Layout.Base).length<=250
 c:(rowE p.Layout.Size).length<=250
 d:(rowE p.Layout.Grow).length<=250
 e:(Lb.encU p.Extra).length<=10
 f:(Lb.encU p.Mems).length<=10
 g:(Lb.encU p.Globals).length<=10
 h:(Lb.encU (p.Types.length:Int)).length<=10
 i:(p.Types.flatMap typE).length<=18432
 j:(shE p.Names).length<=24074
 k:(shE p.Hidden).length<=24074
theorem lens{p:ah}(q:RPl p):Lens p:=by
 obtain⟨m,s,⟨l1,l2,l3⟩,n1,n2,n3,n4,t,ts,e,h,x,r⟩:=q
 obtain⟨e1,e2⟩:=exF e
 obtain⟨h1,h2⟩:=exF h
 have a1:=adS (by omega) n1
 have a2:=adS (by omega) n2
 have a3:=adS (by omega) n3
 have a4:=adS (by omega) n4
 have a5:=ack (g:=typE) (c:=36) λt ht=>acH (ts t ht)
 have a6:=aks (by omega) e2
 have a7:=aks (by omega) h2
 exact⟨by omega,by omega,by omega,by omega,aay (by omega) (by omega),aay (by omega) (by omega),aay (by omega) (by omega),aay (by omega) (by omega),by omega,by omega,by omega⟩
theorem age{p:ah}(q:RPl p):(planE p).length<=100000:=by
 obtain⟨a,b,c,d,e,f,g,h,i,j,k⟩:=lens q
 simp only[planE,List.length_append];omega
theorem acY{p:ah}(hf:FitP p)(hn:Nums p):Wp (λk=>aL.f k p) (λr=>(RPl p/\r=(0,planE p))∨(¬RPl p/\r=(12,[]))):=by
 refine .succ ?_
 simp only[aL.f]
 refine .bind (aek hf hn) (λr hr=>.nif hr (λh=>.one (.inr ⟨h,rfl⟩)) (λq=>?_))
 obtain⟨la,lb,lc,ld,le,lf,lg,lh,li,lj,lk⟩:=lens q
 have qq:=q
 obtain⟨m,s,⟨l1,l2,l3⟩,n1,n2,n3,n4,t,ts,e,h,x,r1⟩:=q
 obtain⟨e1,e2⟩:=exF e
 obtain⟨h1,h2⟩:=exF h
 refine .bind (afs (by omega) n1) (λr hr=>?_);subst hr
 refine .bind (afs (by omega) n2) (λr hr=>?_);subst hr
 refine .bind (afs (by omega) n3) (λr hr=>?_);subst hr
 refine .bind (afs (by omega) n4) (λr hr=>?_);subst hr
 refine .bind (aer (by omega) (by omega)) (λr hr=>?_);subst hr
 refine .bind (aer (by omega) (by omega)) (λr hr=>?_);subst hr
 refine .bind (aer (by omega) (by omega)) (λr hr=>?_);subst hr
 refine .bind (aer (by omega) (by omega)) (λr hr=>?_);subst hr
 refine .bind (an2 (by omega)) (λr8 hr8=>?_)
 have l8:r8.length<=1040:=by rw[hr8];simp only[List.length_append];omega
 refine .bind (aa6 (l:=p.Types) (g:=typE) (by omega) (λi e he hm hx=>?_) (λh=>?_)) (λr9 hr9=>?_)
 ·have ht:=aaB (l:=p.Types) (g:=typE) (c:=36) (λt ht=>acH (ts t ht)) i
  have hp:=ts e hx
  have hl:=acH hp
  simp only[typE,List.length_append]at hl
  simp only[aL.b5]
  refine .pos (by omega) (aal hm ?_)
  refine .bind (ajo (by have:=hp.1.1;omega)) (λr1 hr1=>.bind (ajo (by have:=hp.2.1;omega)) (λr2 hr2=>?_))
  subst hr1;subst hr2
  refine .bind (aj1 (by simp only[List.length_append];omega)) (λr hr=>.one ?_)
  subst hr
  simp only[typE,List.append_assoc]
 ·simp only[aL.b5]
  exact .neg (by omega) (.one rfl)
 refine .bind (amG (by omega) e2) (λr1 hr1=>.bind (amG (by omega) h2) (λr2 hr2=>?_))
 subst hr1;subst hr2
 refine .bind (aj1 (by rw[hr9];simp only[List.length_append];omega)) (λr hr=>.one (.inl ⟨qq,?_⟩))
 subst hr;subst hr9;subst hr8
 simp only[planE,List.append_assoc]
theorem ad3{p:ah}(q:RPl p):Wp (λk=>bu.f k p) (· = planE p):=by
 obtain⟨la,lb,lc,ld,le,lf,lg,lh,li,lj,lk⟩:=lens q
 obtain⟨m,s,⟨l1,l2,l3⟩,n1,n2,n3,n4,t,ts,e,h,x,r1⟩:=q
 obtain⟨e1,e2⟩:=exF e
 obtain⟨h1,h2⟩:=exF h
 have rm:∀ {n:Nat},n<=100000->aac n 1:=λh=>aab (by omega) (by omega)
 refine .succ ?_
 simp only[bu.f]
 refine .bind (afq (by omega) n1) (λr hr=>?_);subst hr
 refine .bind (afq (by omega) n2) (λr hr=>.pos ?_ ?_);subst hr
 ·exact rm (by omega)
 subst hr
 refine .bind (afq (by omega) n3) (λr hr=>.pos ?_ ?_);subst hr
 ·exact rm (by simp only[List.length_append];omega)
 subst hr
 refine .bind (afq (by omega) n4) (λr hr=>.pos ?_ ?_);subst hr
 ·exact rm (by simp only[List.length_append];omega)
 subst hr
 refine .bind (aeh (by omega) (by omega)) (λr hr=>.pos ?_ ?_);subst hr
 ·exact rm (by simp only[List.length_append];omega)
 subst hr
 refine .bind (aeh (by omega) (by omega)) (λr hr=>.pos ?_ ?_);subst hr
 ·exact rm (by simp only[List.length_append];omega)
 subst hr
 refine .bind (aeh (by omega) (by omega)) (λr hr=>.pos ?_ ?_);subst hr
 ·exact rm (by simp only[List.length_append];omega)
 subst hr
 refine .bind (aeh (by omega) (by omega)) (λr hr=>.pos ?_ ?_);subst hr
 ·exact rm (by simp only[List.length_append];omega)
 subst hr
 obtain⟨h0,hh0⟩:∃ h0,rowE p.Slots.Globals++rowE p.Layout.Base++rowE p.Layout.Size++rowE p.Layout.Grow++Lb.encU p.Extra++Lb.encU p.Mems++Lb.encU p.Globals++Lb.encU (p.Types.length:Int)=h0:=⟨_,rfl⟩
 rw[hh0]
 have l8:h0.length<=1040:=by rw[<-hh0];simp only[List.length_append];omega
 refine .bind (aa6 (l:=p.Types) (g:=typE) (by omega) (λi e he hm hx=>?_) (λh=>?_)) (λr9 hr9=>?_)
 ·have ht:=aaB (l:=p.Types) (g:=typE) (c:=36) (λt ht=>acH (ts t ht)) i
  have hp:=ts e hx
  have hl:=acH hp
  simp only[typE,List.length_append]at hl
  simp only[bu.b5]
  refine .pos (by omega) (aal hm ?_)
  refine .bind (aiR (by have:=hp.1.1;omega)) (λr1 hr1=>.pos ?_ (.bind (aiR (by have:=hp.2.1;omega)) (λr2 hr2=>.pos ?_ (.one ?_))))
  ·subst hr1;exact rm (by simp only[List.length_append];omega)
  ·subst hr1;subst hr2;exact rm (by simp only[List.length_append];omega)
  ·subst hr1;subst hr2;simp only[typE,List.append_assoc]
 ·simp only[bu.b5]
  exact .neg (by omega) (.one rfl)
 refine .bind (amD (by omega) e2) (λr1 hr1=>.pos ?_ (.bind (amD (by omega) h2) (λr2 hr2=>.pos ?_ (.one ?_))))
 ·subst hr1;subst hr9;exact rm (by simp only[List.length_append];omega)
 ·subst hr1;subst hr2;subst hr9;exact rm (by simp only[List.length_append];omega)
 ·subst hr1;subst hr2;subst hr9;subst hh0
  simp only[planE,List.append_assoc]
end Mn
end Go.R4
