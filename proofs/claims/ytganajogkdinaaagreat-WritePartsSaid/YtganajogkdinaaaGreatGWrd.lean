import Derived.Test.YtganajogkdinaaaGreatGLebW
import Derived.Test.YtganajogkdinaaaGreatGRight2P
import Derived.KernelRfl
set_option linter.all false
namespace Go.R4
open Go.Proofs Go.Ev
set_option maxRecDepth 100000
namespace Wr
open Lb
theorem aby{α:Type}{g:α->List Int}{c:Nat}:∀ {l:List α},(∀ x∈l,(g x).length<=c)->(l.flatMap g).length<=c*l.length
 | [],_=>by simp
 | x::l,h=>by
  have h1:=h x (List.mem_cons_self ..)
  have h2:=aby (l:=l) λy hy=>h y (List.mem_cons_of_mem _ hy)
  simp only[List.flatMap_cons,List.length_append,List.length_cons,Nat.mul_succ]
  omega
theorem abp{α:Type}{l:List α}(hl:l.length<=4000000000000000000){g:α->List Int}{h0:List Int}{B:Nat->(Int×List Int)->Option ((Int×List Int)⊕List Int)}
  (hB:∀ (i:Nat) e,i<l.length->l[i]?=some e->e∈l->Wp (λk=>B k ((i:Int),h0++(l.take i).flatMap g)) (· = .inl (iadd .i64 (i:Int) 1,h0++(l.take i).flatMap g++g e)))
  (hend:∀ h,Wp (λk=>B k ((l.length:Int),h)) (· = .inr h)):Wp (λk=>loopS (B k) k ((0:Int),h0)) (· = h0++l.flatMap g):=by
 refine .loop (λ(n:Nat) (v:Int×List Int)=>∃ i:Nat,i+n=l.length/\v=((i:Int),h0++(l.take i).flatMap g)) (λn v hv=>?_) (n:=l.length) ⟨0,by omega,by simp⟩
 obtain⟨i,h1,rfl⟩:=hv
 cases n with
 | zero=>
  have:i=l.length:=by omega
  subst this
  refine(hend _).mono λa ha=>?_
  subst ha
  simp[aaT]
 | succ n=>
  have hi:i<l.length:=by omega
  refine(hB i l[i] hi (List.getElem?_eq_getElem hi) (List.getElem_mem hi)).mono λa ha=>?_
  subst ha
  refine⟨n,by omega,i+1,by omega,?_⟩
  have e:(l.take (i+1)).flatMap g=(l.take i).flatMap g++g l[i]:=by
   rw[<-List.take_append_getElem hi,List.flatMap_append,List.flatMap_cons,List.flatMap_nil,List.append_nil]
  rw[aai (by omega) (by omega),e,List.append_assoc]
  rfl
theorem aaQ{α:Type}{g:α->List Int}{c:Nat}{l:List α}(h:∀ x∈l,(g x).length<=c)(i:Nat):((l.take i).flatMap g).length<=c*l.length:=
 Nat.le_trans (aby λx hx=>h x (List.mem_of_mem_take hx)) (Nat.mul_le_mul_left _ (by rw[List.length_take];omega))
theorem aiN{n:Int}(h0:0<=n)(h1:n<18446744073709551616):icv .u64 n=n:=by
 show IntKind.u64.wrap n=n
 rw[Lb.wrap_u64];omega
def tot:List (List Int)->Nat
 | []=>0
 | x::r=>x.length+tot r
theorem agM{l:List (List Int)}{i:Nat}{x:List Int}(h:l[i]?=some x):tot (l.drop i)=x.length+tot (l.drop (i+1)):=by
 have hi:i<l.length:=(List.getElem?_eq_some_iff.1 h).1
 have:l.drop i=x::l.drop (i+1):=by
  rw[List.drop_eq_getElem_cons hi]
  rw[List.getElem?_eq_getElem hi]at h
  cases h;rfl
 rw[this];rfl
theorem anN{n:Int}(h0:0<=n)(h1:n<=140737488355328):Wp (λk=>dg.f k n) (λr=>r.1=0/\(r.2.length:Int)=n):=by
 refine .succ ?_
 simp only[dg.f]
 refine .neg (by omega) ?_
 rw[aaq (by omega) (by omega),Int.sub_zero]
 refine .ite (λh=>.pos ⟨h0,aab (by omega) (by omega)⟩ (.pos ⟨by omega,by omega,by omega⟩ (.one ⟨by simp,by simp;omega⟩))) (λh=>.one ⟨rfl,by simp;omega⟩)
theorem amq{l:List (List Int)}(h1:tot l<=140737488355328)(h2:l.length<=1000000){B1:Nat->(Int×Int)->Option ((Int×Int)⊕Int)}{B2:Nat->(Nat×Int×List Int)->Option ((Nat×Int×List Int)⊕(Nat×List Int))}
  (e1:∀ k n i,B1 k (n,i)=if i<(l.length:Int)then((at? l i).bind λe=>if(iadd .i64 n (e.length:Int))<0 then none else some (.inl (iadd .i64 n (e.length:Int),iadd .i64 i 1)))else some (.inr n))
  (e2:∀ k n i q,B2 k (n,i,q)=if i<(l.length:Int)then((at? l i).bind λe=>((if(0+n)+e.length<=q.length then some ()else none).bind λ_=>some (.inl (n+e.length,iadd .i64 i 1,overL q (0+n) e))))else some (.inr (n,q))) :
  Wp (λk=>(loopS (B1 k) k ((0:Int),(0:Int))).bind λsize=>(dg.f k size).bind λ(r,q)=>(loopS (B2 k) k (r,(0:Int),q)).bind λ(n,h)=>if n<=h.length then some (List.take n h)else none) (· = l.flatten):=by
 refine .bind (Q:=λr=>r=(tot l:Int)) ?_ (λn hn=>?_)
 ·refine .loop (λ(m:Nat) (v:Int×Int)=>0<=v.2/\v.2+(m:Int)=l.length/\v.1+(tot (l.drop v.2.toNat):Int)=tot l/\0<=v.1) (λm v hv=>?_) (n:=l.length) ⟨by simp,by simp,by simp,by simp⟩
  obtain⟨n,i⟩:=v
  obtain⟨g1,g2,g3,g4⟩:=hv
  dsimp only at g1 g2 g3 g4
  simp only[e1]
  refine .ite (λhi=>?_) (λhi=>.right ?_)
  ·refine .bind (.idx g1 hi) (λx hx=>?_)
   have:=agM hx
   rw[aai (by omega) (by omega)]
   refine .neg (by omega) (.left ⟨m-1,by omega,?_⟩)
   rw[aai (by omega) (by omega)]
   dsimp only
   rw[show(i+1).toNat=i.toNat+1 from by omega]
   exact⟨by omega,by omega,by omega,by omega⟩
  ·rw[List.drop_of_length_le (by omega)]at g3
   simp only[tot]at g3
   omega
 subst hn
 refine .bind (anN (by omega) (by omega)) (λr hr=>?_)
 obtain⟨n,q⟩:=r
 obtain⟨e1,e2'⟩:=hr
 dsimp only at e1 e2' ⊢
 subst e1
 refine .bind (Q:=λr=>r.1<=r.2.length/\r.2.take r.1=l.flatten) ?_ (λr hr=>?_)
 rotate_left
 ·obtain⟨n,q⟩:=r
  exact .pos hr.1 (.one hr.2)
 refine .loop (λ(m:Nat) (v:Nat×Int×List Int)=>0<=v.2.1/\v.2.1+(m:Int)=l.length/\v.1+tot (l.drop v.2.1.toNat)=v.2.2.length/\v.2.2.take v.1=(l.take v.2.1.toNat).flatten) (λm v hv=>?_) (n:=l.length) ⟨by simp,by simp,by simp;omega,by simp⟩
 obtain⟨n,i,q⟩:=v
 obtain⟨g1,g2,g3,g4⟩:=hv
 dsimp only at g1 g2 g3 g4
 simp only[e2]
 refine .ite (λhi=>?_) (λhi=>.right ?_)
 ·refine .bind (.idx g1 hi) (λx hx=>?_)
  have hd:=agM hx
  refine .bind (Q:=λ_=>True) (.pos (by omega) (.one trivial)) (λ_ _=>.left ⟨m-1,by omega,?_⟩)
  rw[aai (by omega) (by omega)]
  dsimp only
  have hlen:(overL q (0+n) x).length=q.length:=over_len (by omega)
  rw[show(i+1).toNat=i.toNat+1 from by omega,hlen]
  refine⟨by omega,by omega,by omega,?_⟩
  rw[List.take_add_one,hx]
  simp only[Option.toList_some,List.flatten_append,List.flatten_cons,List.flatten_nil,List.append_nil]
  rw[<-g4]
  simp only[overL,Nat.zero_add]
  rw[<-List.append_assoc]
  exact List.take_left' (by rw[List.length_append,List.length_take];omega)
 ·rw[List.drop_of_length_le (by omega)]at g3
  rw[List.take_of_length_le (l:=l) (i:=i.toNat) (by omega)]at g4
  simp only[tot]at g3
  exact⟨by dsimp only;omega,g4⟩
theorem aeS{a b c:List Int}(h:a.length+b.length+c.length<=140737488355328):Wp (λk=>aM.f k a b c) (· = a++b++c):=by
 refine .succ ?_
 simp only[aM.f]
 refine(amq (l:=[a,b,c]) (by simp only[tot];omega) (by simp) (B1:=λk=>aM.b3 k a b c) (B2:=λk=>aM.b11 k a b c) (λk n i=>rfl) (λk n i q=>rfl)).mono λr hr=>?_
 rw[hr];simp
theorem aid{a b c d:List Int}(h:a.length+b.length+c.length+d.length<=140737488355328):Wp (λk=>aJ.f k a b c d) (· = a++b++c++d):=by
 refine .succ ?_
 simp only[aJ.f]
 refine(amq (l:=[a,b,c,d]) (by simp only[tot];omega) (by simp) (B1:=λk=>aJ.b3 k a b c d) (B2:=λk=>aJ.b11 k a b c d) (λk n i=>rfl) (λk n i q=>rfl)).mono λr hr=>?_
 rw[hr];simp
theorem aah{n:Int}(h0:0<=n)(h1:n<18446744073709551616):(encU n).length<=11:=by
 obtain⟨_,_,g⟩:=afa 10 n [] h0 (by omega)
 simp only[encU,List.length_append,List.length_cons,List.length_nil]at g ⊢
 omega
theorem afh{n:Int}(h:inR .i64 n):(encS n).length<=10:=by
 obtain⟨_,_,g⟩:=aeW 9 n [] (by have:=h.1;omega) (by have:=h.2;omega)
 simp only[encS,List.length_append,List.length_cons,List.length_nil]at g ⊢
 omega
theorem amj{n:Int}(h0:0<=n)(h1:n<18446744073709551616):Wp (λk=>dE.f k n) (· = encU n):=.at_ 20 (λk hk=>u_ok hk h0 h1) rfl
theorem ajf{n:Int}(h:inR .i64 n):Wp (λk=>dx.f k n) (· = encS n):=.at_ 20 (λk hk=>s_ok hk h.1 h.2) rfl
theorem abq{n:Int}(h0:0<=n)(h1:n<9223372036854775808):Wp (λk=>an.f k n) (· = encU n):=by
 refine .succ ?_
 simp only[an.f,aiN h0 (by omega)]
 exact .bind (amj h0 (by omega)) (λ_ h=>.one h)
def lisE(b:List Int):List Int:=encU b.length++b
theorem ab8{b:List Int}(h:b.length<=100000000000000):(lisE b).length<=b.length+11:=by
 have:=aah (n:=(b.length:Int)) (by omega) (by omega)
 simp only[lisE,List.length_append];omega
theorem acD{n:Int}{b:List Int}(h0:0<=n)(h1:n<9223372036854775808)(h:b.length<=100000000000000):Wp (λk=>aX.f k n b) (· = encU n++b):=by
 have:=aah h0 (by omega)
 refine .succ ?_
 simp only[aX.f]
 exact .bind (abq h0 h1) (λr hr=>by subst hr;exact .pos (aab (by omega) (by omega)) (.one rfl))
theorem ai0{n:Int}{b:List Int}(h0:0<=n)(h1:n<9223372036854775808)(h:b.length<=100000000000000):Wp (λk=>cP.f k n b) (· = encU n++b):=by
 have:=aah h0 (by omega)
 refine .succ ?_
 simp only[cP.f]
 exact .bind (abq h0 h1) (λr hr=>by subst hr;exact .pos (aab (by omega) (by omega)) (.one rfl))
def namE(s:ByteArray):List Int:=encU s.size++strL s
theorem abO{s:ByteArray}(h:s.size<=64):(namE s).length<=75:=by
 have:=aah (n:=(s.size:Int)) (by omega) (by omega)
 simp only[namE,List.length_append,aeq];omega
theorem acS{s:ByteArray}(h:s.size<=64):Wp (λk=>aZ.f k s) (· = namE s):=by
 refine .succ ?_
 simp only[aZ.f]
 exact .pos (by omega) (.bind (acD (by omega) (by omega) (by rw[aeq];omega)) (λr hr=>.one hr))
def kndE(l:List Int):List Int:=encU l.length++l.flatMap λt=>[icv .u8 t]
theorem afZ(l:List Int):(l.flatMap λt=>[icv .u8 t]).length=l.length:=by
 induction l with
 | nil=>rfl
 | cons x l ih=>simp[ih]
theorem ads{l:List Int}(h:l.length<=1000):(kndE l).length<=l.length+11:=by
 have:=aah (n:=(l.length:Int)) (by omega) (by omega)
 simp only[kndE,List.length_append,afZ];omega
theorem afO{l:List Int}(hl:l.length<=1000):Wp (λk=>aY.f k l) (· = kndE l):=by
 refine .succ ?_
 simp only[aY.f]
 refine .bind (abp (l:=l) (by omega) (h0:=[]) (g:=λt=>[icv .u8 t]) (λi e hi he _=>?_) (λh=>?_)) (λr hr=>?_)
 ·have:=aaQ (l:=l) (g:=λt=>[icv .u8 t]) (c:=1) (λx _=>by simp) i
  simp only[aY.b3]
  refine .pos (by omega) (adw he (.pos (aab (by simp at this ⊢;omega) (by simp at this ⊢;omega)) (.one rfl)))
 ·simp only[aY.b3]
  exact .neg (by omega) (.one rfl)
 ·subst hr
  exact .bind (acD (by omega) (by omega) (by simp only[List.nil_append,afZ];omega)) (λr hr=>.one hr)
end Wr
end Go.R4
namespace Go.R4
open Go.Proofs Go.Ev
set_option maxRecDepth 100000
namespace Wr
open Lb
theorem aot(n:Int):icv .u8 n=n % 256:=by
 show IntKind.u8.wrap n=n % 256
 simp only[IntKind.wrap,IntKind.signed,IntKind.bits]
 simp
theorem akR{n:Int}(h0:-9223372036854775808<=n)(h1:n<=9223372036854775807):inR .i64 n:=⟨h0,h1⟩
theorem ahf(n:Int):inR .i64 (icv .i64 n):=by
 show inR .i64 (IntKind.i64.wrap n)
 rw[Lb.wrap_i64];exact⟨by omega,by omega⟩
def blkE(a:Int):List Int:=if a = -1 then[64]else if a = -2 then[127]else if a = -3 then[126]else if a = -4 then[124]else encS a
theorem agP{a:Int}(h:inR .i64 a):(blkE a).length<=10:=by
 have:=afh h
 unfold blkE
 split
 ·simp
 split
 ·simp
 split
 ·simp
 split
 ·simp
 ·exact this
theorem aka{a:Int}(h:inR .i64 a):Wp (λk=>cX.f k a) (· = blkE a):=by
 refine .succ ?_
 simp only[cX.f,blkE]
 exact .ite (λh1=>.one (by rw[if_pos h1])) (λh1=>.ite (λh2=>.one (by rw[if_neg h1,if_pos h2])) (λh2=>.ite (λh3=>.one (by rw[if_neg h1,if_neg h2,if_pos h3]))
  (λh3=>.ite (λh4=>.one (by rw[if_neg h1,if_neg h2,if_neg h3,if_pos h4])) (λh4=>.bind (ajf h) (λr hr=>.one (by rw[if_neg h1,if_neg h2,if_neg h3,if_neg h4,hr]))))))
def eigE(n:Int):List Int:=(List.range 8).flatMap λi=>[n/2 ^ (8*i) % 256]
theorem am1(n:Int):(eigE n).length=8:=by simp only[eigE,List.length_flatMap,List.length_cons,List.length_nil];rfl
theorem aoJ{i e:Nat}(h:(List.range 8)[i]?=some e):e=i/\i<8:=by
 obtain⟨h1,h2⟩:=List.getElem?_eq_some_iff.1 h
 simp at h1 h2
 omega
theorem anl{i:ag}:Wp (λk=>loopS (aK.b8 k i) k ((0:Int),([]:List Int))) (· = eigE i.N):=by
 refine(abp (l:=List.range 8) (by simp) (h0:=[]) (g:=λj=>[i.N/2 ^ (8*j) % 256]) (λj e hj he _=>?_) (λh=>?_)).mono λr hr=>by rw[hr,List.nil_append,eigE]
 ·obtain⟨rfl,hj⟩:=aoJ he
  have:=aaQ (l:=List.range 8) (g:=λj=>[i.N/2 ^ (8*j) % 256]) (c:=1) (λx _=>by simp) e
  simp only[List.length_range]at this
  have e1:imul .i64 8 (e:Int)=((8*e:Nat):Int):=by rw[anu (akR (by omega) (by omega))];omega
  simp only[aK.b8]
  rw[e1,aeP (k:=.u64) (j:=8*e) (by simp only[IntKind.bits];omega),aot]
  refine .pos (by omega) (.pos (by omega) (.pos (aab (by simp only[List.length_append,List.length_nil];omega) (by simp only[List.length_append,List.length_nil];omega)) (.one rfl)))
 ·simp only[aK.b8,List.length_range]
  exact .neg (by omega) (.one rfl)
def sg32(n:Int):Int:=icv .i64 (icv .i32 (icv .u32 n))
theorem alh{n:Int}(h0:0<=n)(h1:n<18446744073709551616):Wp (λk=>dA.f k n 32) (· = sg32 n):=by
 refine .succ ?_
 have e:isub .i64 64 (imax 1 (imin 32 64))=32:=by decide +kernel
 simp only[dA.f,e]
 refine .pos (by omega) (.pos (by omega) (.one ?_))
 have e1:ishl .u64 n 32=n*2 ^ 32 % 18446744073709551616:=by
  show IntKind.u64.wrap (n*2 ^ 32)=_
  rw[Lb.wrap_u64]
 have e2:∀ y:Int,ishr .i64 y 32=y/2 ^ 32:=λy=>aeP (k:=.i64) (j:=32) (by decide)
 have e3:icv .u32 n=n % 4294967296:=by
  show IntKind.u32.wrap n=_
  simp only[IntKind.wrap,IntKind.signed,IntKind.bits]
  simp
 have e4:∀ y:Int,icv .i32 y=(y+2147483648) % 4294967296-2147483648:=λy=>by
  show IntKind.i32.wrap y=_
  simp only[IntKind.wrap,IntKind.signed,IntKind.bits,Int.bmod_def]
  simp
  omega
 have e5:∀ y:Int,icv .i64 y=(y+9223372036854775808) % 18446744073709551616-9223372036854775808:=λy=>Lb.wrap_i64 y
 unfold sg32
 rw[e2,e5,e5,e1,e3,e4]
 omega
def conE(op n:Int):List Int:=if op=65 then encS (sg32 n)else if op=66 then encS (icv .i64 n)else eigE n
theorem abL(op n:Int):(conE op n).length<=10:=by
 unfold conE
 split
 ·exact afh (ahf _)
 split
 ·exact afh (ahf _)
 ·rw[am1];omega
theorem an4{i:ag}(h0:0<=i.N)(h1:i.N<18446744073709551616):Wp (λk=>aK.f k i) (· = conE i.Op i.N):=by
 refine .succ ?_
 simp only[aK.f,conE]
 exact .ite (λh=>.bind (alh h0 h1) (λr hr=>.bind (ajf (by rw[hr];exact ahf _)) (λq hq=>.one (by rw[if_pos h,hq,hr]))))
  (λh=>.ite (λh2=>.bind (ajf (ahf _)) (λq hq=>.one (by rw[if_neg h,if_pos h2,hq]))) (λh2=>.bind anl (λq hq=>.one (by rw[if_neg h,if_neg h2,hq]))))
def accL:List Int:=[40,41,43,44,45,46,47,48,49,50,51,52,53,54,55,57,58,59,60,61,62]
def wid(op:Int):Int:=match aC.f 12 op with
 | some r=>r.1
 | none=>0
def lg(op:Int):Int:=match dL.f 20 (wid op)with
 | some r=>r
 | none=>0
def accOk(j:Nat)(op:Int):Bool:=((aC.f (j+12) op).map (·.1) == some (wid op))&&((aO.f (j+12) op).map (·.1) == some (wid op))&&(bb.f (j+20) (icv .u64 (wid op)) == some (lg op+1))&&(dL.f (j+20) (wid op) == some (lg op))&&(decide (0<=lg op)&&decide (lg op<=3))
theorem amJ(j:Nat):accL.all (accOk j)=true:=by kernel_rfl
theorem agy{op:Int}(h:acc op=true)(j:Nat):(aC.f (j+12) op).map (·.1)=some (wid op)/\(aO.f (j+12) op).map (·.1)=some (wid op)/\bb.f (j+20) (icv .u64 (wid op))=some (lg op+1)/\dL.f (j+20) (wid op)=some (lg op)/\0<=lg op/\lg op<=3:=by
 have hm:op∈accL:=by
  have:=akB.1 h
  simp only[accL,List.mem_cons,List.not_mem_nil,or_false]
  exact this
 have:=List.all_eq_true.1 (amJ j) op hm
 simp only[accOk,Bool.and_eq_true,beq_iff_eq,decide_eq_true_eq]at this
 obtain⟨⟨⟨⟨a,b⟩,c⟩,d⟩,e,f⟩:=this
 exact⟨a,b,c,d,e,f⟩
theorem am9(op:Int):Wp (λk=>aC.f k op) (λr=>r.2.2.2=acc op/\(acc op=true->r.1=wid op)):=by
 have h1:=aiI op
 by_cases h:acc op=true
 ·obtain⟨a,ha,K,hK⟩:=h1
  refine⟨a,⟨ha,λ_=>?_⟩,K,hK⟩
  have h2:=(agy h K).1
  have h3:aC.f (K+12) op=some a:=hK (K+12) (by omega)
  rw[h3]at h2
  simpa using h2
 ·exact h1.mono λr hr=>⟨hr,λq=>(h q).elim⟩
theorem amE{op:Int}(h:acc op=true):Wp (λk=>bb.f k (icv .u64 (wid op))) (· = lg op+1):=.at_ 20 (λk hk=>by
 obtain⟨j,rfl⟩:∃ j,k=j+20:=⟨k-20,by omega⟩
 exact(agy h j).2.2.1) rfl
theorem acJ{n:Int}(h0:0<=n)(h1:n<=127):encU n=[n]:=by
 have:runU 10 n []=(n,[]):=by simp only[runU];rw[if_neg (by omega)]
 simp only[encU,this,List.nil_append]
def accE(i:ag):List Int:=(if i.A=0 then[lg i.Op]else(lg i.Op+64)::encU i.A)++encU i.N
theorem ahF{i:ag}(h:acc i.Op=true)(ha:0<=i.A/\i.A<4)(h0:0<=i.N)(h1:i.N<=4294967295):Wp (λk=>cO.f k i (wid i.Op)) (· = accE i):=by
 obtain⟨_,_,_,_,g0,g1⟩:=agy h 0
 have l1:=aah (n:=i.A) (by omega) (by omega)
 have l2:=aah (n:=i.N) h0 (by omega)
 have e1:isub .i64 (lg i.Op+1) 1=lg i.Op:=by rw[aaq (by omega) (by omega)];omega
 refine .succ ?_
 simp only[cO.f]
 refine .bind (amE h) (λr hr=>?_)
 subst hr
 rw[e1]
 refine .bind (abq (by omega) (by omega)) (λr hr=>?_)
 subst hr
 refine .seg (Q:=λx=>x=if i.A=0 then[lg i.Op]else(lg i.Op+64)::encU i.A) ?_ (λx hx=>.bind (amj h0 (by omega)) (λr hr=>?_))
 ·refine .ite (λhp=>.bind (amE h) (λr hr=>?_)) (λhp=>.left ?_)
  ·subst hr
   rw[e1,aai (by omega) (by omega)]
   refine .bind (abq (by omega) (by omega)) (λr hr=>.bind (abq (by omega) (by omega)) (λs hs=>?_))
   subst hr hs
   rw[acJ (n:=lg i.Op+64) (by omega) (by omega)]
   exact .pos (aab (by simp;omega) (by simp;omega)) (.left (by rw[if_neg (by omega)];rfl))
  ·rw[if_pos (by omega),acJ g0 (by omega)]
 ·subst hr
  have:x.length<=12:=by rw[hx];split <;> simp <;> omega
  exact .pos (aab (by omega) (by omega)) (.one (by rw[accE,hx]))
def labE(l:List Int):List Int:=encU ((l.length:Int)-1)++l.flatMap encU
theorem aj1{l:List Int}(hl:l.length<=17)(h:∀ e∈l,0<=e/\e<65):(l.flatMap encU).length<=11*17:=
 Nat.le_trans (aby λx hx=>aah (h x hx).1 (by have:=h x hx;omega)) (Nat.mul_le_mul_left _ hl)
theorem ah2{l:List Int}(hl:1<=l.length/\l.length<=17)(h:∀ e∈l,0<=e/\e<65):Wp (λk=>bc.f k l) (· = labE l):=by
 have hf:=aj1 hl.2 h
 have h1:=aah (n:=(l.length:Int)-1) (by omega) (by omega)
 refine .succ ?_
 simp only[bc.f]
 refine .bind (abp (l:=l) (by omega) (h0:=[]) (g:=encU) (λi e hi he hm=>?_) (λh=>?_)) (λr hr=>?_)
 ·have:=aaQ (l:=l) (g:=encU) (c:=11) (λx hx=>aah (h x hx).1 (by have:=h x hx;omega)) i
  have h2:=aah (h e hm).1 (by have:=h e hm;omega)
  have h3:=h e hm
  simp only[bc.b3]
  refine .pos (by omega) (adw he (.bind (abq (by omega) (by omega)) (λr hr=>?_)))
  subst hr
  exact .pos (aab (by simp at this ⊢;omega) (by simp at this ⊢;omega)) (.one rfl)
 ·simp only[bc.b3]
  exact .neg (by omega) (.one rfl)
 ·subst hr
  rw[aaq (by omega) (by omega)]
  have em:imax 0 ((l.length:Int)-1)=(l.length:Int)-1:=by unfold imax;split <;> omega
  rw[em]
  refine .bind (abq (by omega) (by omega)) (λr hr=>?_)
  subst hr
  exact .pos (aab (by simp only[List.nil_append];omega) (by simp only[List.nil_append];omega)) (.one (by rw[List.nil_append,labE]))
def behE(i:ag):List Int:=match cls i.Op with
 | 0=>blkE i.A
 | 1=>accE i
 | 2 | 3=>conE i.Op i.N
 | 4 | 6 | 7 | 8 | 9 | 11=>encU i.A
 | 5=>labE i.L
 | 10=>encU i.B++encU i.A
 | 12=>encU i.A++encU i.B
 |_=>[]
def preE(op:Int):List Int:=if op≥64512 then 252::encU (op-64512)else[icv .u8 op]
def insE(i:ag):List Int:=preE i.Op++behE i
def onU(op:Int):Prop:=op=12∨op=13∨op=16∨op=18∨(32<=op/\op<=36)∨op=63∨op=64∨op=64521∨op=64523
theorem al2{op:Int}(h:acc op=true):(40<=op/\op<=62):=al7 h
theorem aoV{i:ag}(ok:okA i (cls i.Op))(h:onU i.Op):(0<=i.A/\i.A<256)/\behE i=encU i.A:=by
 unfold onU at h
 rcases acs i.Op with⟨c,q⟩ | ⟨c,q⟩ | ⟨c,q⟩ | ⟨c,q⟩ | ⟨c,q⟩ | ⟨c,q⟩ | ⟨c,q⟩ | ⟨c,q⟩ | ⟨c,q⟩ | ⟨c,q⟩ | ⟨c,q⟩ | ⟨c,q⟩ | ⟨c,q⟩ | ⟨c,q⟩ <;> rw[c]at ok <;> simp only[behE,c] <;> simp only[okA]at ok <;>
  first
  | (exfalso;omega)
  | (exfalso;have:=al2 q;omega)
  | exact⟨by omega,rfl⟩
  | exact⟨by omega,trivial⟩
theorem ao1{i:ag}(h0:¬(2<=i.Op/\i.Op<=4))(h1:acc i.Op=false)(h2:¬(i.Op=65∨i.Op=66∨i.Op=68))(h3:¬onU i.Op)(h4:i.Op≠14)(h5:i.Op≠64520)(h6:i.Op≠64522):behE i=[]:=by
 unfold onU at h3
 rcases acs i.Op with⟨c,q⟩ | ⟨c,q⟩ | ⟨c,q⟩ | ⟨c,q⟩ | ⟨c,q⟩ | ⟨c,q⟩ | ⟨c,q⟩ | ⟨c,q⟩ | ⟨c,q⟩ | ⟨c,q⟩ | ⟨c,q⟩ | ⟨c,q⟩ | ⟨c,q⟩ | ⟨c,q⟩ <;> simp only[behE,c] <;>
  first
  | (exfalso;omega)
  | (exfalso;rw[q]at h1;cases h1)
theorem ajx{op:Int}{n:Nat}(h:cls op=n){i:ag}(e:i.Op=op):cls i.Op=n:=by rw[e];exact h
theorem ah7{i:ag}(ok:okA i (cls i.Op))(h0:0<=i.N)(h1:i.N<18446744073709551616):Wp (λk=>bt.f k i) (· = behE i):=by
 refine .succ ?_
 simp only[bt.f]
 refine .bind (am9 i.Op) (λr hr=>.bind (amo i.Op) (λc hc=>.bind (abc i.Op) (λo ho=>?_)))
 obtain⟨r1,r2,r3,r4⟩:=r
 obtain⟨c1,c2⟩:=c
 dsimp only at hr hc ⊢
 obtain⟨hr,hw⟩:=hr
 subst hr
 refine .tif ho (λh=>?_) (λh=>.ite (λha=>?_) (λha=>.tif hc (λh2=>?_) (λh2=>?_)))
 ·have c0:cls i.Op=0:=by unfold cls;rw[if_pos h]
  rw[c0]at ok
  exact .bind (aka (akR (by have:=ok.1;omega) (by have:=ok.2;omega))) (λr hr=>.one (by rw[hr];simp only[behE,c0]))
 ·have c1:cls i.Op=1:=by unfold cls;rw[if_neg h,if_pos ha]
  rw[c1]at ok
  rw[hw ha]
  exact .bind (ahF ha ok.1 h0 ok.2) (λr hr=>.one (by rw[hr];simp only[behE,c1]))
 ·have c2:cls i.Op=2∨cls i.Op=3:=by
   unfold cls;rw[if_neg h,if_neg ha]
   by_cases h5:i.Op=65
   ·rw[if_pos h5];exact .inl rfl
   ·rw[if_neg h5,if_pos (by omega)];exact .inr rfl
  refine .bind (an4 h0 h1) (λr hr=>.one ?_)
  rw[hr]
  rcases c2 with c2 | c2 <;> simp only[behE,c2]
 ·refine .seg (Q:=Tell (onU i.Op)) ?_ (λx hx=>.tif hx (λhu=>?_) (λhu=>.ite (λh14=>?_) (λh14=>.ite (λh15=>?_) (λh15=>.ite (λh16=>?_) (λh16=>?_)))))
  ·repeat' first
    | exact .left (.yes (by unfold onU;omega))
    | exact .left (.no (by unfold onU;omega))
    | refine .ite (λ_=>?_) (λ_=>?_)
  ·obtain⟨b,e⟩:=aoV ok hu
   exact .bind (abq (by omega) (by omega)) (λr hr=>.one (by rw[hr,e]))
  ·have c5:cls i.Op=5:=ajx (by decide +kernel) h14
   rw[c5]at ok
   exact .bind (ah2 ok.1 ok.2) (λr hr=>.one (by rw[hr];simp only[behE,c5]))
  ·have c5:cls i.Op=10:=ajx (by decide +kernel) h15
   rw[c5]at ok
   simp only[okA]at ok
   have l1:=aah (n:=i.B) (by omega) (by omega)
   have l2:=aah (n:=i.A) (by omega) (by omega)
   refine .bind (abq (by omega) (by omega)) (λr hr=>.bind (abq (by omega) (by omega)) (λs hs=>?_))
   subst hr hs
   exact .pos (aab (by omega) (by omega)) (.one (by simp only[behE,c5]))
  ·have c5:cls i.Op=12:=ajx (by decide +kernel) h16
   rw[c5]at ok
   simp only[okA]at ok
   have l1:=aah (n:=i.B) (by omega) (by omega)
   have l2:=aah (n:=i.A) (by omega) (by omega)
   refine .bind (abq (by omega) (by omega)) (λr hr=>.bind (abq (by omega) (by omega)) (λs hs=>?_))
   subst hr hs
   exact .pos (aab (by omega) (by omega)) (.one (by simp only[behE,c5]))
  ·exact .one (ao1 h (by simpa using ha) h2 hu h14 h15 h16).symm
theorem ahs{i:ag}(ok:okA i (cls i.Op))(h0:0<=i.N)(h1:i.N<18446744073709551616):(behE i).length<=198:=by
 rcases acs i.Op with⟨c,q⟩ | ⟨c,q⟩ | ⟨c,q⟩ | ⟨c,q⟩ | ⟨c,q⟩ | ⟨c,q⟩ | ⟨c,q⟩ | ⟨c,q⟩ | ⟨c,q⟩ | ⟨c,q⟩ | ⟨c,q⟩ | ⟨c,q⟩ | ⟨c,q⟩ | ⟨c,q⟩ <;> rw[c]at ok <;> simp only[behE,c] <;> simp only[okA]at ok
 ·have:=agP (a:=i.A) (akR (by omega) (by omega));omega
 ·have l1:=aah (n:=i.A) (by omega) (by omega)
  have l2:=aah (n:=i.N) (by omega) (by omega)
  simp only[accE,List.length_append]
  split <;> simp <;> omega
 ·have:=abL i.Op i.N;omega
 ·have:=abL i.Op i.N;omega
 ·have:=aah (n:=i.A) (by omega) (by omega);omega
 ·have:=aj1 ok.1.2 ok.2
  have l1:=aah (n:=(i.L.length:Int)-1) (by omega) (by omega)
  simp only[labE,List.length_append];omega
 ·have:=aah (n:=i.A) (by omega) (by omega);omega
 ·have:=aah (n:=i.A) (by omega) (by omega);omega
 ·have:=aah (n:=i.A) (by omega) (by omega);omega
 ·have:=aah (n:=i.A) (by omega) (by omega);omega
 ·have l1:=aah (n:=i.A) (by omega) (by omega)
  have l2:=aah (n:=i.B) (by omega) (by omega)
  simp only[List.length_append];omega
 ·have:=aah (n:=i.A) (by omega) (by omega);omega
 ·have l1:=aah (n:=i.A) (by omega) (by omega)
  have l2:=aah (n:=i.B) (by omega) (by omega)
  simp only[List.length_append];omega
 ·simp
theorem aix{op:Int}(h:kn op=true):0<=op/\op<=64523:=by
 by_cases hf:Far op
 ·rw[aml hf]at h;cases h
 ·rcases ad9 hf with⟨n,hn,rfl⟩ | ⟨n,hn,rfl⟩ <;> omega
theorem ag3{op:Int}(h:0<=op/\op<=64523):(preE op).length<=12:=by
 unfold preE
 split
 ·have:=aah (n:=op-64512) (by omega) (by omega)
  simp only[List.length_cons];omega
 ·simp
theorem ahr{i:ag}(h:aex i)(h0:0<=i.N)(h1:i.N<18446744073709551616):(insE i).length<=210:=by
 have:=ahs h.2.1 h0 h1
 have:=ag3 (aix h.1)
 simp only[insE,List.length_append];omega
end Wr
end Go.R4
namespace Go.R4
open Go.Proofs Go.Ev
set_option maxRecDepth 100000
namespace Wr
open Lb
theorem am8{α β:Type}{l:List α}{i:Nat}{e:α}(h:l[i]?=some e){f:Nat->α->Option β}{P:β->Prop}(hf:Wp (λk=>f k e) P):Wp (λk=>(l[((i:Int)).toNat]?).bind (f k)) P:=by
 simp only[Int.toNat_natCast,h,Option.bind_some];exact hf
def aeT(l:List ag):Prop:=l.length<=70000/\∀ i∈l,aex i/\0<=i.N/\i.N<18446744073709551616
def codE(l:List ag):List Int:=l.flatMap insE
theorem aeG{l:List ag}(h:aeT l):(codE l).length<=210*l.length:=aby λx hx=>ahr (h.2 x hx).1 (h.2 x hx).2.1 (h.2 x hx).2.2
theorem afB{l:List ag}(h:aeT l)(n:Nat):((l.take n).flatMap insE).length<=14700000:=by
 exact Nat.le_trans (aaQ (g:=insE) (λx hx=>ahr (h.2 x hx).1 (h.2 x hx).2.1 (h.2 x hx).2.2) n) (by have:=h.1;omega)
theorem aoo{op:Int}{h:List Int}(hh:h.length<=100000000000)(ht:0<=op/\op<=64523):Wp (λk=>if op≥64512 then(if aaf (h.length+1) 1 then((an.f k (isub .i64 op 64512)).bind λr=>(if aaf ((h++([(252:Int)]:List Int)).length+r.length) 1 then(some (.inl ((h++([(252:Int)]:List Int))++r)):Option (List Int⊕((Int×List Int)⊕List Int)))else none))else none)else(if aaf (h.length+1) 1 then(some (.inl (h++([(icv .u8 op)]:List Int))))else none)) (aaT (· = h++preE op) (λ_=>False)):=by
 refine .ite (λhb=>.pos (aab (by omega) (by omega)) ?_) (λhb=>.pos (aab (by omega) (by omega)) (.left (by rw[preE,if_neg hb])))
 rw[aaq (by omega) (by omega)]
 have l1:=aah (n:=op-64512) (by omega) (by omega)
 refine .bind (abq (by omega) (by omega)) (λr hr=>?_)
 subst hr
 refine .pos (aab (by simp only[List.length_append,List.length_cons,List.length_nil];omega) (by simp only[List.length_append,List.length_cons,List.length_nil];omega)) (.left ?_)
 rw[preE,if_pos hb,List.append_assoc];rfl
theorem agX{i:ag}{n:Nat}{h:List Int}(hh:h.length<=100000000)(hi:aex i/\0<=i.N/\i.N<18446744073709551616) :
  Wp (λk=>segB (if i.Op≥64512 then(if aaf (h.length+1) 1 then((an.f k (isub .i64 i.Op 64512)).bind λr127=>(if aaf ((h++([(252:Int)]:List Int)).length+r127.length) 1 then(some (.inl ((h++([(252:Int)]:List Int))++r127)):Option (List Int⊕((Int×List Int)⊕List Int)))else none))else none)else(if aaf (h.length+1) 1 then(some (.inl (h++([(icv .u8 i.Op)]:List Int))))else none))
   (λh126=>((bt.f k i).bind λr130=>(if aaf (h126.length+r130.length) 1 then(some (.inl ((iadd .i64 (n:Int) 1),(h126++r130))))else none)))) (· = .inl (iadd .i64 (n:Int) 1,h++insE i)):=by
 have ht:=aix hi.1.1
 have l1:=ag3 ht
 have l2:=ahs hi.1.2.1 hi.2.1 hi.2.2
 refine .seg (Q:=(· = h++preE i.Op)) ((aoo (by omega) ht).mono λa ha=>?_) (λx hx=>.bind (ah7 hi.1.2.1 hi.2.1 hi.2.2) (λr hr=>?_))
 ·cases a with
  | inl o=>exact ha
  | inr o=>exact ha.elim
 ·subst hr hx
  refine .pos (aab (by simp only[List.length_append];omega) (by simp only[List.length_append];omega)) (.one ?_)
  rw[List.append_assoc,insE]
theorem acL{l:List ag}(h:aeT l):Wp (λk=>ax.f k l) (· = codE l):=by
 have hl:=h.1
 refine .succ ?_
 simp only[ax.f]
 refine .bind (abp (l:=l) (by omega) (h0:=[]) (g:=insE) (λn e hn he hm=>?_) (λh=>?_)) (λr hr=>.one (by rw[hr,List.nil_append,codE]))
 ·have:=afB h n
  simp only[ax.b3]
  exact .pos (by omega) (adw he (agX (by simp only[List.nil_append];omega) (h.2 e hm)))
 ·simp only[ax.b3]
  exact .neg (by omega) (.one rfl)
theorem ail{l:List ag}(h:aeT l):Wp (λk=>bA.f k l) (· = codE l):=by
 have hl:=h.1
 refine .succ ?_
 simp only[bA.f]
 refine .bind (abp (l:=l) (by omega) (h0:=[]) (g:=insE) (λn e hn he hm=>?_) (λh=>?_)) (λr hr=>.one (by rw[hr,List.nil_append,codE]))
 ·have:=afB h n
  simp only[bA.b3]
  exact .pos (by omega) (.pos ⟨by omega,by omega⟩ (am8 he (agX (by simp only[List.nil_append];omega) (h.2 e hm))))
 ·simp only[bA.b3]
  exact .neg (by omega) (.one rfl)
end Wr
end Go.R4
namespace Go.R4
open Go.Proofs Go.Ev
set_option maxRecDepth 100000
namespace Wr
open Lb
def runs:List Int->List (Int×Nat)
 | []=>[]
 | x::r=>match runs r with
  | []=>[(x,1)]
  | (y,n)::g=>if x=y then(x,n+1)::g else(x,1)::(y,n)::g
theorem ajI(x:Int)(r:List Int):∃ n g,runs (x::r)=(x,n)::g:=by
 simp only[runs]
 split
 ·exact⟨1,[],rfl⟩
 ·split
  ·exact⟨_,_,rfl⟩
  ·exact⟨_,_,rfl⟩
theorem ahu(x:Int){s:List Int}(hs:s.head?≠some x):∀ m:Nat,runs (List.replicate (m+1) x++s)=(x,m+1)::runs s
 | 0=>by
  cases s with
  | nil=>rfl
  | cons y s=>
   obtain⟨n,g,e⟩:=ajI y s
   have hxy:x≠y:=λh=>hs (by rw[h];rfl)
   show runs (x::(y::s))=_
   rw[runs,e]
   simp only
   rw[if_neg hxy]
 | m+1=>by
  show runs (x::(List.replicate (m+1) x++s))=_
  rw[runs,ahu x hs m]
  simp
theorem acN:∀ l:List Int,(runs l).length<=l.length
 | []=>by simp[runs]
 | x::r=>by
  have h:=acN r
  rw[runs]
  cases q:runs r with
  | nil=>simp
  | cons a g=>
   obtain⟨y,n⟩:=a
   rw[q]at h
   simp only[List.length_cons]at h ⊢
   split <;> simp only[List.length_cons] <;> omega
theorem akc:∀ (l:List Int) (p:Int×Nat),p∈runs l->p.2<=l.length
 | [],p,h=>by simp[runs]at h
 | x::r,p,h=>by
  have ih:=akc r
  rw[runs]at h
  cases q:runs r with
  | nil=>rw[q]at h;simp at h;subst h;simp
  | cons a g=>
   obtain⟨y,n⟩:=a
   rw[q]at h ih
   simp only at h
   have hn:=ih (y,n) (List.mem_cons_self ..)
   split at h
   ·rcases List.mem_cons.1 h with rfl | h
    ·simp only[List.length_cons];simp only at hn;omega
    ·have:=ih p (List.mem_cons_of_mem _ h);simp only[List.length_cons];omega
   ·rcases List.mem_cons.1 h with rfl | h
    ·simp
    ·have:=ih p h;simp only[List.length_cons];omega
def runE(p:Int×Nat):List Int:=encU p.2++[icv .u8 p.1]
def locE(l:List Int):List Int:=encU (runs l).length++(runs l).flatMap runE
theorem alW{l:List Int}(hl:l.length<=256){p:Int×Nat}(h:p∈runs l):(runE p).length<=12:=by
 have:=akc l p h
 have:=aah (n:=(p.2:Int)) (by omega) (by omega)
 simp only[runE,List.length_append,List.length_cons,List.length_nil];omega
theorem adS{l:List Int}(hl:l.length<=256):((runs l).flatMap runE).length<=3072:=
 Nat.le_trans (aby λp hp=>alW hl hp) (by have:=acN l;omega)
theorem ahg{l:List Int}(hl:l.length<=256):(locE l).length<=3083:=by
 have:=adS hl
 have:=acN l
 have:=aah (n:=((runs l).length:Int)) (by omega) (by omega)
 simp only[locE,List.length_append];omega
theorem alY{l:List Int}(hl:l.length<=256){B:Nat->Int->Int->Option (Int⊕Int)}{i:Nat}(hi:i<l.length)
  (eB:∀ k v,B k (i:Int) v=if v<(l.length:Int)then((at? l v).bind λe201=>((at? l (i:Int)).bind λe203=>(if e201=e203 then(some (.inl (iadd .i64 v 1)))else(some (.inr v)))))else(some (.inr v))) :
  Wp (λk=>loopS (B k (i:Int)) k (i:Int)) (λr=>∃ m:Nat,r=(i:Int)+(m+1:Nat)/\l.drop i=List.replicate (m+1) l[i]++l.drop (i+(m+1))/\(l.drop (i+(m+1))).head?≠some l[i]/\i+(m+1)<=l.length):=by
 have hx:at? l (i:Int)=some l[i]:=by rw[at?_nat,List.getElem?_eq_getElem hi]
 refine .loop (λ(n:Nat) (v:Int)=>∃ j:Nat,v=(j:Int)/\j+n=l.length/\i<=j/\l.drop i=List.replicate (j-i) l[i]++l.drop j) (λn v hv=>?_) (n:=l.length-i) ⟨i,rfl,by omega,Nat.le_refl _,by simp⟩
 obtain⟨j,rfl,h1,h2,h3⟩:=hv
 have nz:(l.drop j).head?≠some l[i]->∃ m:Nat,(j:Int)=(i:Int)+(m+1:Nat)/\l.drop i=List.replicate (m+1) l[i]++l.drop (i+(m+1))/\(l.drop (i+(m+1))).head?≠some l[i]/\i+(m+1)<=l.length:=λhne=>by
  have hij:i≠j:=λh=>by subst h;exact hne (by rw[List.head?_drop,List.getElem?_eq_getElem hi])
  refine⟨j-i-1,by omega,?_⟩
  rw[show j-i-1+1=j-i from by omega,show i+(j-i)=j from by omega]
  exact⟨h3,hne,by omega⟩
 simp only[eB,hx]
 refine .ite (λhj=>?_) (λhj=>.right (nz ?_))
 ·have hj':j<l.length:=by omega
  rw[at?_nat,List.getElem?_eq_getElem hj']
  simp only[Option.bind_some]
  refine .ite (λhe=>.left ⟨n-1,by omega,j+1,by rw[aai (by omega) (by omega)];rfl,by omega,by omega,?_⟩) (λhe=>.right (nz ?_))
  ·rw[h3,List.drop_eq_getElem_cons hj',he,show j+1-i=(j-i)+1 from by omega,List.replicate_succ',List.append_assoc]
   rfl
  ·rw[List.head?_drop,List.getElem?_eq_getElem hj']
   exact λh=>he (by simpa using h)
 ·rw[List.drop_of_length_le (by omega)]
  simp
theorem alc{l:List Int}(hl:l.length<=256){U:Nat->Int->Option (List Int)}(hU:∀ n:Int,0<=n->n<=1000->Wp (λk=>U k n) (· = encU n)){A:Nat->Int->Int->Option (Int⊕Int)}{B:Nat->(Int×Int×List Int)->Option ((Int×Int×List Int)⊕(Int×List Int))}
  (eA:∀ k (i:Int) v,A k i v=if v<(l.length:Int)then((at? l v).bind λe201=>((at? l i).bind λe203=>(if e201=e203 then(some (.inl (iadd .i64 v 1)))else(some (.inr v)))))else(some (.inr v)))
  (eB:∀ k n i h,B k (n,i,h)=if i<(l.length:Int)then((loopS (A k i) k i).bind λk195=>((at? l i).bind λe206=>((U k (isub .i64 k195 i)).bind λr208=>(if aaf (h.length+r208.length) 1 then(if aaf ((h++r208).length+1) 1 then(some (.inl ((iadd .i64 n 1),k195,((h++r208)++([(icv .u8 e206)]:List Int)))))else none)else none))))else(some (.inr (n,h)))) :
  Wp (λk=>loopS (B k) k ((0:Int),(0:Int),([]:List Int))) (· = (((runs l).length:Int),(runs l).flatMap runE)):=by
 have hR:=adS hl
 have hN:=acN l
 refine .loop (λ(m:Nat) (v:Int×Int×List Int)=>∃ i:Nat,v.2.1=(i:Int)/\i+m=l.length/\0<=v.1/\v.1+((runs (l.drop i)).length:Int)=((runs l).length:Int)/\v.2.2++(runs (l.drop i)).flatMap runE=(runs l).flatMap runE) (λm v hv=>?_) (n:=l.length) ⟨0,rfl,by omega,by simp,by simp,by simp⟩
 obtain⟨n,i',h⟩:=v
 obtain⟨i,h1,h2,h0,h3,h4⟩:=hv
 dsimp only at h1 h3 h4 h0
 subst h1
 simp only[eB]
 refine .ite (λhi=>?_) (λhi=>.right ?_)
 ·have hi':i<l.length:=by omega
  refine .bind (alY hl hi' (λk v=>eA k i v)) (λr hr=>?_)
  obtain⟨q,rfl,g2,g3,g4⟩:=hr
  have er:runs (l.drop i)=(l[i],q+1)::runs (l.drop (i+(q+1))):=by rw[g2];exact ahu _ g3 q
  rw[er]at h3 h4
  simp only[List.length_cons,List.flatMap_cons]at h3 h4
  have hlen:=congrArg List.length h4
  simp only[List.length_append]at hlen
  have hr1:(runE (l[i],q+1)).length=(encU ((q+1:Nat):Int)).length+1:=by simp[runE]
  rw[at?_nat,List.getElem?_eq_getElem hi']
  simp only[Option.bind_some]
  rw[aaq (by omega) (by omega),show((i:Int)+((q+1:Nat):Int))-(i:Int)=((q+1:Nat):Int)from by omega]
  refine .bind (hU _ (by omega) (by omega)) (λr hr=>?_)
  subst hr
  refine .pos (aab (by omega) (by omega)) (.pos (aab (by simp only[List.length_append];omega) (by simp only[List.length_append];omega)) (.left ⟨m-(q+1),by omega,i+(q+1),by dsimp only;omega,by omega,?_⟩))
  rw[aai (by omega) (by omega)]
  dsimp only
  refine⟨by omega,by omega,?_⟩
  rw[<-h4]
  simp only[runE,List.append_assoc]
 ·have:i=l.length:=by omega
  subst this
  rw[List.drop_length]at h3 h4
  simp only[runs,List.length_nil,List.flatMap_nil,List.append_nil]at h3 h4
  rw[<-h4,<-h3]
  simp
theorem ahQ{l:List Int}(hl:l.length<=256):Wp (λk=>aS.f k l) (· = locE l):=by
 have hR:=adS hl
 have hN:=acN l
 refine .succ ?_
 simp only[aS.f]
 refine .bind (alc hl (U:=λk n=>an.f k n) (λn h0 h1=>abq h0 (by omega)) (A:=λk=>aS.b6 k l) (B:=λk=>aS.b4 k l) (λk i v=>rfl) (λk n i h=>rfl)) (λr hr=>?_)
 subst hr
 dsimp only
 exact .bind (acD (by omega) (by omega) (by omega)) (λr hr=>.one hr)
def opT(t:Int):Int:=if t=126 then 66 else if t=124 then 68 else 65
def begE(t n:Int):List Int:=(opT t::conE (opT t) n)++[11]
theorem acI(t n:Int):(begE t n).length<=12:=by
 have:=abL (opT t) n
 simp only[begE,List.length_append,List.length_cons,List.length_nil];omega
theorem ajD(t:Int):opT t=65∨opT t=66∨opT t=68:=by
 unfold opT
 split
 ·exact .inr (.inl rfl)
 split
 ·exact .inr (.inr rfl)
 ·exact .inl rfl
theorem aov{t:Int}{β:Type}{P:β->Prop}:Wp (λ_=>if t=126 then(some (.inl (66:Int)):Option (Int⊕β))else(if t=124 then(some (.inl (68:Int)))else(some (.inl (65:Int))))) (aaT (· = opT t) P):=
 .ite (λh=>.left (by rw[opT,if_pos h])) (λh=>.ite (λh2=>.left (by rw[opT,if_neg h,if_pos h2])) (λh2=>.left (by rw[opT,if_neg h,if_neg h2])))
theorem ak3{op n:Int}(ho:op=65∨op=66∨op=68)(h0:0<=n)(h1:n<18446744073709551616)(h2:op=65->n<=4294967295):aeT [⟨op,0,0,n,[]⟩]/\codE [⟨op,0,0,n,[]⟩]=op::conE op n:=by
 have hk:kn op=true:=by rcases ho with rfl | rfl | rfl <;> decide +kernel
 have hcl:(cls op=2/\op=65)∨(cls op=3/\op≠65):=by
  rcases ho with rfl | rfl | rfl
  ·exact .inl ⟨by decide +kernel,rfl⟩
  ·exact .inr ⟨by decide +kernel,by decide⟩
  ·exact .inr ⟨by decide +kernel,by decide⟩
 refine⟨⟨by simp,λi hi=>?_⟩,?_⟩
 ·rw[List.mem_singleton.1 hi]
  refine⟨⟨hk,?_,?_,?_,?_,?_⟩,h0,h1⟩
  ·rcases hcl with⟨c,e⟩ | ⟨c,e⟩
   ·show okA _ (cls op)
    rw[c];exact h2 e
   ·show okA _ (cls op)
    rw[c];trivial
  ·exact λ_=>rfl
  ·exact λ_=>rfl
  ·intro hq
   rcases hcl with⟨c,e⟩ | ⟨c,e⟩ <;> (simp only[c]at hq;cases hq)
  ·exact λ_=>rfl
 ·have hb:behE ⟨op,0,0,n,[]⟩=conE op n:=by rcases hcl with⟨c,e⟩ | ⟨c,e⟩ <;> simp only[behE,c]
  simp only[codE,List.flatMap_cons,List.flatMap_nil,List.append_nil,insE,hb]
  rw[preE,if_neg (by omega),ah5 (by omega) (by omega)]
  rfl
theorem aef{t n:Int}(h0:0<=n)(h1:n<18446744073709551616)(h2:opT t=65->n<=4294967295):Wp (λk=>bV.f k t n) (· = begE t n):=by
 refine .succ ?_
 simp only[bV.f]
 refine .seg aov (λop hop=>?_)
 subst hop
 obtain⟨c1,c2⟩:=ak3 (ajD t) h0 h1 h2
 have l1:=abL (opT t) n
 refine .bind (ail c1) (λr hr=>?_)
 rw[c2]at hr
 subst hr
 exact .pos (aab (by simp only[List.length_cons];omega) (by simp only[List.length_cons];omega)) (.one rfl)
end Wr
end Go.R4
