import Derived.Test.YtganajogkdinaaaGreatGLebW
import Derived.Test.YtganajogkdinaaaGreatGRight2P
import Derived.KernelRfl
set_option linter.all false
namespace Go.R4
open Go.Proofs Go.Ev
set_option maxRecDepth 100000
namespace Wr
open Lb
theorem aaG{α:Type}{g:α->List Int}{c:Nat}:∀ {l:List α},(∀ x∈l,(g x).length<=c)->(l.flatMap g).length<=c*l.length
 | [],_=>by simp
 | x::l,h=>by
  have h1:=h x (List.mem_cons_self ..)
  have h2:=aaG (l:=l) λy hy=>h y (List.mem_cons_of_mem _ hy)
  simp only[List.flatMap_cons,List.length_append,List.length_cons,Nat.mul_succ]
  omega
theorem aaI{α:Type}{l:List α}(hl:l.length<=4000000000000000000){g:α->List Int}{h0:List Int}{B:Nat->(Int×List Int)->Option ((Int×List Int)⊕List Int)}
  (hB:∀ (i:Nat) e,i<l.length->l[i]?=some e->e∈l->Wp (λk=>B k ((i:Int),h0++(l.take i).flatMap g)) (· = .inl (iadd .i64 (i:Int) 1,h0++(l.take i).flatMap g++g e)))
  (hend:∀ h,Wp (λk=>B k ((l.length:Int),h)) (· = .inr h)):Wp (λk=>loopS (B k) k ((0:Int),h0)) (· = h0++l.flatMap g):=by
 refine .loop (λ(n:Nat) (v:Int×List Int)=>∃ i:Nat,i+n=l.length/\v=((i:Int),h0++(l.take i).flatMap g)) (λn v hv=>?_) (n:=l.length) ⟨0,by omega,by simp⟩
 obtain⟨i,h1,rfl⟩:=hv
 cases n with
 | zero=>
  have:i=l.length:=by omega
  subst this
  refine(hend _).mono λa ha=>?_
  subst ha
  simp[aaJ]
 | succ n=>
  have hi:i<l.length:=by omega
  refine(hB i l[i] hi (List.getElem?_eq_getElem hi) (List.getElem_mem hi)).mono λa ha=>?_
  subst ha
  refine⟨n,by omega,i+1,by omega,?_⟩
  have e:(l.take (i+1)).flatMap g=(l.take i).flatMap g++g l[i]:=by
   rw[<-List.take_append_getElem hi,List.flatMap_append,List.flatMap_cons,List.flatMap_nil,List.append_nil]
  rw[aai (by omega) (by omega),e,List.append_assoc]
  rfl
theorem aax{α:Type}{g:α->List Int}{c:Nat}{l:List α}(h:∀ x∈l,(g x).length<=c)(i:Nat):((l.take i).flatMap g).length<=c*l.length:=
 Nat.le_trans (aaG λx hx=>h x (List.mem_of_mem_take hx)) (Nat.mul_le_mul_left _ (by rw[List.length_take];omega))
theorem agu{n:Int}(h0:0<=n)(h1:n<18446744073709551616):icv .u64 n=n:=by
 show IntKind.u64.wrap n=n
 rw[Lb.wrap_u64];omega
def tot:List (List Int)->Nat
 | []=>0
 | x::r=>x.length+tot r
theorem ahs{l:List (List Int)}{i:Nat}{x:List Int}(h:l[i]?=some x):tot (l.drop i)=x.length+tot (l.drop (i+1)):=by
 have hi:i<l.length:=(List.getElem?_eq_some_iff.1 h).1
 have:l.drop i=x::l.drop (i+1):=by
  rw[List.drop_eq_getElem_cons hi]
  rw[List.getElem?_eq_getElem hi]at h
  cases h;rfl
 rw[this];rfl
theorem anV{n:Int}(h0:0<=n)(h1:n<=140737488355328):Wp (λk=>dQ.f k n) (λr=>r.1=0/\(r.2.length:Int)=n):=by
 refine .succ ?_
 simp only[dQ.f]
 refine .neg (by omega) ?_
 rw[aap (by omega) (by omega),Int.sub_zero]
 refine .ite (λh=>.pos ⟨h0,aae (by omega) (by omega)⟩ (.pos ⟨by omega,by omega,by omega⟩ (.one ⟨by simp,by simp;omega⟩))) (λh=>.one ⟨rfl,by simp;omega⟩)
theorem anb{l:List (List Int)}(h1:tot l<=140737488355328)(h2:l.length<=1000000){B1:Nat->(Int×Int)->Option ((Int×Int)⊕Int)}{B2:Nat->(Nat×Int×List Int)->Option ((Nat×Int×List Int)⊕(Nat×List Int))}
  (e1:∀ k n i,B1 k (n,i)=if i<(l.length:Int)then((at? l i).bind λe=>if(iadd .i64 n (e.length:Int))<0 then none else some (.inl (iadd .i64 n (e.length:Int),iadd .i64 i 1)))else some (.inr n))
  (e2:∀ k n i q,B2 k (n,i,q)=if i<(l.length:Int)then((at? l i).bind λe=>((if(0+n)+e.length<=q.length then some ()else none).bind λ_=>some (.inl (n+e.length,iadd .i64 i 1,overL q (0+n) e))))else some (.inr (n,q))) :
  Wp (λk=>(loopS (B1 k) k ((0:Int),(0:Int))).bind λsize=>(dQ.f k size).bind λ(r,q)=>(loopS (B2 k) k (r,(0:Int),q)).bind λ(n,h)=>if n<=h.length then some (List.take n h)else none) (· = l.flatten):=by
 refine .bind (Q:=λr=>r=(tot l:Int)) ?_ (λn hn=>?_)
 ·refine .loop (λ(m:Nat) (v:Int×Int)=>0<=v.2/\v.2+(m:Int)=l.length/\v.1+(tot (l.drop v.2.toNat):Int)=tot l/\0<=v.1) (λm v hv=>?_) (n:=l.length) ⟨by simp,by simp,by simp,by simp⟩
  obtain⟨n,i⟩:=v
  obtain⟨g1,g2,g3,g4⟩:=hv
  dsimp only at g1 g2 g3 g4
  simp only[e1]
  refine .ite (λhi=>?_) (λhi=>.right ?_)
  ·refine .bind (.idx g1 hi) (λx hx=>?_)
   have:=ahs hx
   rw[aai (by omega) (by omega)]
   refine .neg (by omega) (.left ⟨m-1,by omega,?_⟩)
   rw[aai (by omega) (by omega)]
   dsimp only
   rw[show(i+1).toNat=i.toNat+1 from by omega]
   exact⟨by omega,by omega,by omega,by omega⟩
  ·rw[List.drop_of_length_le (by omega)]at g3
   simp only[tot]at g3
   omega
 subst hn
 refine .bind (anV (by omega) (by omega)) (λr hr=>?_)
 obtain⟨n,q⟩:=r
 obtain⟨e1,e2'⟩:=hr
 dsimp only at e1 e2' ⊢
 subst e1
 refine .bind (Q:=λr=>r.1<=r.2.length/\r.2.take r.1=l.flatten) ?_ (λr hr=>?_)
 rotate_left
 ·obtain⟨n,q⟩:=r
  exact .pos hr.1 (.one hr.2)
 refine .loop (λ(m:Nat) (v:Nat×Int×List Int)=>0<=v.2.1/\v.2.1+(m:Int)=l.length/\v.1+tot (l.drop v.2.1.toNat)=v.2.2.length/\v.2.2.take v.1=(l.take v.2.1.toNat).flatten) (λm v hv=>?_) (n:=l.length) ⟨by simp,by simp,by simp;omega,by simp⟩
 obtain⟨n,i,q⟩:=v
 obtain⟨g1,g2,g3,g4⟩:=hv
 dsimp only at g1 g2 g3 g4
 simp only[e2]
 refine .ite (λhi=>?_) (λhi=>.right ?_)
 ·refine .bind (.idx g1 hi) (λx hx=>?_)
  have hd:=ahs hx
  refine .bind (Q:=λ_=>True) (.pos (by omega) (.one trivial)) (λ_ _=>.left ⟨m-1,by omega,?_⟩)
  rw[aai (by omega) (by omega)]
  dsimp only
  have hlen:(overL q (0+n) x).length=q.length:=over_len (by omega)
  rw[show(i+1).toNat=i.toNat+1 from by omega,hlen]
  refine⟨by omega,by omega,by omega,?_⟩
  rw[List.take_add_one,hx]
  simp only[Option.toList_some,List.flatten_append,List.flatten_cons,List.flatten_nil,List.append_nil]
  rw[<-g4]
  simp only[overL,Nat.zero_add]
  rw[<-List.append_assoc]
  exact List.take_left' (by rw[List.length_append,List.length_take];omega)
 ·rw[List.drop_of_length_le (by omega)]at g3
  rw[List.take_of_length_le (l:=l) (i:=i.toNat) (by omega)]at g4
  simp only[tot]at g3
  exact⟨by dsimp only;omega,g4⟩
theorem afs{a b c:List Int}(h:a.length+b.length+c.length<=140737488355328):Wp (λk=>aS.f k a b c) (· = a++b++c):=by
 refine .succ ?_
 simp only[aS.f]
 refine(anb (l:=[a,b,c]) (by simp only[tot];omega) (by simp) (B1:=λk=>aS.b3 k a b c) (B2:=λk=>aS.b11 k a b c) (λk n i=>rfl) (λk n i q=>rfl)).mono λr hr=>?_
 rw[hr];simp
theorem ajG{a b c d:List Int}(h:a.length+b.length+c.length+d.length<=140737488355328):Wp (λk=>aP.f k a b c d) (· = a++b++c++d):=by
 refine .succ ?_
 simp only[aP.f]
 refine(anb (l:=[a,b,c,d]) (by simp only[tot];omega) (by simp) (B1:=λk=>aP.b3 k a b c d) (B2:=λk=>aP.b11 k a b c d) (λk n i=>rfl) (λk n i q=>rfl)).mono λr hr=>?_
 rw[hr];simp
theorem aag{n:Int}(h0:0<=n)(h1:n<18446744073709551616):(encU n).length<=11:=by
 obtain⟨_,_,g⟩:=adH 10 n [] h0 (by omega)
 simp only[encU,List.length_append,List.length_cons,List.length_nil]at g ⊢
 omega
theorem afq(n:Int):1<=(encU n).length:=by simp only[encU,List.length_append,List.length_cons];omega
theorem abT{n:Int}(h:inR .i64 n):(encS n).length<=10:=by
 obtain⟨_,_,g⟩:=adV 9 n [] (by have:=h.1;omega) (by have:=h.2;omega)
 simp only[encS,List.length_append,List.length_cons,List.length_nil]at g ⊢
 omega
theorem amK{n:Int}(h0:0<=n)(h1:n<18446744073709551616):Wp (λk=>eE.f k n) (· = encU n):=.at_ 20 (λk hk=>u_ok hk h0 h1) rfl
theorem ajr{n:Int}(h0:0<=n)(h1:n<18446744073709551616):Wp (λk=>dJ.f k n) (· = encU n):=.at_ 20 (λk hk=>aoa hk h0 h1) rfl
theorem aj3{n:Int}(h:inR .i64 n):Wp (λk=>eo.f k n) (· = encS n):=.at_ 20 (λk hk=>s_ok hk h.1 h.2) rfl
theorem akT{n:Int}(h:inR .i64 n):Wp (λk=>dA.f k n) (· = encS n):=.at_ 20 (λk hk=>ant hk h.1 h.2) rfl
theorem abu{n:Int}(h0:0<=n)(h1:n<9223372036854775808):Wp (λk=>ap.f k n) (· = encU n):=by
 refine .succ ?_
 simp only[ap.f,agu h0 (by omega)]
 exact .bind (amK h0 (by omega)) (λ_ h=>.one h)
theorem abj{n:Int}(h0:0<=n)(h1:n<9223372036854775808):Wp (λk=>ay.f k n) (· = encU n):=by
 refine .succ ?_
 simp only[ay.f,agu h0 (by omega)]
 exact .bind (ajr h0 (by omega)) (λ_ h=>.one h)
def lisE(b:List Int):List Int:=encU b.length++b
theorem adN{b:List Int}(h:b.length<=100000000000000):(lisE b).length<=b.length+11:=by
 have:=aag (n:=(b.length:Int)) (by omega) (by omega)
 simp only[lisE,List.length_append];omega
theorem acH{n:Int}{b:List Int}(h0:0<=n)(h1:n<9223372036854775808)(h:b.length<=100000000000000):Wp (λk=>bf.f k n b) (· = encU n++b):=by
 have:=aag h0 (by omega)
 refine .succ ?_
 simp only[bf.f]
 exact .bind (abu h0 h1) (λr hr=>by subst hr;exact .pos (aae (by omega) (by omega)) (.one rfl))
theorem akQ{n:Int}{b:List Int}(h0:0<=n)(h1:n<9223372036854775808)(h:b.length<=100000000000000):Wp (λk=>dw.f k n b) (· = encU n++b):=by
 have:=aag h0 (by omega)
 refine .succ ?_
 simp only[dw.f]
 exact .bind (abu h0 h1) (λr hr=>by subst hr;exact .pos (aae (by omega) (by omega)) (.one rfl))
def namE(s:ByteArray):List Int:=encU s.size++strL s
theorem abd{s:ByteArray}(h:s.size<=64):(namE s).length<=75:=by
 have:=aag (n:=(s.size:Int)) (by omega) (by omega)
 simp only[namE,List.length_append,acf];omega
theorem acK{s:ByteArray}(h:s.size<=64):Wp (λk=>bg.f k s) (· = namE s):=by
 refine .succ ?_
 simp only[bg.f]
 exact .pos (by omega) (.bind (acH (by omega) (by omega) (by rw[acf];omega)) (λr hr=>.one hr))
theorem ac6{s:ByteArray}(h:s.size<=64):Wp (λk=>bS.f k s) (· = namE s):=by
 have:=aag (n:=(s.size:Int)) (by omega) (by omega)
 refine .succ ?_
 simp only[bS.f]
 exact .bind (abj (by omega) (by omega)) (λr hr=>by subst hr;exact .pos (aae (by rw[acf];omega) (by rw[acf];omega)) (.one rfl))
def kndE(l:List Int):List Int:=encU l.length++l.flatMap λt=>[icv .u8 t]
theorem afJ(l:List Int):(l.flatMap λt=>[icv .u8 t]).length=l.length:=by
 induction l with
 | nil=>rfl
 | cons x l ih=>simp[ih]
theorem acg{l:List Int}(h:l.length<=1000):(kndE l).length<=l.length+11:=by
 have:=aag (n:=(l.length:Int)) (by omega) (by omega)
 simp only[kndE,List.length_append,afJ];omega
theorem afS{l:List Int}(hl:l.length<=1000):Wp (λk=>bh.f k l) (· = kndE l):=by
 refine .succ ?_
 simp only[bh.f]
 refine .bind (aaI (l:=l) (by omega) (h0:=[]) (g:=λt=>[icv .u8 t]) (λi e hi he _=>?_) (λh=>?_)) (λr hr=>?_)
 ·have:=aax (l:=l) (g:=λt=>[icv .u8 t]) (c:=1) (λx _=>by simp) i
  simp only[bh.b3]
  refine .pos (by omega) (aaM he (.pos (aae (by simp at this ⊢;omega) (by simp at this ⊢;omega)) (.one rfl)))
 ·simp only[bh.b3]
  exact .neg (by omega) (.one rfl)
 ·subst hr
  exact .bind (acH (by omega) (by omega) (by simp only[List.nil_append,afJ];omega)) (λr hr=>.one hr)
theorem afV{l:List Int}(hl:l.length<=1000):Wp (λk=>bN.f k l) (· = kndE l):=by
 have h1:=aag (n:=(l.length:Int)) (by omega) (by omega)
 refine .succ ?_
 simp only[bN.f]
 refine .bind (abj (by omega) (by omega)) (λr hr=>?_)
 subst hr
 refine .bind (aaI (l:=l) (by omega) (g:=λt=>[icv .u8 t]) (λi e hi he _=>?_) (λh=>?_)) (λr hr=>.one hr)
 ·have:=aax (l:=l) (g:=λt=>[icv .u8 t]) (c:=1) (λx _=>by simp) i
  simp only[bN.b3]
  refine .pos (by omega) (aaM he (.pos (aae (by simp only[List.length_append];omega) (by simp only[List.length_append];omega)) (.one rfl)))
 ·simp only[bN.b3]
  exact .neg (by omega) (.one rfl)
end Wr
end Go.R4
namespace Go.R4
open Go.Proofs Go.Ev
set_option maxRecDepth 100000
namespace Wr
open Lb
theorem wrapU8(n:Int):icv .u8 n=n % 256:=by
 show IntKind.u8.wrap n=n % 256
 simp only[IntKind.wrap,IntKind.signed,IntKind.bits]
 simp
theorem aih{n:Int}(h0:-9223372036854775808<=n)(h1:n<=9223372036854775807):inR .i64 n:=⟨h0,h1⟩
theorem aco(n:Int):inR .i64 (icv .i64 n):=by
 show inR .i64 (IntKind.i64.wrap n)
 rw[Lb.wrap_i64];exact⟨by omega,by omega⟩
def blkE(a:Int):List Int:=if a = -1 then[64]else if a = -2 then[127]else if a = -3 then[126]else if a = -4 then[124]else encS a
theorem aeR{a:Int}(h:inR .i64 a):(blkE a).length<=10:=by
 have:=abT h
 unfold blkE
 split
 ·simp
 split
 ·simp
 split
 ·simp
 split
 ·simp
 ·exact this
theorem akH{a:Int}(h:inR .i64 a):Wp (λk=>dE.f k a) (· = blkE a):=by
 refine .succ ?_
 simp only[dE.f,blkE]
 exact .ite (λh1=>.one (by rw[if_pos h1])) (λh1=>.ite (λh2=>.one (by rw[if_neg h1,if_pos h2])) (λh2=>.ite (λh3=>.one (by rw[if_neg h1,if_neg h2,if_pos h3]))
  (λh3=>.ite (λh4=>.one (by rw[if_neg h1,if_neg h2,if_neg h3,if_pos h4])) (λh4=>.bind (aj3 h) (λr hr=>.one (by rw[if_neg h1,if_neg h2,if_neg h3,if_neg h4,hr]))))))
theorem ajt{a:Int}(h:inR .i64 a):Wp (λk=>dP.f k a) (· = blkE a):=by
 refine .succ ?_
 simp only[dP.f,blkE]
 exact .ite (λh1=>.one (by rw[if_pos h1])) (λh1=>.ite (λh2=>.one (by rw[if_neg h1,if_pos h2])) (λh2=>.ite (λh3=>.one (by rw[if_neg h1,if_neg h2,if_pos h3]))
  (λh3=>.ite (λh4=>.one (by rw[if_neg h1,if_neg h2,if_neg h3,if_pos h4])) (λh4=>.bind (akT h) (λr hr=>.one (by rw[if_neg h1,if_neg h2,if_neg h3,if_neg h4,hr]))))))
def eigE(n:Int):List Int:=(List.range 8).flatMap λi=>[n/2 ^ (8*i) % 256]
theorem agy(n:Int):(eigE n).length=8:=by simp only[eigE,List.length_flatMap,List.length_cons,List.length_nil];rfl
theorem aoS{i e:Nat}(h:(List.range 8)[i]?=some e):e=i/\i<8:=by
 obtain⟨h1,h2⟩:=List.getElem?_eq_some_iff.1 h
 simp at h1 h2
 omega
theorem anQ{i:ag}:Wp (λk=>loopS (aT.b8 k i) k ((0:Int),([]:List Int))) (· = eigE i.N):=by
 refine(aaI (l:=List.range 8) (by simp) (h0:=[]) (g:=λj=>[i.N/2 ^ (8*j) % 256]) (λj e hj he _=>?_) (λh=>?_)).mono λr hr=>by rw[hr,List.nil_append,eigE]
 ·obtain⟨rfl,hj⟩:=aoS he
  have:=aax (l:=List.range 8) (g:=λj=>[i.N/2 ^ (8*j) % 256]) (c:=1) (λx _=>by simp) e
  simp only[List.length_range]at this
  have e1:imul .i64 8 (e:Int)=((8*e:Nat):Int):=by rw[aoh (aih (by omega) (by omega))];omega
  simp only[aT.b8]
  rw[e1,adu (k:=.u64) (j:=8*e) (by simp only[IntKind.bits];omega),wrapU8]
  refine .pos (by omega) (.pos (by omega) (.pos (aae (by simp only[List.length_append,List.length_nil];omega) (by simp only[List.length_append,List.length_nil];omega)) (.one rfl)))
 ·simp only[aT.b8,List.length_range]
  exact .neg (by omega) (.one rfl)
theorem aof{n:Int}:Wp (λk=>cZ.f k n) (· = eigE n):=by
 refine .succ ?_
 simp only[cZ.f]
 refine .bind (.loop (P:=(· = eigE n)) (λ(m:Nat) (v:Int×Int×List Int)=>∃ i:Nat,i+m=8/\v=(n/2 ^ (8*i),(i:Int),(List.range i).flatMap λi=>[n/2 ^ (8*i) % 256])) (λm v hv=>?_) (n:=8) ⟨0,by omega,by simp⟩) (λr hr=>.one hr)
 obtain⟨i,h1,rfl⟩:=hv
 have hl:((List.range i).flatMap λi=>[n/2 ^ (8*i) % 256]).length=i:=by
  clear h1
  induction i with
  | zero=>rfl
  | succ i ih=>rw[List.range_succ,List.flatMap_append,List.length_append,ih];rfl
 simp only[cZ.b3]
 refine .ite (λh=>.pos (aae (by omega) (by omega)) (.left ⟨m-1,by omega,i+1,by omega,?_⟩)) (λh=>.right ?_)
 ·have e1:ishr .u64 (n/2 ^ (8*i)) 8=n/2 ^ (8*(i+1)):=by
   rw[show(8:Int)=((8:Nat):Int)from rfl,adu (k:=.u64) (j:=8) (by decide),Int.ediv_ediv_of_nonneg (Int.le_of_lt (Int.pow_pos (by decide))),<-Int.pow_add]
   rfl
  rw[e1,aai (by omega) (by omega),wrapU8,List.range_succ,List.flatMap_append]
  rfl
 ·have:i=8:=by omega
  subst this
  rfl
def sg32(n:Int):Int:=icv .i64 (icv .i32 (icv .u32 n))
theorem aln{n:Int}(h0:0<=n)(h1:n<18446744073709551616):Wp (λk=>ev.f k n 32) (· = sg32 n):=by
 refine .succ ?_
 have e:isub .i64 64 (imax 1 (imin 32 64))=32:=by decide +kernel
 simp only[ev.f,e]
 refine .pos (by omega) (.pos (by omega) (.one ?_))
 have e1:ishl .u64 n 32=n*2 ^ 32 % 18446744073709551616:=by
  show IntKind.u64.wrap (n*2 ^ 32)=_
  rw[Lb.wrap_u64]
 have e2:∀ y:Int,ishr .i64 y 32=y/2 ^ 32:=λy=>adu (k:=.i64) (j:=32) (by decide)
 have e3:icv .u32 n=n % 4294967296:=by
  show IntKind.u32.wrap n=_
  simp only[IntKind.wrap,IntKind.signed,IntKind.bits]
  simp
 have e4:∀ y:Int,icv .i32 y=(y+2147483648) % 4294967296-2147483648:=λy=>by
  show IntKind.i32.wrap y=_
  simp only[IntKind.wrap,IntKind.signed,IntKind.bits,Int.bmod_def]
  simp
  omega
 have e5:∀ y:Int,icv .i64 y=(y+9223372036854775808) % 18446744073709551616-9223372036854775808:=λy=>Lb.wrap_i64 y
 unfold sg32
 rw[e2,e5,e5,e1,e3,e4]
 omega
def conE(op n:Int):List Int:=if op=65 then encS (sg32 n)else if op=66 then encS (icv .i64 n)else eigE n
theorem abD(op n:Int):(conE op n).length<=10:=by
 unfold conE
 split
 ·exact abT (aco _)
 split
 ·exact abT (aco _)
 ·rw[agy];omega
theorem anH{i:ag}(h0:0<=i.N)(h1:i.N<18446744073709551616):Wp (λk=>aT.f k i) (· = conE i.Op i.N):=by
 refine .succ ?_
 simp only[aT.f,conE]
 exact .ite (λh=>.bind (aln h0 h1) (λr hr=>.bind (aj3 (by rw[hr];exact aco _)) (λq hq=>.one (by rw[if_pos h,hq,hr]))))
  (λh=>.ite (λh2=>.bind (aj3 (aco _)) (λq hq=>.one (by rw[if_neg h,if_pos h2,hq]))) (λh2=>.bind anQ (λq hq=>.one (by rw[if_neg h,if_neg h2,hq]))))
theorem akJ{op n:Int}(ho:op=65∨op=66∨op=68):Wp (λk=>bF.f k op n) (· = op::conE op n):=by
 refine .succ ?_
 simp only[bF.f,conE]
 refine .ite (λh=>.bind (akT (aco _)) (λq hq=>.pos (aae (by have:=abT (aco (icv .i32 (icv .u32 n)));rw[hq];omega) (by have:=abT (aco (icv .i32 (icv .u32 n)));rw[hq];omega)) (.one ?_)))
  (λh=>.ite (λh2=>.bind (akT (aco _)) (λq hq=>.pos (aae (by have:=abT (aco n);rw[hq];omega) (by have:=abT (aco n);rw[hq];omega)) (.one ?_))) (λh2=>.bind aof (λq hq=>.pos (aae (by rw[hq,agy];omega) (by rw[hq,agy];omega)) (.one ?_))))
 ·rw[if_pos h,hq,h];rfl
 ·rw[if_neg h,if_pos h2,hq,h2];rfl
 ·have:op=68:=by omega
  rw[if_neg h,if_neg h2,hq,this];rfl
def accL:List Int:=[40,41,43,44,45,46,47,48,49,50,51,52,53,54,55,57,58,59,60,61,62]
def wid(op:Int):Int:=match aD.f 12 op with
 | some r=>r.1
 | none=>0
def lg(op:Int):Int:=match cE.f 20 (wid op)with
 | some r=>r
 | none=>0
def accOk(j:Nat)(op:Int):Bool:=((aD.f (j+12) op).map (·.1) == some (wid op))&&((ax.f (j+12) op).map (·.1) == some (wid op))&&(bk.f (j+20) (icv .u64 (wid op)) == some (lg op+1))&&(cE.f (j+20) (wid op) == some (lg op))&&(decide (0<=lg op)&&decide (lg op<=3))
theorem anv(j:Nat):accL.all (accOk j)=true:=by kernel_rfl
theorem act{op:Int}(h:acc op=true)(j:Nat):(aD.f (j+12) op).map (·.1)=some (wid op)/\(ax.f (j+12) op).map (·.1)=some (wid op)/\bk.f (j+20) (icv .u64 (wid op))=some (lg op+1)/\cE.f (j+20) (wid op)=some (lg op)/\0<=lg op/\lg op<=3:=by
 have hm:op∈accL:=by
  have:=adY.1 h
  simp only[accL,List.mem_cons,List.not_mem_nil,or_false]
  exact this
 have:=List.all_eq_true.1 (anv j) op hm
 simp only[accOk,Bool.and_eq_true,beq_iff_eq,decide_eq_true_eq]at this
 obtain⟨⟨⟨⟨a,b⟩,c⟩,d⟩,e,f⟩:=this
 exact⟨a,b,c,d,e,f⟩
theorem anw(op:Int):Wp (λk=>aD.f k op) (λr=>r.2.2.2=acc op/\(acc op=true->r.1=wid op)):=by
 have h1:=ajd op
 by_cases h:acc op=true
 ·obtain⟨a,ha,K,hK⟩:=h1
  refine⟨a,⟨ha,λ_=>?_⟩,K,hK⟩
  have h2:=(act h K).1
  have h3:aD.f (K+12) op=some a:=hK (K+12) (by omega)
  rw[h3]at h2
  simpa using h2
 ·exact h1.mono λr hr=>⟨hr,λq=>(h q).elim⟩
theorem amj(op:Int):Wp (λk=>ax.f k op) (λr=>(0<r.1↔acc op=true)/\(acc op=true->r.1=wid op)):=by
 have h1:=ahh op
 by_cases h:acc op=true
 ·obtain⟨a,ha,K,hK⟩:=h1
  refine⟨a,⟨ha,λ_=>?_⟩,K,hK⟩
  have h2:=(act h K).2.1
  have h3:ax.f (K+12) op=some a:=hK (K+12) (by omega)
  rw[h3]at h2
  simpa using h2
 ·exact h1.mono λr hr=>⟨hr,λq=>(h q).elim⟩
theorem amD{op:Int}(h:acc op=true):Wp (λk=>bk.f k (icv .u64 (wid op))) (· = lg op+1):=.at_ 20 (λk hk=>by
 obtain⟨j,rfl⟩:∃ j,k=j+20:=⟨k-20,by omega⟩
 exact(act h j).2.2.1) rfl
theorem amS{op:Int}(h:acc op=true):Wp (λk=>cE.f k (wid op)) (· = lg op):=.at_ 20 (λk hk=>by
 obtain⟨j,rfl⟩:∃ j,k=j+20:=⟨k-20,by omega⟩
 exact(act h j).2.2.2.1) rfl
theorem adR{n:Int}(h0:0<=n)(h1:n<=127):encU n=[n]:=by
 have:runU 10 n []=(n,[]):=by simp only[runU];rw[if_neg (by omega)]
 simp only[encU,this,List.nil_append]
def accE(i:ag):List Int:=(if i.A=0 then[lg i.Op]else(lg i.Op+64)::encU i.A)++encU i.N
theorem aiv{i:ag}(h:acc i.Op=true)(ha:0<=i.A/\i.A<4)(h0:0<=i.N)(h1:i.N<=4294967295):Wp (λk=>dt.f k i (wid i.Op)) (· = accE i):=by
 obtain⟨_,_,_,_,g0,g1⟩:=act h 0
 have l1:=aag (n:=i.A) (by omega) (by omega)
 have l2:=aag (n:=i.N) h0 (by omega)
 have e1:isub .i64 (lg i.Op+1) 1=lg i.Op:=by rw[aap (by omega) (by omega)];omega
 refine .succ ?_
 simp only[dt.f]
 refine .bind (amD h) (λr hr=>?_)
 subst hr
 rw[e1]
 refine .bind (abu (by omega) (by omega)) (λr hr=>?_)
 subst hr
 refine .seg (Q:=λx=>x=if i.A=0 then[lg i.Op]else(lg i.Op+64)::encU i.A) ?_ (λx hx=>.bind (amK h0 (by omega)) (λr hr=>?_))
 ·refine .ite (λhp=>.bind (amD h) (λr hr=>?_)) (λhp=>.left ?_)
  ·subst hr
   rw[e1,aai (by omega) (by omega)]
   refine .bind (abu (by omega) (by omega)) (λr hr=>.bind (abu (by omega) (by omega)) (λs hs=>?_))
   subst hr hs
   rw[adR (n:=lg i.Op+64) (by omega) (by omega)]
   exact .pos (aae (by simp;omega) (by simp;omega)) (.left (by rw[if_neg (by omega)];rfl))
  ·rw[if_pos (by omega),adR g0 (by omega)]
 ·subst hr
  have:x.length<=12:=by rw[hx];split <;> simp <;> omega
  exact .pos (aae (by omega) (by omega)) (.one (by rw[accE,hx]))
def labE(l:List Int):List Int:=encU ((l.length:Int)-1)++l.flatMap encU
theorem agN{l:List Int}(hl:l.length<=17)(h:∀ e∈l,0<=e/\e<65):(l.flatMap encU).length<=11*17:=
 Nat.le_trans (aaG λx hx=>aag (h x hx).1 (by have:=h x hx;omega)) (Nat.mul_le_mul_left _ hl)
theorem aid{l:List Int}(hl:1<=l.length/\l.length<=17)(h:∀ e∈l,0<=e/\e<65):Wp (λk=>bu.f k l) (· = labE l):=by
 have hf:=agN hl.2 h
 have h1:=aag (n:=(l.length:Int)-1) (by omega) (by omega)
 refine .succ ?_
 simp only[bu.f]
 refine .bind (aaI (l:=l) (by omega) (h0:=[]) (g:=encU) (λi e hi he hm=>?_) (λh=>?_)) (λr hr=>?_)
 ·have:=aax (l:=l) (g:=encU) (c:=11) (λx hx=>aag (h x hx).1 (by have:=h x hx;omega)) i
  have h2:=aag (h e hm).1 (by have:=h e hm;omega)
  have h3:=h e hm
  simp only[bu.b3]
  refine .pos (by omega) (aaM he (.bind (abu (by omega) (by omega)) (λr hr=>?_)))
  subst hr
  exact .pos (aae (by simp at this ⊢;omega) (by simp at this ⊢;omega)) (.one rfl)
 ·simp only[bu.b3]
  exact .neg (by omega) (.one rfl)
 ·subst hr
  rw[aap (by omega) (by omega)]
  have em:imax 0 ((l.length:Int)-1)=(l.length:Int)-1:=by unfold imax;split <;> omega
  rw[em]
  refine .bind (abu (by omega) (by omega)) (λr hr=>?_)
  subst hr
  exact .pos (aae (by simp only[List.nil_append];omega) (by simp only[List.nil_append];omega)) (.one (by rw[List.nil_append,labE]))
def behE(i:ag):List Int:=match cls i.Op with
 | 0=>blkE i.A
 | 1=>accE i
 | 2 | 3=>conE i.Op i.N
 | 4 | 6 | 7 | 8 | 9 | 11=>encU i.A
 | 5=>labE i.L
 | 10=>encU i.B++encU i.A
 | 12=>encU i.A++encU i.B
 |_=>[]
def preE(op:Int):List Int:=if op≥64512 then 252::encU (op-64512)else[icv .u8 op]
def insE(i:ag):List Int:=preE i.Op++behE i
def onU(op:Int):Prop:=op=12∨op=13∨op=16∨op=18∨(32<=op/\op<=36)∨op=63∨op=64∨op=64521∨op=64523
theorem alG{op:Int}(h:acc op=true):(40<=op/\op<=62):=amB h
theorem aoR{i:ag}(ok:okA i (cls i.Op))(h:onU i.Op):(0<=i.A/\i.A<256)/\behE i=encU i.A:=by
 unfold onU at h
 rcases abh i.Op with⟨c,q⟩ | ⟨c,q⟩ | ⟨c,q⟩ | ⟨c,q⟩ | ⟨c,q⟩ | ⟨c,q⟩ | ⟨c,q⟩ | ⟨c,q⟩ | ⟨c,q⟩ | ⟨c,q⟩ | ⟨c,q⟩ | ⟨c,q⟩ | ⟨c,q⟩ | ⟨c,q⟩ <;> rw[c]at ok <;> simp only[behE,c] <;> simp only[okA]at ok <;>
  first
  | (exfalso;omega)
  | (exfalso;have:=alG q;omega)
  | exact⟨by omega,rfl⟩
  | exact⟨by omega,trivial⟩
theorem ao0{i:ag}(h0:¬(2<=i.Op/\i.Op<=4))(h1:acc i.Op=false)(h2:¬(i.Op=65∨i.Op=66∨i.Op=68))(h3:¬onU i.Op)(h4:i.Op≠14)(h5:i.Op≠64520)(h6:i.Op≠64522):behE i=[]:=by
 unfold onU at h3
 rcases abh i.Op with⟨c,q⟩ | ⟨c,q⟩ | ⟨c,q⟩ | ⟨c,q⟩ | ⟨c,q⟩ | ⟨c,q⟩ | ⟨c,q⟩ | ⟨c,q⟩ | ⟨c,q⟩ | ⟨c,q⟩ | ⟨c,q⟩ | ⟨c,q⟩ | ⟨c,q⟩ | ⟨c,q⟩ <;> simp only[behE,c] <;>
  first
  | (exfalso;omega)
  | (exfalso;rw[q]at h1;cases h1)
theorem acQ{op:Int}{n:Nat}(h:cls op=n){i:ag}(e:i.Op=op):cls i.Op=n:=by rw[e];exact h
theorem aiw{i:ag}(ok:okA i (cls i.Op))(h0:0<=i.N)(h1:i.N<18446744073709551616):Wp (λk=>bL.f k i) (· = behE i):=by
 refine .succ ?_
 simp only[bL.f]
 refine .bind (anw i.Op) (λr hr=>.bind (amI i.Op) (λc hc=>.bind (abg i.Op) (λo ho=>?_)))
 obtain⟨r1,r2,r3,r4⟩:=r
 obtain⟨c1,c2⟩:=c
 dsimp only at hr hc ⊢
 obtain⟨hr,hw⟩:=hr
 subst hr
 refine .tif ho (λh=>?_) (λh=>.ite (λha=>?_) (λha=>.tif hc (λh2=>?_) (λh2=>?_)))
 ·have c0:cls i.Op=0:=by unfold cls;rw[if_pos h]
  rw[c0]at ok
  exact .bind (akH (aih (by have:=ok.1;omega) (by have:=ok.2;omega))) (λr hr=>.one (by rw[hr];simp only[behE,c0]))
 ·have c1:cls i.Op=1:=by unfold cls;rw[if_neg h,if_pos ha]
  rw[c1]at ok
  rw[hw ha]
  exact .bind (aiv ha ok.1 h0 ok.2) (λr hr=>.one (by rw[hr];simp only[behE,c1]))
 ·have c2:cls i.Op=2∨cls i.Op=3:=by
   unfold cls;rw[if_neg h,if_neg ha]
   by_cases h5:i.Op=65
   ·rw[if_pos h5];exact .inl rfl
   ·rw[if_neg h5,if_pos (by omega)];exact .inr rfl
  refine .bind (anH h0 h1) (λr hr=>.one ?_)
  rw[hr]
  rcases c2 with c2 | c2 <;> simp only[behE,c2]
 ·refine .seg (Q:=Tell (onU i.Op)) ?_ (λx hx=>.tif hx (λhu=>?_) (λhu=>.ite (λh14=>?_) (λh14=>.ite (λh15=>?_) (λh15=>.ite (λh16=>?_) (λh16=>?_)))))
  ·repeat' first
    | exact .left (.yes (by unfold onU;omega))
    | exact .left (.no (by unfold onU;omega))
    | refine .ite (λ_=>?_) (λ_=>?_)
  ·obtain⟨b,e⟩:=aoR ok hu
   exact .bind (abu (by omega) (by omega)) (λr hr=>.one (by rw[hr,e]))
  ·have c5:cls i.Op=5:=acQ (by decide +kernel) h14
   rw[c5]at ok
   exact .bind (aid ok.1 ok.2) (λr hr=>.one (by rw[hr];simp only[behE,c5]))
  ·have c5:cls i.Op=10:=acQ (by decide +kernel) h15
   rw[c5]at ok
   simp only[okA]at ok
   have l1:=aag (n:=i.B) (by omega) (by omega)
   have l2:=aag (n:=i.A) (by omega) (by omega)
   refine .bind (abu (by omega) (by omega)) (λr hr=>.bind (abu (by omega) (by omega)) (λs hs=>?_))
   subst hr hs
   exact .pos (aae (by omega) (by omega)) (.one (by simp only[behE,c5]))
  ·have c5:cls i.Op=12:=acQ (by decide +kernel) h16
   rw[c5]at ok
   simp only[okA]at ok
   have l1:=aag (n:=i.B) (by omega) (by omega)
   have l2:=aag (n:=i.A) (by omega) (by omega)
   refine .bind (abu (by omega) (by omega)) (λr hr=>.bind (abu (by omega) (by omega)) (λs hs=>?_))
   subst hr hs
   exact .pos (aae (by omega) (by omega)) (.one (by simp only[behE,c5]))
  ·exact .one (ao0 h (by simpa using ha) h2 hu h14 h15 h16).symm
theorem afr{i:ag}(ok:okA i (cls i.Op))(h0:0<=i.N)(h1:i.N<18446744073709551616):(behE i).length<=198:=by
 rcases abh i.Op with⟨c,q⟩ | ⟨c,q⟩ | ⟨c,q⟩ | ⟨c,q⟩ | ⟨c,q⟩ | ⟨c,q⟩ | ⟨c,q⟩ | ⟨c,q⟩ | ⟨c,q⟩ | ⟨c,q⟩ | ⟨c,q⟩ | ⟨c,q⟩ | ⟨c,q⟩ | ⟨c,q⟩ <;> rw[c]at ok <;> simp only[behE,c] <;> simp only[okA]at ok
 ·have:=aeR (a:=i.A) (aih (by omega) (by omega));omega
 ·have l1:=aag (n:=i.A) (by omega) (by omega)
  have l2:=aag (n:=i.N) (by omega) (by omega)
  simp only[accE,List.length_append]
  split <;> simp <;> omega
 ·have:=abD i.Op i.N;omega
 ·have:=abD i.Op i.N;omega
 ·have:=aag (n:=i.A) (by omega) (by omega);omega
 ·have:=agN ok.1.2 ok.2
  have l1:=aag (n:=(i.L.length:Int)-1) (by omega) (by omega)
  simp only[labE,List.length_append];omega
 ·have:=aag (n:=i.A) (by omega) (by omega);omega
 ·have:=aag (n:=i.A) (by omega) (by omega);omega
 ·have:=aag (n:=i.A) (by omega) (by omega);omega
 ·have:=aag (n:=i.A) (by omega) (by omega);omega
 ·have l1:=aag (n:=i.A) (by omega) (by omega)
  have l2:=aag (n:=i.B) (by omega) (by omega)
  simp only[List.length_append];omega
 ·have:=aag (n:=i.A) (by omega) (by omega);omega
 ·have l1:=aag (n:=i.A) (by omega) (by omega)
  have l2:=aag (n:=i.B) (by omega) (by omega)
  simp only[List.length_append];omega
 ·simp
theorem ahQ{op:Int}(h:kn op=true):0<=op/\op<=64523:=by
 by_cases hf:Far op
 ·rw[am8 hf]at h;cases h
 ·rcases aeB hf with⟨n,hn,rfl⟩ | ⟨n,hn,rfl⟩ <;> omega
theorem afb{op:Int}(h:0<=op/\op<=64523):(preE op).length<=12:=by
 unfold preE
 split
 ·have:=aag (n:=op-64512) (by omega) (by omega)
  simp only[List.length_cons];omega
 ·simp
theorem adP{i:ag}(h:ac3 i)(h0:0<=i.N)(h1:i.N<18446744073709551616):(insE i).length<=210:=by
 have:=afr h.2.1 h0 h1
 have:=afb (ahQ h.1)
 simp only[insE,List.length_append];omega
end Wr
end Go.R4
namespace Go.R4
open Go.Proofs Go.Ev
set_option maxRecDepth 100000
namespace Wr
open Lb
theorem aj9{α β:Type}{l:List α}{i:Nat}{e:α}(h:l[i]?=some e){f:Nat->α->Option β}{P:β->Prop}(hf:Wp (λk=>f k e) P):Wp (λk=>(l[((i:Int)).toNat]?).bind (f k)) P:=by
 simp only[Int.toNat_natCast,h,Option.bind_some];exact hf
theorem ahK{i:ag}(h:ac3 i)(h0:0<=i.N)(h1:i.N<18446744073709551616):Wp (λk=>cJ.f k i) (· = insE i):=by
 have ok:=h.2.1
 have ht:=ahQ h.1
 have hpl:=afb ht
 have hbl:=afr ok h0 h1
 refine .succ ?_
 simp only[cJ.f]
 refine .bind (ajA i.Op) (λc hc=>.ite (λhz=>?_) (λhz=>?_))
 ·have hn:=hc.1 hz
  refine .seg (Q:=(· = preE i.Op)) ?_ (λp hp=>.bind (amj i.Op) (λr hr=>.bind (acU i.Op) (λo ho=>?_)))
  ·refine .ite (λhb=>.bind (abj (by rw[aap (by omega) (by omega)];omega) (by rw[aap (by omega) (by omega)];omega)) (λr hr=>?_)) (λhb=>.left (by rw[preE,if_neg hb]))
   rw[aap (by omega) (by omega)]at hr
   have e:preE i.Op=252::encU (i.Op-64512):=by rw[preE,if_pos hb]
   rw[e]at hpl
   simp only[List.length_cons]at hpl
   subst hr
   exact .pos (aae (by omega) (by omega)) (.left (by rw[e];rfl))
  obtain⟨r1,r2,r3⟩:=r
  obtain⟨hr,hw⟩:=hr
  dsimp only at hr hw ⊢
  have fin:∀ {q:List Int},q=behE i->p++q=insE i:=λhq=>by rw[hq,hp,insE]
  have rm:∀ {q:List Int},q.length<=1000->aad (p.length+q.length) 1:=λhq=>aae (by rw[hp];omega) (by rw[hp];omega)
  refine .tif ho (λh2=>?_) (λh2=>.ite (λh14=>?_) (λh14=>?_))
  ·have c0:cls i.Op=0:=by unfold cls;rw[if_pos h2]
   rw[c0]at ok
   have hb:=aeR (a:=i.A) (aih (by have:=ok.1;omega) (by have:=ok.2;omega))
   exact .bind (ajt (aih (by have:=ok.1;omega) (by have:=ok.2;omega))) (λq hq=>by subst hq;exact .pos (rm (by omega)) (.one (fin (by simp only[behE,c0]))))
  ·have c5:cls i.Op=5:=acQ (by decide +kernel) h14
   rw[c5]at ok
   obtain⟨⟨o1,o2⟩,o3⟩:=ok
   have l1:=aag (n:=(i.L.length:Int)-1) (by omega) (by omega)
   have hf:=agN o2 o3
   rw[aap (by omega) (by omega)]
   refine .bind (abj (by omega) (by omega)) (λq hq=>?_)
   subst hq
   refine .pos (rm (by omega)) (.bind (aaI (l:=i.L) (by omega) (g:=encU) (λj e hj he hm=>?_) (λh=>?_)) (λq hq=>.one ?_))
   ·have:=aax (l:=i.L) (g:=encU) (c:=11) (λx hx=>aag (o3 x hx).1 (by have:=o3 x hx;omega)) j
    have h2:=aag (o3 e hm).1 (by have:=o3 e hm;omega)
    have h3:=o3 e hm
    simp only[cJ.b12]
    refine .pos (by omega) (aaM he (.bind (abj (by omega) (by omega)) (λr hr=>?_)))
    subst hr
    have hpp:=congrArg List.length hp
    exact .pos (aae (by simp only[List.length_append];omega) (by simp only[List.length_append];omega)) (.one rfl)
   ·simp only[cJ.b12]
    exact .neg (by omega) (.one rfl)
   ·rw[hq,List.append_assoc]
    exact fin (by simp only[behE,c5,labE])
  ·refine .seg (Q:=Tell (acc i.Op=true/\i.A=0)) ?_ (λx hx=>.tif hx (λha=>?_) (λha=>.ite (λhg=>?_) (λhg=>?_)))
   ·exact .ite (λhg=>.left (.dec ⟨λq=>⟨hr.1 (by omega),q⟩,λq=>q.2⟩)) (λhg=>.left (.no λq=>hg (by have:=hr.2 q.1;omega)))
   ·obtain⟨ha,hA⟩:=ha
    have c1:cls i.Op=1:=by unfold cls;rw[if_neg h2,if_pos ha]
    rw[c1]at ok
    simp only[okA]at ok
    obtain⟨_,_,_,_,g0,g1⟩:=act ha 0
    have l2:=aag (n:=i.N) h0 h1
    rw[hw ha]
    refine .bind (amS ha) (λq hq=>?_)
    subst hq
    refine .pos (aae (by rw[hp];omega) (by rw[hp];omega)) (.bind (ajr h0 h1) (λq hq=>?_))
    subst hq
    refine .pos (aae (by rw[hp];simp only[List.length_append,List.length_cons,List.length_nil];omega) (by rw[hp];simp only[List.length_append,List.length_cons,List.length_nil];omega)) (.one ?_)
    rw[List.append_assoc,aef g0 (by omega)]
    exact fin (by simp only[behE,c1,accE];rw[if_pos hA])
   ·have ha':acc i.Op=true:=hr.1 (by omega)
    have hA:i.A≠0:=λq=>ha ⟨ha',q⟩
    have c1:cls i.Op=1:=by unfold cls;rw[if_neg h2,if_pos ha']
    rw[c1]at ok
    simp only[okA]at ok
    obtain⟨_,_,_,_,g0,g1⟩:=act ha' 0
    have l2:=aag (n:=i.N) h0 h1
    have l3:=aag (n:=i.A) (by omega) (by omega)
    rw[hw ha']
    refine .bind (amS ha') (λq hq=>?_)
    subst hq
    refine .pos (aae (by rw[hp];omega) (by rw[hp];omega)) (.bind (abj (by omega) (by omega)) (λq hq=>?_))
    subst hq
    refine .pos (aae (by rw[hp];simp only[List.length_append,List.length_cons,List.length_nil];omega) (by rw[hp];simp only[List.length_append,List.length_cons,List.length_nil];omega)) (.bind (ajr h0 h1) (λq hq=>?_))
    subst hq
    refine .pos (aae (by rw[hp];simp only[List.length_append,List.length_cons,List.length_nil];omega) (by rw[hp];simp only[List.length_append,List.length_cons,List.length_nil];omega)) (.one ?_)
    rw[aai (by omega) (by omega),aef (by omega) (by omega),List.append_assoc,List.append_assoc]
    exact fin (by simp only[behE,c1,accE];rw[if_neg hA];rfl)
   ·have ha':acc i.Op=false:=by
     cases q:acc i.Op with
     | false=>rfl
     | true=>have:=hr.2 q;omega
    refine .ite (λh15=>?_) (λh15=>.ite (λh16=>?_) (λh16=>.seg (Q:=Tell (onU i.Op)) ?_ (λx hx=>.tif hx (λhu=>?_) (λhu=>?_))))
    ·have c5:cls i.Op=10:=acQ (by decide +kernel) h15
     rw[c5]at ok
     simp only[okA]at ok
     have l1:=aag (n:=i.B) (by omega) (by omega)
     have l2:=aag (n:=i.A) (by omega) (by omega)
     refine .bind (abj (by omega) (by omega)) (λq hq=>?_)
     subst hq
     refine .pos (rm (by omega)) (.bind (abj (by omega) (by omega)) (λq hq=>?_))
     subst hq
     refine .pos (aae (by rw[hp];simp only[List.length_append];omega) (by rw[hp];simp only[List.length_append];omega)) (.one ?_)
     rw[List.append_assoc]
     exact fin (by simp only[behE,c5])
    ·have c5:cls i.Op=12:=acQ (by decide +kernel) h16
     rw[c5]at ok
     simp only[okA]at ok
     have l1:=aag (n:=i.B) (by omega) (by omega)
     have l2:=aag (n:=i.A) (by omega) (by omega)
     refine .bind (abj (by omega) (by omega)) (λq hq=>?_)
     subst hq
     refine .pos (rm (by omega)) (.bind (abj (by omega) (by omega)) (λq hq=>?_))
     subst hq
     refine .pos (aae (by rw[hp];simp only[List.length_append];omega) (by rw[hp];simp only[List.length_append];omega)) (.one ?_)
     rw[List.append_assoc]
     exact fin (by simp only[behE,c5])
    ·refine .ite (λ_=>.left (.yes (by unfold onU;omega))) (λ_=>.ite (λ_=>.left (.yes (by unfold onU;omega))) (λ_=>.ite (λ_=>.left (.yes (by unfold onU;omega))) (λ_=>.ite (λ_=>.left (.yes (by unfold onU;omega))) (λ_=>.seg ako (λx hx=>.tif hx (λ_=>.left (.yes (by unfold onU;omega))) (λ_=>?_))))))
     repeat' first
      | exact .left (.yes (by unfold onU;omega))
      | exact .left (.no (by unfold onU;omega))
      | refine .ite (λ_=>?_) (λ_=>?_)
    ·obtain⟨b,e⟩:=aoR ok hu
     have l2:=aag (n:=i.A) (by omega) (by omega)
     exact .bind (abj (by omega) (by omega)) (λq hq=>by subst hq;exact .pos (rm (by omega)) (.one (fin e.symm)))
    ·have:=ao0 h2 ha' hn hu h14 h15 h16
     refine .one ?_
     have:=fin this.symm
     rw[List.append_nil]at this
     exact this
 ·have ho:i.Op=65∨i.Op=66∨i.Op=68:=Classical.not_not.1 λq=>hz (hc.2 q)
  refine .bind (akJ ho) (λq hq=>.one ?_)
  have hcl:cls i.Op=2∨cls i.Op=3:=by
   rcases ho with ho | ho | ho
   ·exact .inl (acQ (by decide +kernel) ho)
   ·exact .inr (acQ (by decide +kernel) ho)
   ·exact .inr (acQ (by decide +kernel) ho)
  have hb:behE i=conE i.Op i.N:=by rcases hcl with c | c <;> simp only[behE,c]
  rw[hq,insE,hb,preE,if_neg (by omega),aef (by omega) (by omega)]
  rfl
def aeq(l:List ag):Prop:=l.length<=70000/\∀ i∈l,ac3 i/\0<=i.N/\i.N<18446744073709551616
def codE(l:List ag):List Int:=l.flatMap insE
theorem ale{l:List ag}(h:aeq l):(codE l).length<=210*l.length:=aaG λx hx=>adP (h.2 x hx).1 (h.2 x hx).2.1 (h.2 x hx).2.2
theorem acB{l:List ag}(h:aeq l)(n:Nat):((l.take n).flatMap insE).length<=14700000:=by
 exact Nat.le_trans (aax (g:=insE) (λx hx=>adP (h.2 x hx).1 (h.2 x hx).2.1 (h.2 x hx).2.2) n) (by have:=h.1;omega)
theorem aoK{op:Int}{h:List Int}(hh:h.length<=100000000000)(ht:0<=op/\op<=64523):Wp (λk=>if op≥64512 then(if aad (h.length+1) 1 then((ap.f k (isub .i64 op 64512)).bind λr=>(if aad ((h++([(252:Int)]:List Int)).length+r.length) 1 then(some (.inl ((h++([(252:Int)]:List Int))++r)):Option (List Int⊕((Int×List Int)⊕List Int)))else none))else none)else(if aad (h.length+1) 1 then(some (.inl (h++([(icv .u8 op)]:List Int))))else none)) (aaJ (· = h++preE op) (λ_=>False)):=by
 refine .ite (λhb=>.pos (aae (by omega) (by omega)) ?_) (λhb=>.pos (aae (by omega) (by omega)) (.left (by rw[preE,if_neg hb])))
 rw[aap (by omega) (by omega)]
 have l1:=aag (n:=op-64512) (by omega) (by omega)
 refine .bind (abu (by omega) (by omega)) (λr hr=>?_)
 subst hr
 refine .pos (aae (by simp only[List.length_append,List.length_cons,List.length_nil];omega) (by simp only[List.length_append,List.length_cons,List.length_nil];omega)) (.left ?_)
 rw[preE,if_pos hb,List.append_assoc];rfl
theorem ahG{i:ag}{n:Nat}{h:List Int}(hh:h.length<=100000000)(hi:ac3 i/\0<=i.N/\i.N<18446744073709551616) :
  Wp (λk=>segB (if i.Op≥64512 then(if aad (h.length+1) 1 then((ap.f k (isub .i64 i.Op 64512)).bind λr127=>(if aad ((h++([(252:Int)]:List Int)).length+r127.length) 1 then(some (.inl ((h++([(252:Int)]:List Int))++r127)):Option (List Int⊕((Int×List Int)⊕List Int)))else none))else none)else(if aad (h.length+1) 1 then(some (.inl (h++([(icv .u8 i.Op)]:List Int))))else none))
   (λh126=>((bL.f k i).bind λr130=>(if aad (h126.length+r130.length) 1 then(some (.inl ((iadd .i64 (n:Int) 1),(h126++r130))))else none)))) (· = .inl (iadd .i64 (n:Int) 1,h++insE i)):=by
 have ht:=ahQ hi.1.1
 have l1:=afb ht
 have l2:=afr hi.1.2.1 hi.2.1 hi.2.2
 refine .seg (Q:=(· = h++preE i.Op)) ((aoK (by omega) ht).mono λa ha=>?_) (λx hx=>.bind (aiw hi.1.2.1 hi.2.1 hi.2.2) (λr hr=>?_))
 ·cases a with
  | inl o=>exact ha
  | inr o=>exact ha.elim
 ·subst hr hx
  refine .pos (aae (by simp only[List.length_append];omega) (by simp only[List.length_append];omega)) (.one ?_)
  rw[List.append_assoc,insE]
theorem alU{l:List ag}(h:aeq l):Wp (λk=>bx.f k l) (· = codE l):=by
 have hl:=h.1
 refine .succ ?_
 simp only[bx.f]
 refine .bind (aaI (l:=l) (by omega) (h0:=[]) (g:=insE) (λn e hn he hm=>?_) (λh=>?_)) (λr hr=>.one (by rw[hr,List.nil_append,codE]))
 ·have:=acB h n
  simp only[bx.b3]
  exact .pos (by omega) (aaM he (ahG (by simp only[List.nil_append];omega) (h.2 e hm)))
 ·simp only[bx.b3]
  exact .neg (by omega) (.one rfl)
theorem aem{l:List ag}(h:aeq l):Wp (λk=>aJ.f k l) (· = codE l):=by
 have hl:=h.1
 refine .succ ?_
 simp only[aJ.f]
 refine .bind (aaI (l:=l) (by omega) (h0:=[]) (g:=insE) (λn e hn he hm=>?_) (λh=>?_)) (λr hr=>.one (by rw[hr,List.nil_append,codE]))
 ·have:=acB h n
  simp only[aJ.b3]
  exact .pos (by omega) (.pos ⟨by omega,by omega⟩ (aj9 he (ahG (by simp only[List.nil_append];omega) (h.2 e hm))))
 ·simp only[aJ.b3]
  exact .neg (by omega) (.one rfl)
theorem alj{l:List ag}(h:aeq l):Wp (λk=>dj.f k l) (· = codE l):=by
 have hl:=h.1
 refine .succ ?_
 simp only[dj.f]
 refine .bind (aaI (l:=l) (by omega) (h0:=[]) (g:=insE) (λn e hn he hm=>?_) (λh=>?_)) (λr hr=>.one (by rw[hr,List.nil_append,codE]))
 ·have:=acB h n
  have hi:=h.2 e hm
  have l1:=adP hi.1 hi.2.1 hi.2.2
  simp only[dj.b3]
  refine .pos (by omega) (aaM he (.bind (ahK hi.1 hi.2.1 hi.2.2) (λr hr=>?_)))
  subst hr
  exact .pos (aae (by simp only[List.nil_append];omega) (by simp only[List.nil_append];omega)) (.one rfl)
 ·simp only[dj.b3]
  exact .neg (by omega) (.one rfl)
end Wr
end Go.R4
namespace Go.R4
open Go.Proofs Go.Ev
set_option maxRecDepth 100000
namespace Wr
open Lb
def runs:List Int->List (Int×Nat)
 | []=>[]
 | x::r=>match runs r with
  | []=>[(x,1)]
  | (y,n)::g=>if x=y then(x,n+1)::g else(x,1)::(y,n)::g
theorem akM(x:Int)(r:List Int):∃ n g,runs (x::r)=(x,n)::g:=by
 simp only[runs]
 split
 ·exact⟨1,[],rfl⟩
 ·split
  ·exact⟨_,_,rfl⟩
  ·exact⟨_,_,rfl⟩
theorem ahD(x:Int){s:List Int}(hs:s.head?≠some x):∀ m:Nat,runs (List.replicate (m+1) x++s)=(x,m+1)::runs s
 | 0=>by
  cases s with
  | nil=>rfl
  | cons y s=>
   obtain⟨n,g,e⟩:=akM y s
   have hxy:x≠y:=λh=>hs (by rw[h];rfl)
   show runs (x::(y::s))=_
   rw[runs,e]
   simp only
   rw[if_neg hxy]
 | m+1=>by
  show runs (x::(List.replicate (m+1) x++s))=_
  rw[runs,ahD x hs m]
  simp
theorem ach:∀ l:List Int,(runs l).length<=l.length
 | []=>by simp[runs]
 | x::r=>by
  have h:=ach r
  rw[runs]
  cases q:runs r with
  | nil=>simp
  | cons a g=>
   obtain⟨y,n⟩:=a
   rw[q]at h
   simp only[List.length_cons]at h ⊢
   split <;> simp only[List.length_cons] <;> omega
theorem ajh:∀ (l:List Int) (p:Int×Nat),p∈runs l->p.2<=l.length
 | [],p,h=>by simp[runs]at h
 | x::r,p,h=>by
  have ih:=ajh r
  rw[runs]at h
  cases q:runs r with
  | nil=>rw[q]at h;simp at h;subst h;simp
  | cons a g=>
   obtain⟨y,n⟩:=a
   rw[q]at h ih
   simp only at h
   have hn:=ih (y,n) (List.mem_cons_self ..)
   split at h
   ·rcases List.mem_cons.1 h with rfl | h
    ·simp only[List.length_cons];simp only at hn;omega
    ·have:=ih p (List.mem_cons_of_mem _ h);simp only[List.length_cons];omega
   ·rcases List.mem_cons.1 h with rfl | h
    ·simp
    ·have:=ih p h;simp only[List.length_cons];omega
def runE(p:Int×Nat):List Int:=encU p.2++[icv .u8 p.1]
def locE(l:List Int):List Int:=encU (runs l).length++(runs l).flatMap runE
theorem amv{l:List Int}(hl:l.length<=256){p:Int×Nat}(h:p∈runs l):(runE p).length<=12:=by
 have:=ajh l p h
 have:=aag (n:=(p.2:Int)) (by omega) (by omega)
 simp only[runE,List.length_append,List.length_cons,List.length_nil];omega
theorem ac0{l:List Int}(hl:l.length<=256):((runs l).flatMap runE).length<=3072:=
 Nat.le_trans (aaG λp hp=>amv hl hp) (by have:=ach l;omega)
theorem amx{l:List Int}(hl:l.length<=256):(locE l).length<=3083:=by
 have:=ac0 hl
 have:=ach l
 have:=aag (n:=((runs l).length:Int)) (by omega) (by omega)
 simp only[locE,List.length_append];omega
theorem amm{l:List Int}(hl:l.length<=256){B:Nat->Int->Int->Option (Int⊕Int)}{i:Nat}(hi:i<l.length)
  (eB:∀ k v,B k (i:Int) v=if v<(l.length:Int)then((at? l v).bind λe201=>((at? l (i:Int)).bind λe203=>(if e201=e203 then(some (.inl (iadd .i64 v 1)))else(some (.inr v)))))else(some (.inr v))) :
  Wp (λk=>loopS (B k (i:Int)) k (i:Int)) (λr=>∃ m:Nat,r=(i:Int)+(m+1:Nat)/\l.drop i=List.replicate (m+1) l[i]++l.drop (i+(m+1))/\(l.drop (i+(m+1))).head?≠some l[i]/\i+(m+1)<=l.length):=by
 have hx:at? l (i:Int)=some l[i]:=by rw[at?_nat,List.getElem?_eq_getElem hi]
 refine .loop (λ(n:Nat) (v:Int)=>∃ j:Nat,v=(j:Int)/\j+n=l.length/\i<=j/\l.drop i=List.replicate (j-i) l[i]++l.drop j) (λn v hv=>?_) (n:=l.length-i) ⟨i,rfl,by omega,Nat.le_refl _,by simp⟩
 obtain⟨j,rfl,h1,h2,h3⟩:=hv
 have nz:(l.drop j).head?≠some l[i]->∃ m:Nat,(j:Int)=(i:Int)+(m+1:Nat)/\l.drop i=List.replicate (m+1) l[i]++l.drop (i+(m+1))/\(l.drop (i+(m+1))).head?≠some l[i]/\i+(m+1)<=l.length:=λhne=>by
  have hij:i≠j:=λh=>by subst h;exact hne (by rw[List.head?_drop,List.getElem?_eq_getElem hi])
  refine⟨j-i-1,by omega,?_⟩
  rw[show j-i-1+1=j-i from by omega,show i+(j-i)=j from by omega]
  exact⟨h3,hne,by omega⟩
 simp only[eB,hx]
 refine .ite (λhj=>?_) (λhj=>.right (nz ?_))
 ·have hj':j<l.length:=by omega
  rw[at?_nat,List.getElem?_eq_getElem hj']
  simp only[Option.bind_some]
  refine .ite (λhe=>.left ⟨n-1,by omega,j+1,by rw[aai (by omega) (by omega)];rfl,by omega,by omega,?_⟩) (λhe=>.right (nz ?_))
  ·rw[h3,List.drop_eq_getElem_cons hj',he,show j+1-i=(j-i)+1 from by omega,List.replicate_succ',List.append_assoc]
   rfl
  ·rw[List.head?_drop,List.getElem?_eq_getElem hj']
   exact λh=>he (by simpa using h)
 ·rw[List.drop_of_length_le (by omega)]
  simp
theorem ahf{l:List Int}(hl:l.length<=256){U:Nat->Int->Option (List Int)}(hU:∀ n:Int,0<=n->n<=1000->Wp (λk=>U k n) (· = encU n)){A:Nat->Int->Int->Option (Int⊕Int)}{B:Nat->(Int×Int×List Int)->Option ((Int×Int×List Int)⊕(Int×List Int))}
  (eA:∀ k (i:Int) v,A k i v=if v<(l.length:Int)then((at? l v).bind λe201=>((at? l i).bind λe203=>(if e201=e203 then(some (.inl (iadd .i64 v 1)))else(some (.inr v)))))else(some (.inr v)))
  (eB:∀ k n i h,B k (n,i,h)=if i<(l.length:Int)then((loopS (A k i) k i).bind λk195=>((at? l i).bind λe206=>((U k (isub .i64 k195 i)).bind λr208=>(if aad (h.length+r208.length) 1 then(if aad ((h++r208).length+1) 1 then(some (.inl ((iadd .i64 n 1),k195,((h++r208)++([(icv .u8 e206)]:List Int)))))else none)else none))))else(some (.inr (n,h)))) :
  Wp (λk=>loopS (B k) k ((0:Int),(0:Int),([]:List Int))) (· = (((runs l).length:Int),(runs l).flatMap runE)):=by
 have hR:=ac0 hl
 have hN:=ach l
 refine .loop (λ(m:Nat) (v:Int×Int×List Int)=>∃ i:Nat,v.2.1=(i:Int)/\i+m=l.length/\0<=v.1/\v.1+((runs (l.drop i)).length:Int)=((runs l).length:Int)/\v.2.2++(runs (l.drop i)).flatMap runE=(runs l).flatMap runE) (λm v hv=>?_) (n:=l.length) ⟨0,rfl,by omega,by simp,by simp,by simp⟩
 obtain⟨n,i',h⟩:=v
 obtain⟨i,h1,h2,h0,h3,h4⟩:=hv
 dsimp only at h1 h3 h4 h0
 subst h1
 simp only[eB]
 refine .ite (λhi=>?_) (λhi=>.right ?_)
 ·have hi':i<l.length:=by omega
  refine .bind (amm hl hi' (λk v=>eA k i v)) (λr hr=>?_)
  obtain⟨q,rfl,g2,g3,g4⟩:=hr
  have er:runs (l.drop i)=(l[i],q+1)::runs (l.drop (i+(q+1))):=by rw[g2];exact ahD _ g3 q
  rw[er]at h3 h4
  simp only[List.length_cons,List.flatMap_cons]at h3 h4
  have hlen:=congrArg List.length h4
  simp only[List.length_append]at hlen
  have hr1:(runE (l[i],q+1)).length=(encU ((q+1:Nat):Int)).length+1:=by simp[runE]
  rw[at?_nat,List.getElem?_eq_getElem hi']
  simp only[Option.bind_some]
  rw[aap (by omega) (by omega),show((i:Int)+((q+1:Nat):Int))-(i:Int)=((q+1:Nat):Int)from by omega]
  refine .bind (hU _ (by omega) (by omega)) (λr hr=>?_)
  subst hr
  refine .pos (aae (by omega) (by omega)) (.pos (aae (by simp only[List.length_append];omega) (by simp only[List.length_append];omega)) (.left ⟨m-(q+1),by omega,i+(q+1),by dsimp only;omega,by omega,?_⟩))
  rw[aai (by omega) (by omega)]
  dsimp only
  refine⟨by omega,by omega,?_⟩
  rw[<-h4]
  simp only[runE,List.append_assoc]
 ·have:i=l.length:=by omega
  subst this
  rw[List.drop_length]at h3 h4
  simp only[runs,List.length_nil,List.flatMap_nil,List.append_nil]at h3 h4
  rw[<-h4,<-h3]
  simp
theorem ain{l:List Int}(hl:l.length<=256):Wp (λk=>aZ.f k l) (· = locE l):=by
 have hR:=ac0 hl
 have hN:=ach l
 refine .succ ?_
 simp only[aZ.f]
 refine .bind (ahf hl (U:=λk n=>ap.f k n) (λn h0 h1=>abu h0 (by omega)) (A:=λk=>aZ.b6 k l) (B:=λk=>aZ.b4 k l) (λk i v=>rfl) (λk n i h=>rfl)) (λr hr=>?_)
 subst hr
 dsimp only
 exact .bind (acH (by omega) (by omega) (by omega)) (λr hr=>.one hr)
theorem ah9{l:List Int}(hl:l.length<=256):Wp (λk=>bi.f k l) (· = locE l):=by
 have hR:=ac0 hl
 have hN:=ach l
 have l1:=aag (n:=((runs l).length:Int)) (by omega) (by omega)
 refine .succ ?_
 simp only[bi.f]
 refine .bind (ahf hl (U:=λk n=>ay.f k n) (λn h0 h1=>abj h0 (by omega)) (A:=λk=>bi.b6 k l) (B:=λk=>bi.b4 k l) (λk i v=>rfl) (λk n i h=>rfl)) (λr hr=>?_)
 subst hr
 dsimp only
 exact .bind (abj (by omega) (by omega)) (λr hr=>by subst hr;exact .pos (aae (by omega) (by omega)) (.one rfl))
def opT(t:Int):Int:=if t=126 then 66 else if t=124 then 68 else 65
def begE(t n:Int):List Int:=(opT t::conE (opT t) n)++[11]
theorem aci(t n:Int):(begE t n).length<=12:=by
 have:=abD (opT t) n
 simp only[begE,List.length_append,List.length_cons,List.length_nil];omega
theorem af9(t:Int):opT t=65∨opT t=66∨opT t=68:=by
 unfold opT
 split
 ·exact .inr (.inl rfl)
 split
 ·exact .inr (.inr rfl)
 ·exact .inl rfl
theorem amJ{t:Int}{β:Type}{P:β->Prop}:Wp (λ_=>if t=126 then(some (.inl (66:Int)):Option (Int⊕β))else(if t=124 then(some (.inl (68:Int)))else(some (.inl (65:Int))))) (aaJ (· = opT t) P):=
 .ite (λh=>.left (by rw[opT,if_pos h])) (λh=>.ite (λh2=>.left (by rw[opT,if_neg h,if_pos h2])) (λh2=>.left (by rw[opT,if_neg h,if_neg h2])))
theorem alq{op n:Int}(ho:op=65∨op=66∨op=68)(h0:0<=n)(h1:n<18446744073709551616)(h2:op=65->n<=4294967295):aeq [⟨op,0,0,n,[]⟩]/\codE [⟨op,0,0,n,[]⟩]=op::conE op n:=by
 have hk:kn op=true:=by rcases ho with rfl | rfl | rfl <;> decide +kernel
 have hcl:(cls op=2/\op=65)∨(cls op=3/\op≠65):=by
  rcases ho with rfl | rfl | rfl
  ·exact .inl ⟨by decide +kernel,rfl⟩
  ·exact .inr ⟨by decide +kernel,by decide⟩
  ·exact .inr ⟨by decide +kernel,by decide⟩
 refine⟨⟨by simp,λi hi=>?_⟩,?_⟩
 ·rw[List.mem_singleton.1 hi]
  refine⟨⟨hk,?_,?_,?_,?_,?_⟩,h0,h1⟩
  ·rcases hcl with⟨c,e⟩ | ⟨c,e⟩
   ·show okA _ (cls op)
    rw[c];exact h2 e
   ·show okA _ (cls op)
    rw[c];trivial
  ·exact λ_=>rfl
  ·exact λ_=>rfl
  ·intro hq
   rcases hcl with⟨c,e⟩ | ⟨c,e⟩ <;> (simp only[c]at hq;cases hq)
  ·exact λ_=>rfl
 ·have hb:behE ⟨op,0,0,n,[]⟩=conE op n:=by rcases hcl with⟨c,e⟩ | ⟨c,e⟩ <;> simp only[behE,c]
  simp only[codE,List.flatMap_cons,List.flatMap_nil,List.append_nil,insE,hb]
  rw[preE,if_neg (by omega),aef (by omega) (by omega)]
  rfl
theorem aeM{t n:Int}(h0:0<=n)(h1:n<18446744073709551616)(h2:opT t=65->n<=4294967295):Wp (λk=>cr.f k t n) (· = begE t n):=by
 refine .succ ?_
 simp only[cr.f]
 refine .seg amJ (λop hop=>?_)
 subst hop
 obtain⟨c1,c2⟩:=alq (af9 t) h0 h1 h2
 have l1:=abD (opT t) n
 refine .bind (aem c1) (λr hr=>?_)
 rw[c2]at hr
 subst hr
 exact .pos (aae (by simp only[List.length_cons];omega) (by simp only[List.length_cons];omega)) (.one rfl)
theorem afU{t n:Int}:Wp (λk=>dy.f k t n) (· = begE t n):=by
 refine .succ ?_
 simp only[dy.f]
 refine .seg amJ (λop hop=>?_)
 subst hop
 have l1:=abD (opT t) n
 refine .bind (akJ (af9 t)) (λr hr=>?_)
 subst hr
 exact .pos (aae (by simp only[List.length_cons];omega) (by simp only[List.length_cons];omega)) (.one rfl)
end Wr
end Go.R4
