import Derived.Test.YtganajogkdinaaaGreatGManC
import Derived.Test.YtganajogkdinaaaGreatGCopyM
set_option linter.all false
namespace Go.R4
open Go.Proofs Go.Ev
set_option maxRecDepth 100000
namespace Mn
theorem aeH{n:Int}(h0:-9223372036854775808<=n)(h1:n<=9223372036854775807):inR .i64 n:=⟨h0,h1⟩
theorem aoS{n:Int}(h0:0<=n)(h1:n<=255):inR .u8 n:=⟨h0,h1⟩
def uV(b:List Int)(a:Int)(fl:Bool):Int×Int×Bool:=
 if fl=true then(0,a,true)else if(!(Lb.readUV b a 32).2.2)=true then(0,a,true)else(icv .i64 (Lb.readUV b a 32).1,(Lb.readUV b a 32).2.1,fl)
theorem adI{b:List Int}(hb:Lb.By b)(hl:b.length<=1000000)(a:Int)(fl:Bool):Wp (λk=>ap.f k b a fl) (· = uV b a fl):=by
 refine .succ ?_
 simp only[ap.f]
 refine .bind (.at_ (P:=(· = Lb.readUV b a 32)) 30 (λk hk=>Lb.readU_ok hk hb (by omega)) rfl) (λr hr=>?_)
 subst hr
 unfold uV
 exact .ite (λh=>.one (by rw[if_pos h])) (λh=>.ite (λh2=>.one (by rw[if_neg h,if_pos h2])) (λh2=>.one (by rw[if_neg h,if_neg h2])))
def Mv(b:List Int)(a:Int)(fl:Bool)(a':Int)(fl':Bool):Prop:=0<=a/\a<=a'/\a'<=b.length/\(fl'=false->fl=false)
theorem Mv.self{b:List Int}{a:Int}(h0:0<=a)(h1:a<=b.length)(fl:Bool):Mv b a fl a fl:=⟨h0,by omega,h1,id⟩
theorem Mv.to{b:List Int}{a a1 a2:Int}{f f1 f2:Bool}(h:Mv b a f a1 f1)(g:Mv b a1 f1 a2 f2):Mv b a f a2 f2:=⟨h.1,by have:=h.2.1;have:=g.2.1;omega,g.2.2.1,λq=>h.2.2.2 (g.2.2.2 q)⟩
theorem ai9{b:List Int}{a:Int}(hb:Lb.By b)(h:(Lb.readUV b a 32).2.2=true):0<=(Lb.readUV b a 32).1/\(Lb.readUV b a 32).1<34359738368/\a<(Lb.readUV b a 32).2.1/\(Lb.readUV b a 32).2.1<=b.length:=by
 unfold Lb.readUV at h ⊢
 cases hr:Lb.rowOf b a 32 with
 | none=>rw[hr]at h;simp at h
 | some l=>
  rw[hr]at h
  simp only at h ⊢
  obtain⟨h1,h2,h3,h4,h5,h6,_,h8,h7,_⟩:=Lb.rowOf_spec hb hr
  split at h
  ·simp at h
  ·rename_i hn
   rw[if_neg hn]
   have hm:Lb.mostN 32=5:=by decide
   have v0:=Lb.valL_nonneg l
   have v1:=Lb.valL_lt l
   have v2:(128:Int) ^ l.length<=128 ^ 5:=by
    have:=Nat.pow_le_pow_right (n:=128) (by omega) (show l.length<=5 from by omega)
    exact_mod_cast this
   have v3:(128:Int) ^ 5=34359738368:=by decide
   rw[Lb.wrap_u64,Int.emod_eq_of_lt v0 (by omega)]
   exact⟨v0,by dsimp only;omega,by dsimp only;omega,h8⟩
theorem abz{b:List Int}{a:Int}{fl:Bool}(hb:Lb.By b)(h0:0<=a)(h1:a<=b.length):Mv b a fl (uV b a fl).2.1 (uV b a fl).2.2/\(0<=(uV b a fl).1/\(uV b a fl).1<34359738368)/\((uV b a fl).2.2=false->a<(uV b a fl).2.1):=by
 unfold uV
 split
 ·exact⟨⟨h0,by simp,h1,by simp⟩,by simp,by simp⟩
 ·rename_i hf
  split
  ·exact⟨⟨h0,by simp,h1,by simp⟩,by simp,by simp⟩
  ·rename_i hn
   have hn:(Lb.readUV b a 32).2.2=true:=by simpa using hn
   obtain⟨g1,g2,g3,g4⟩:=ai9 hb hn
   have e:icv .i64 (Lb.readUV b a 32).1=(Lb.readUV b a 32).1:=aep (aeH (by omega) (by omega))
   rw[e]
   exact⟨⟨h0,by dsimp only;omega,g4,id⟩,⟨g1,g2⟩,λ_=>g3⟩
theorem ano{n:Int}(h0:0<=n)(h1:n<34359738368):inR .i64 (isub .i64 n 1):=by
 rw[aas (by omega) (by omega)]
 exact aeH (by omega) (by omega)
def left(b:List Int)(a:Int)(fl:Bool):Nat:=if fl=true then 0 else(b.length-a).toNat+1
theorem ag0{b:List Int}{a a':Int}{fl':Bool}(h:fl'=false->a<a')(h1:a'<=b.length):left b a' fl'<left b a false:=by
 unfold left
 cases fl' with
 | true=>simp
 | false=>
  have:=h rfl
  simp
  omega
theorem afc{b:List Int}(hb:Lb.By b)(hl:b.length<=1000000){a:Int}{fl:Bool}(h0:0<=a)(h1:a<=b.length) :
  Wp (λk=>aw.f k b a fl) (λr=>Mv b a fl r.1 r.2.1/\r.2.2.length<=b.length+1/\∀ n∈r.2.2,inR .i64 n):=by
 refine .succ ?_
 simp only[aw.f]
 refine .bind (adI hb hl _ _) (λr hr=>?_)
 obtain⟨m1,v1,s1⟩:=abz (fl:=fl) hb h0 h1
 rw[<-hr]at m1 v1 s1
 obtain⟨u,a0,f0⟩:=r
 dsimp only at m1 v1 s1 ⊢
 have ha0:0<=a0:=by have:=m1.2.1;omega
 refine .bind (Q:=λr=>Mv b a0 f0 r.1 r.2.1/\r.2.2.length<=b.length+1/\∀ n∈r.2.2,inR .i64 n) ?_ (λr hr=>.one ⟨m1.to hr.1,hr.2⟩)
 refine .loop (λ(n:Nat) (v:Int×Int×Bool×List Int)=>n=left b v.2.1 v.2.2.1/\Mv b a0 f0 v.2.1 v.2.2.1/\(v.2.2.2.length:Int)<=v.2.1+(if v.2.2.1=true then 1 else 0)/\∀ n∈v.2.2.2,inR .i64 n)
  (λn v hv=>?_) (n:=left b a0 f0) ⟨rfl,Mv.self ha0 m1.2.2.1 _,by simp only[List.length_nil];split <;> omega,by simp⟩
 obtain⟨x,a1,f1,l⟩:=v
 obtain⟨g1,g2,g3,g4⟩:=hv
 dsimp only at g1 g2 g3 g4
 have hlen:l.length<=b.length+1:=by have:=g2.2.2.1;split at g3 <;> omega
 simp only[aw.b3]
 refine .ite (λhx=>.ite (λhf=>?_) (λhf=>.right ⟨g2,hlen,g4⟩)) (λhx=>.right ⟨g2,hlen,g4⟩)
 have hf:f1=false:=by simpa using hf
 subst hf
 refine .bind (adI hb hl _ _) (λr hr=>?_)
 obtain⟨m2,v2,s2⟩:=abz (fl:=false) hb (show 0<=a1 by have:=g2.1;have:=g2.2.1;omega) g2.2.2.1
 rw[<-hr]at m2 v2 s2
 obtain⟨u2,a2,f2⟩:=r
 dsimp only at m2 v2 s2 ⊢
 refine .pos (aab (by omega) (by omega)) (.left ⟨left b a2 f2,?_,rfl,g2.to m2,?_,?_⟩)
 ·rw[g1];exact ag0 s2 m2.2.2.1
 ·dsimp only
  rw[List.length_append]
  simp only[Bool.false_eq_true,if_false]at g3
  have:=m2.2.1
  cases f2 with
  | true=>simp;omega
  | false=>have:=s2 rfl;simp;omega
 ·intro n hn
  rcases List.mem_append.1 hn with hn | hn
  ·exact g4 n hn
  ·have:=List.mem_singleton.1 hn
   subst this
   exact ano v2.1 v2.2
theorem ahc{b:List Int}(hl:b.length<=1000000){n a:Int}{fl:Bool}(hn0:0<=n)(hn1:n<34359738368)(h0:0<=a)(h1:a<=b.length) :
  Wp (λk=>aW.f k n b a fl) (λr=>Mv b a fl r.2.1 r.2.2/\r.1.length<=b.length/\(fl=false->n+a<=b.length->r=((b.drop a.toNat).take n.toNat,a+n,false))):=by
 refine .succ ?_
 simp only[aW.f]
 refine .ite (λhf=>.one ⟨⟨h0,by simp,h1,by simp⟩,by simp,λq=>by rw[q]at hf;cases hf⟩) (λhf=>?_)
 rw[aas (by omega) (by omega)]
 refine .ite (λhg=>.one ⟨⟨h0,by simp,h1,by simp⟩,by simp,λ_ q=>by omega⟩) (λhg=>?_)
 rw[aah (by omega) (by omega),aas (by omega) (by omega)]
 have e:a+n-n=a:=by omega
 rw[e]
 refine .pos ⟨by omega,by omega,by omega⟩ ?_
 have hd:(List.drop a.toNat (List.take (a+n).toNat b)).length<=b.length:=by simp only[List.length_drop,List.length_take];omega
 refine .bind (abr (aab (by omega) (by omega))) (λ_ _=>.one ⟨⟨h0,by dsimp only;omega,by dsimp only;omega,id⟩,hd,λq _=>?_⟩)
 subst q
 rw[List.take_drop,show a.toNat+n.toNat=(a+n).toNat from by omega]
theorem akJ{l:List Int}(hl:l.length<=1000000){B:Nat->(Int×List Int)->Option ((Int×List Int)⊕List Int)}
  (hB:∀ (i:Nat) e,l[i]?=some e->∀ h:List Int,h.length<=l.length->Wp (λk=>B k ((i:Int),h)) (· = .inl (iadd .i64 (i:Int) 1,h++[icv .i64 e])))
  (hend:∀ h,Wp (λk=>B k ((l.length:Int),h)) (· = .inr h)):Wp (λk=>loopS (B k) k ((0:Int),([]:List Int))) (· = l.map (icv .i64 ·)):=by
 have fl:∀ m:List Int,m.flatMap (λx=>[icv .i64 x])=m.map (icv .i64 ·):=λm=>by induction m with
  | nil=>rfl
  | cons x m ih=>simp[ih]
 refine(aa6 (g:=λx=>[icv .i64 x]) (h0:=[]) (by omega) (λi e hi he hm=>?_) hend).mono λr hr=>?_
 ·exact hB i e he _ (by simp only[List.nil_append,fl,List.length_map,List.length_take];omega)
 ·rw[hr,List.nil_append,fl]
theorem aeW{b:List Int}(hb:Lb.By b)(hl:b.length<=1000000){a:Int}{fl:Bool}(h0:0<=a)(h1:a<=b.length) :
  Wp (λk=>aB.f k b a fl) (λr=>Mv b a fl r.1 r.2.1/\r.2.2.length<=b.length/\(r.2.1=false->a<r.1) ∧
   ∀ l:List Int,∀ n:Nat,fl=false->uV b a false=((l.length:Int),(n:Int),false)->(b.drop n).take l.length=l->n+l.length<=b.length->(∀ x∈l,x=127∨x=126∨x=124)->r=(((n+l.length:Nat):Int),false,l)):=by
 refine .succ ?_
 simp only[aB.f]
 refine .bind (adI hb hl _ _) (λr hr=>?_)
 obtain⟨m1,v1,s1⟩:=abz (fl:=fl) hb h0 h1
 rw[<-hr]at m1 v1 s1
 obtain⟨u,a0,f0⟩:=r
 dsimp only at m1 v1 s1 ⊢
 have ha0:0<=a0:=by have:=m1.2.1;omega
 refine .bind (ahc hl (b:=b) v1.1 v1.2 ha0 m1.2.2.1) (λr2 hr2=>?_)
 obtain⟨m2,w2,x2⟩:=hr2
 obtain⟨rw2,a2,f2⟩:=r2
 dsimp only at m2 w2 ⊢
 refine .bind (Q:=λq=>q=rw2.map (icv .i64 ·)) ?_ (λq hq=>.one ⟨m1.to m2,?_,?_,?_⟩)
 ·refine(akJ (l:=rw2) (by omega) (λi e he h hh=>?_) (λh=>?_))
  ·simp only[aB.b3]
   exact .pos (by have:=(List.getElem?_eq_some_iff.1 he).1;omega) (aal he (.pos (aab (by omega) (by omega)) (.one rfl)))
  ·simp only[aB.b3]
   exact .neg (by omega) (.one rfl)
 ·subst hq;dsimp only;rw[List.length_map];exact w2
 ·intro h
  dsimp only at h ⊢
  have h3:=m2.2.2.2 h
  have h4:=m2.2.1
  have:=s1 h3
  omega
 ·intro l n hf hu hd hle hk
  subst hf
  rw[hu]at hr
  obtain⟨rfl,rfl,rfl⟩:u=(l.length:Int)/\a0=(n:Int)/\f0=false:=by simpa using hr
  have:=x2 rfl (by omega)
  rw[Int.toNat_natCast,Int.toNat_natCast,hd]at this
  obtain⟨rfl,rfl,rfl⟩:rw2=l/\a2=(n:Int)+(l.length:Int)/\f2=false:=by simpa using this
  subst hq
  have e:rw2.map (icv .i64 ·)=rw2:=(List.map_congr_left (g:=id) λx hx=>by rcases hk x hx with rfl | rfl | rfl <;> decide +kernel).trans (List.map_id _)
  rw[e]
  rfl
theorem agd{b:List Int}(hb:Lb.By b)(hl:b.length<=1000000){a:Int}{fl:Bool}(h0:0<=a)(h1:a<=b.length) :
  Wp (λk=>ax.f k b a fl) (λr=>Mv b a fl r.1 r.2.1/\r.2.2.length<=b.length+1):=by
 refine .succ ?_
 simp only[ax.f]
 refine .bind (adI hb hl _ _) (λr hr=>?_)
 obtain⟨m1,v1,s1⟩:=abz (fl:=fl) hb h0 h1
 rw[<-hr]at m1 v1 s1
 obtain⟨u,a0,f0⟩:=r
 dsimp only at m1 v1 s1 ⊢
 have ha0:0<=a0:=by have:=m1.2.1;omega
 refine .bind (Q:=λr=>Mv b a0 f0 r.1 r.2.1/\r.2.2.length<=b.length+1) ?_ (λr hr=>.one ⟨m1.to hr.1,hr.2⟩)
 refine .loop (λ(n:Nat) (v:Int×Int×Bool×List aa)=>n=left b v.2.1 v.2.2.1/\Mv b a0 f0 v.2.1 v.2.2.1/\(v.2.2.2.length:Int)<=v.2.1+(if v.2.2.1=true then 1 else 0))
  (λn v hv=>?_) (n:=left b a0 f0) ⟨rfl,Mv.self ha0 m1.2.2.1 _,by simp only[List.length_nil];split <;> omega⟩
 obtain⟨x,a1,f1,l⟩:=v
 obtain⟨g1,g2,g3⟩:=hv
 dsimp only at g1 g2 g3
 have hlen:l.length<=b.length+1:=by have:=g2.2.2.1;split at g3 <;> omega
 simp only[ax.b3]
 refine .ite (λhx=>.ite (λhf=>?_) (λhf=>.right ⟨g2,hlen⟩)) (λhx=>.right ⟨g2,hlen⟩)
 have hf:f1=false:=by simpa using hf
 subst hf
 have ha1:0<=a1:=by have:=g2.1;have:=g2.2.1;omega
 obtain⟨m2,v2,s2⟩:=abz (fl:=false) hb ha1 g2.2.2.1
 refine .bind (adI hb hl _ _) (λr hr=>?_)
 rw[<-hr]at m2 v2 s2
 obtain⟨u2,a2,f2⟩:=r
 dsimp only at m2 v2 s2 ⊢
 refine .bind (ahc hl v2.1 v2.2 (by have:=m2.2.1;omega) m2.2.2.1) (λr3 hr3=>?_)
 obtain⟨m3,w3,_⟩:=hr3
 obtain⟨l3,a3,f3⟩:=r3
 dsimp only at m3 w3 ⊢
 have ha3:0<=a3:=by have:=m2.2.1;have:=m3.2.1;omega
 obtain⟨m4,v4,s4⟩:=abz (fl:=f3) hb ha3 m3.2.2.1
 refine .bind (adI hb hl _ _) (λr4 hr4=>?_)
 rw[<-hr4]at m4 v4 s4
 obtain⟨u4,a4,f4⟩:=r4
 dsimp only at m4 v4 s4 ⊢
 obtain⟨m5,v5,s5⟩:=abz (fl:=f4) hb (a:=a4) (by have:=m4.2.1;omega) m4.2.2.1
 refine .bind (adI hb hl _ _) (λr5 hr5=>?_)
 rw[<-hr5]at m5 v5 s5
 obtain⟨u5,a5,f5⟩:=r5
 dsimp only at m5 v5 s5 ⊢
 have mm:=m2.to (m3.to (m4.to m5))
 have ss:f5=false->a1<a5:=λh=>by
  have:=s2 (m3.2.2.2 (m4.2.2.2 (m5.2.2.2 h)))
  have:=m3.2.1
  have:=m4.2.1
  have:=m5.2.1
  omega
 refine .pos (aab (by omega) (by omega)) (.left ⟨left b a5 f5,?_,rfl,g2.to mm,?_⟩)
 ·rw[g1];exact ag0 ss mm.2.2.1
 ·dsimp only
  rw[List.length_append]
  simp only[Bool.false_eq_true,if_false]at g3
  have:=mm.2.1
  cases f5 with
  | true=>simp;omega
  | false=>have:=ss rfl;simp;omega
end Mn
end Go.R4
namespace Go.R4
open Go.Proofs Go.Ev
set_option maxRecDepth 100000
namespace Mn
theorem amJ{pre r:List Int}{n:Int}(h0:0<=n)(hn:n<4294967296):uV (pre++(Lb.encU n++r)) (pre.length:Int) false=(n,((pre++Lb.encU n).length:Int),false):=by
 unfold uV
 rw[Lb.readU_enc h0 hn]
 have e:icv .i64 n=n:=aep (aeH (by omega) (by omega))
 simp[e]
theorem aey{b pre r:List Int}{n:Int}(hb:Lb.By b)(hl:b.length<=1000000)(h0:0<=n)(hn:n<4294967296)(e:b=pre++(Lb.encU n++r)) :
  Wp (λk=>ap.f k b (pre.length:Int) false) (· = (n,((pre++Lb.encU n).length:Int),false)):=
 (adI hb hl _ _).mono λq hq=>by rw[hq,e];exact amJ h0 hn
theorem aei{α:Type}{l:List α}{g:α->List Int}{b pre post:List Int}{B:Nat->(Int×Int×Bool×List α)->Option ((Int×Int×Bool×List α)⊕(Int×Bool×List α))}(hl:l.length<=1000)
  (hB:∀ e∈l,∀ (m:Int) (acc:List α) (p q:List Int),b=p++(g e++q)->acc.length<=1000->0<m->Wp (λk=>B k (m,(p.length:Int),false,acc)) (· = .inl (isub .i64 m 1,((p++g e).length:Int),false,acc++[e])))
  (hend:∀ a acc,Wp (λk=>B k (0,a,false,acc)) (· = .inr (a,false,acc))) (e:b=pre++(l.flatMap g++post)) :
  Wp (λk=>loopS (B k) k ((l.length:Int),(pre.length:Int),false,([]:List α))) (· = (((pre++l.flatMap g).length:Int),false,l)):=by
 refine .loop (λ(n:Nat) (v:Int×Int×Bool×List α)=>∃ i:Nat,i+n=l.length/\v=((n:Int),((pre++(l.take i).flatMap g).length:Int),false,l.take i)) (λn v hv=>?_) (n:=l.length) ⟨0,by omega,by simp⟩
 obtain⟨i,h1,rfl⟩:=hv
 cases n with
 | zero=>
  have:i=l.length:=by omega
  subst this
  refine(hend _ _).mono λa ha=>?_
  subst ha
  simp[aaR]
 | succ n=>
  have hi:i<l.length:=by omega
  have hs:=List.take_succ_eq_append_getElem hi
  have hd:l.drop i=l[i]::l.drop (i+1):=List.drop_eq_getElem_cons hi
  refine(hB l[i] (List.getElem_mem hi) ((n+1:Nat):Int) (l.take i) (pre++(l.take i).flatMap g) ((l.drop (i+1)).flatMap g++post) ?_ (by rw[List.length_take];omega) (by omega)).mono λa ha=>?_
  ·have hfl:l.flatMap g=(l.take i).flatMap g++(g l[i]++(l.drop (i+1)).flatMap g):=by
    have:=congrArg (·.flatMap g) (List.take_append_drop i l).symm
    simp only[hd,List.flatMap_append,List.flatMap_cons]at this
    exact this
   rw[e,hfl]
   simp only[List.append_assoc]
  ·subst ha
   refine⟨n,by omega,i+1,by omega,?_⟩
   rw[aas (by omega) (by omega),hs]
   simp only[List.flatMap_append,List.flatMap_cons,List.flatMap_nil,List.append_nil,List.append_assoc]
   congr 1
   omega
theorem aib{b pre post l:List Int}(hb:Lb.By b)(hbl:b.length<=1000000)(hl:l.length<=1000)(h:Num l)(e:b=pre++(rowE l++post)) :
  Wp (λk=>aw.f k b (pre.length:Int) false) (· = (((pre++rowE l).length:Int),false,l)):=by
 refine .succ ?_
 simp only[aw.f]
 have e1:b=pre++(Lb.encU l.length++((l.flatMap λn=>Lb.encU (n+1))++post)):=by rw[e,rowE,List.append_assoc]
 refine .bind (aey hb hbl (by omega) (by omega) e1) (λr hr=>?_)
 subst hr
 dsimp only
 refine .bind (aei (g:=λn=>Lb.encU (n+1)) (post:=post) (b:=b) hl (λx hx m acc p q hq ha hm=>?_) (λa acc=>?_) (by rw[e1];simp only[List.append_assoc])) (λr hr=>.one ?_)
 ·simp only[aw.b3]
  have:=h x hx
  refine .pos (by omega) (.pos (by simp) (.bind (aey hb hbl (by omega) (by omega) hq) (λr hr=>?_)))
  subst hr
  have e2:isub .i64 (x+1) 1=x:=by rw[aas (by omega) (by omega)];omega
  refine .pos (aab (by omega) (by omega)) (.one ?_)
  dsimp only
  rw[e2]
 ·simp only[aw.b3]
  exact .neg (by omega) (.one rfl)
 ·rw[hr,rowE]
  simp only[List.append_assoc]
theorem ajv{b pre post l:List Int}(hb:Lb.By b)(hbl:b.length<=1000000)(hl:l.length<=8)(hk:∀ x∈l,ade x)(e:b=pre++(valE l++post)) :
  Wp (λk=>aB.f k b (pre.length:Int) false) (· = (((pre++valE l).length:Int),false,l)):=by
 have hm:∀ m:List Int,(∀ x∈m,ade x)->(m.flatMap λt=>[icv .u8 t])=m:=λm hm=>by
  induction m with
  | nil=>rfl
  | cons x m ih=>
   have hx:icv .u8 x=x:=by rcases hm x (List.mem_cons_self ..)with rfl | rfl | rfl <;> decide +kernel
   rw[List.flatMap_cons,ih λy hy=>hm y (List.mem_cons_of_mem _ hy),hx];rfl
 have e1:b=pre++(Lb.encU l.length++(l++post)):=by rw[e,valE,hm l hk,List.append_assoc]
 have hbl':pre.length+(Lb.encU (l.length:Int)).length+l.length<=b.length:=by rw[e1];simp only[List.length_append];omega
 refine(aeW hb hbl (by omega) (by omega)).mono λr hr=>?_
 rw[hr.2.2.2 l (pre++Lb.encU (l.length:Int)).length rfl (by rw[e1];exact amJ (by omega) (by omega)) (by rw[e1,<-List.append_assoc,List.drop_left,List.take_left]) (by rw[List.length_append];omega) hk]
 rw[valE,hm l hk]
 simp only[List.length_append]
 congr 1
 omega
theorem strOf_strL(s:ByteArray):strOf (strL s)=s:=by
 apply ByteArray.ext
 have e:u8s (strL s)=s.data.toList:=by
  simp only[u8s,strL,List.map_map]
  refine(List.map_congr_left (g:=id) λx _=>?_).trans (List.map_id _)
  simp
 simp only[strOf,e]
theorem ahs{b pre post:List Int}{l:List aa}(hb:Lb.By b)(hbl:b.length<=1000000)(hl:l.length<=1000)(h:∀ x∈l,ExF x)(e:b=pre++(shE l++post)) :
  Wp (λk=>ax.f k b (pre.length:Int) false) (· = (((pre++shE l).length:Int),false,l)):=by
 refine .succ ?_
 simp only[ax.f]
 have e1:b=pre++(Lb.encU l.length++(l.flatMap expE++post)):=by rw[e,shE,List.append_assoc]
 refine .bind (aey hb hbl (by omega) (by omega) e1) (λr hr=>?_)
 subst hr
 dsimp only
 refine .bind (aei (g:=expE) (post:=post) (b:=b) hl (λx hx m acc p q hq ha hm=>?_) (λa acc=>?_) (by rw[e1];simp only[List.append_assoc])) (λr hr=>.one ?_)
 ·simp only[ax.b3]
  obtain⟨x1,x2,x3⟩:=h x hx
  have q1:b=p++(Lb.encU x.Name.size++(strL x.Name++(Lb.encU x.Kind++(Lb.encU x.Index++q)))):=by rw[hq,expE];simp only[List.append_assoc]
  have hlen:p.length+(Lb.encU (x.Name.size:Int)).length+x.Name.size<=b.length:=by rw[q1];simp only[List.length_append,acj];omega
  refine .pos (by omega) (.pos (by simp) (.bind (aey hb hbl (by omega) (by omega) q1) (λr hr=>?_)))
  subst hr
  dsimp only
  refine .bind (ahc hbl (by omega) (by omega) (by omega) (by rw[List.length_append];omega)) (λr hr=>?_)
  have hr:=hr.2.2 rfl (by rw[List.length_append];omega)
  subst hr
  dsimp only
  have e3:(List.drop (((p++Lb.encU (x.Name.size:Int)).length:Int)).toNat b).take ((x.Name.size:Int)).toNat=strL x.Name:=by
   rw[Int.toNat_natCast,Int.toNat_natCast,q1,<-List.append_assoc,List.drop_left]
   exact List.take_left' (acj _)
  have e4:(((p++Lb.encU (x.Name.size:Int)).length:Int)+(x.Name.size:Int))=(((p++Lb.encU (x.Name.size:Int)++strL x.Name).length:Nat):Int):=by simp only[List.length_append,acj];omega
  rw[e3,e4]
  refine .bind (aey (n:=x.Kind) (r:=Lb.encU x.Index++q) hb hbl (by omega) (by omega) (by rw[q1];simp only[List.append_assoc])) (λr hr=>?_)
  subst hr
  dsimp only
  refine .bind (aey (n:=x.Index) (r:=q) hb hbl (by omega) (by omega) (by rw[q1];simp only[List.append_assoc])) (λr hr=>?_)
  subst hr
  dsimp only
  refine .pos (aab (by omega) (by omega)) (.one ?_)
  rw[strOf_strL,expE]
  simp only[List.append_assoc]
 ·simp only[ax.b3]
  exact .neg (by omega) (.one rfl)
 ·rw[hr,shE]
  simp only[List.append_assoc]
end Mn
end Go.R4
namespace Go.R4
open Go.Proofs Go.Ev
set_option maxRecDepth 100000
namespace Mn
abbrev noPlan:ah:=⟨⟨[],[],[],[],[],[],[],[]⟩,⟨[]⟩,⟨[],[],0,[]⟩,[],[],[],0,0,0⟩
theorem abE{n:Int}(h0:0<=n)(h1:n<9223372036854775808):Lb.By (Lb.encU n):=(Lb.encU_by h0 (by omega)).1
theorem By.flat{α:Type}{l:List α}{g:α->List Int}(h:∀ x∈l,Lb.By (g x)):Lb.By (l.flatMap g):=λy hy=>by
 obtain⟨x,hx,hg⟩:=List.mem_flatMap.1 hy
 exact h x hx y hg
theorem afg{l:List Int}(hl:l.length<=1000)(h:Num l):Lb.By (rowE l):=(abE (by omega) (by omega)).app (By.flat λx hx=>abE (by have:=h x hx;omega) (by have:=h x hx;omega))
theorem ajD(n:Int):IntKind.u8.wrap n=n % 256:=by
 simp only[IntKind.wrap,IntKind.signed,IntKind.bits]
 simp
theorem akU(t:Int):inR .u8 (IntKind.u8.wrap t):=by
 rw[ajD];exact aoS (by omega) (by omega)
theorem ao7(t:Int):inR .u8 (icv .u8 t):=akU t
theorem akd{l:List Int}(hl:l.length<=1000):Lb.By (valE l):=(abE (by omega) (by omega)).app (By.flat λx _=>λy hy=>by rw[List.mem_singleton.1 hy];exact ao7 x)
theorem alI(s:ByteArray):Lb.By (strL s):=λx hx=>by
 simp only[strL,List.mem_map]at hx
 obtain⟨b,_,rfl⟩:=hx
 have:=b.toNat_lt
 exact aoS (by omega) (by omega)
theorem anL{x:aa}(h:ExF x):Lb.By (expE x):=by
 obtain⟨h1,h2,h3⟩:=h
 exact(((abE (by omega) (by omega)).app (alI _)).app (abE (by omega) (by omega))).app (abE (by omega) (by omega))
theorem amw{l:List aa}(hl:l.length<=1000)(h:∀ x∈l,ExF x):Lb.By (shE l):=(abE (by omega) (by omega)).app (By.flat λx hx=>anL (h x hx))
theorem ahE{p:ah}(q:RPl p):Lb.By (planE p):=by
 obtain⟨m,s,⟨l1,l2,l3⟩,n1,n2,n3,n4,t,ts,e,h,x,r⟩:=q
 obtain⟨e1,e2⟩:=exF e
 obtain⟨h1,h2⟩:=exF h
 exact(afg (by omega) n1).app ((afg (by omega) n2).app ((afg (by omega) n3).app ((afg (by omega) n4).app ((abE (by omega) (by omega)).app ((abE (by omega) (by omega)).app ((abE (by omega) (by omega)).app
  ((abE (by omega) (by omega)).app ((By.flat λt ht=>(akd (by have:=(ts t ht).1.1;omega)).app (akd (by have:=(ts t ht).2.1;omega))).app ((amw (by omega) e2).app (amw (by omega) h2))))))))))
def Got(m:ak)(b:List Int)(r:ah×Int):Prop:=(r.2=0/\RPl r.1/\r.1.Module=m/\aaD (strOf (planE r.1)) (strOf b)=true)∨r=(noPlan,12)
theorem ajg{b:List Int}(hb:Lb.By b)(hl:b.length<=1000000){n a:Int}{fl:Bool}(h0:0<=a)(h1:a<=b.length) :
  Wp (λk=>loopS (aI.b6 k b) k (n,a,fl,([]:List ab))) (λr=>Mv b a fl r.1 r.2.1/\r.2.2.length<=b.length+1/\∀ t∈r.2.2,FitT t):=by
 refine .loop (λ(m:Nat) (v:Int×Int×Bool×List ab)=>m=left b v.2.1 v.2.2.1/\Mv b a fl v.2.1 v.2.2.1/\(v.2.2.2.length:Int)<=v.2.1+(if v.2.2.1=true then 1 else 0)/\∀ t∈v.2.2.2,FitT t)
  (λm v hv=>?_) (n:=left b a fl) ⟨rfl,Mv.self h0 h1 _,by simp only[List.length_nil];split <;> omega,by simp⟩
 obtain⟨x,a1,f1,l⟩:=v
 obtain⟨g1,g2,g3,g4⟩:=hv
 dsimp only at g1 g2 g3 g4
 have hlen:l.length<=b.length+1:=by have:=g2.2.2.1;split at g3 <;> omega
 simp only[aI.b6]
 refine .ite (λhx=>.ite (λhf=>?_) (λhf=>.right ⟨g2,hlen,g4⟩)) (λhx=>.right ⟨g2,hlen,g4⟩)
 have hf:f1=false:=by simpa using hf
 subst hf
 have ha1:0<=a1:=by have:=g2.1;have:=g2.2.1;omega
 refine .bind (aeW hb hl ha1 g2.2.2.1) (λr1 hr1=>?_)
 obtain⟨m2,w2,s2,_⟩:=hr1
 obtain⟨a2,f2,l2⟩:=r1
 dsimp only at m2 w2 s2 ⊢
 refine .bind (aeW hb hl (by have:=m2.2.1;omega) m2.2.2.1) (λr2 hr2=>?_)
 obtain⟨m3,w3,s3,_⟩:=hr2
 obtain⟨a3,f3,l3⟩:=r2
 dsimp only at m3 w3 s3 ⊢
 have mm:=m2.to m3
 have ss:f3=false->a1<a3:=λh=>by have:=s3 h;have:=m2.2.1;omega
 refine .pos (aab (by omega) (by omega)) (.left ⟨left b a3 f3,?_,rfl,g2.to mm,?_,?_⟩)
 ·rw[g1];exact ag0 ss mm.2.2.1
 ·dsimp only
  rw[List.length_append]
  simp only[Bool.false_eq_true,if_false]at g3
  have:=mm.2.1
  cases f3 with
  | true=>simp;omega
  | false=>have:=ss rfl;simp;omega
 ·intro t ht
  rcases List.mem_append.1 ht with ht | ht
  ·exact g4 t ht
  ·have:=List.mem_singleton.1 ht
   subst this
   exact⟨by dsimp only;omega,by dsimp only;omega⟩
theorem al5{m:ak}{b:List Int}(hm:Siz m)(hb:Lb.By b)(hl:b.length<=1000000):Wp (λk=>aI.f k m b) (Got m b):=by
 refine .succ ?_
 simp only[aI.f]
 refine .bind (ajb hm) (λr hr=>?_)
 subst hr
 dsimp only
 refine .bind (afc hb hl (fl:=false) (show(0:Int)<=0 by omega) (by omega)) (λr hr=>?_)
 obtain⟨m1,w1,i1⟩:=hr
 obtain⟨a1,f1,l1⟩:=r
 dsimp only at m1 w1 i1 ⊢
 have p1:0<=a1:=by have:=m1.2.1;omega
 refine .bind (afc hb hl p1 m1.2.2.1) (λr hr=>?_)
 obtain⟨m2,w2,i2⟩:=hr
 obtain⟨a2,f2,l2⟩:=r
 dsimp only at m2 w2 i2 ⊢
 have p2:0<=a2:=by have:=m2.2.1;omega
 refine .bind (afc hb hl p2 m2.2.2.1) (λr hr=>?_)
 obtain⟨m3,w3,i3⟩:=hr
 obtain⟨a3,f3,l3⟩:=r
 dsimp only at m3 w3 i3 ⊢
 have p3:0<=a3:=by have:=m3.2.1;omega
 refine .bind (afc hb hl p3 m3.2.2.1) (λr hr=>?_)
 obtain⟨m4,w4,i4⟩:=hr
 obtain⟨a4,f4,l4⟩:=r
 dsimp only at m4 w4 i4 ⊢
 have p4:0<=a4:=by have:=m4.2.1;omega
 obtain⟨m5,v5,_⟩:=abz (fl:=f4) hb p4 m4.2.2.1
 refine .bind (adI hb hl _ _) (λr hr=>?_)
 rw[<-hr]at m5 v5
 obtain⟨u5,a5,f5⟩:=r
 dsimp only at m5 v5 ⊢
 have p5:0<=a5:=by have:=m5.2.1;omega
 obtain⟨m6,v6,_⟩:=abz (fl:=f5) hb p5 m5.2.2.1
 refine .bind (adI hb hl _ _) (λr hr=>?_)
 rw[<-hr]at m6 v6
 obtain⟨u6,a6,f6⟩:=r
 dsimp only at m6 v6 ⊢
 have p6:0<=a6:=by have:=m6.2.1;omega
 obtain⟨m7,v7,_⟩:=abz (fl:=f6) hb p6 m6.2.2.1
 refine .bind (adI hb hl _ _) (λr hr=>?_)
 rw[<-hr]at m7 v7
 obtain⟨u7,a7,f7⟩:=r
 dsimp only at m7 v7 ⊢
 have p7:0<=a7:=by have:=m7.2.1;omega
 obtain⟨m8,v8,_⟩:=abz (fl:=f7) hb p7 m7.2.2.1
 refine .bind (adI hb hl _ _) (λr hr=>?_)
 rw[<-hr]at m8 v8
 obtain⟨u8,a8,f8⟩:=r
 dsimp only at m8 v8 ⊢
 have p8:0<=a8:=by have:=m8.2.1;omega
 refine .bind (ajg hb hl p8 m8.2.2.1) (λr hr=>?_)
 obtain⟨m9,w9,i9⟩:=hr
 obtain⟨a9,f9,l9⟩:=r
 dsimp only at m9 w9 i9 ⊢
 have p9:0<=a9:=by have:=m9.2.1;omega
 refine .bind (agd hb hl p9 m9.2.2.1) (λr hr=>?_)
 obtain⟨m10,w10⟩:=hr
 obtain⟨a10,f10,l10⟩:=r
 dsimp only at m10 w10 ⊢
 have p10:0<=a10:=by have:=m10.2.1;omega
 refine .bind (agd hb hl p10 m10.2.2.1) (λr hr=>?_)
 obtain⟨m11,w11⟩:=hr
 obtain⟨a11,f11,l11⟩:=r
 dsimp only at m11 w11 ⊢
 have p11:0<=a11:=by have:=m11.2.1;omega
 refine .bind (acY ⟨anB hm,by dsimp only;omega,by dsimp only;omega,by dsimp only;omega,by dsimp only;omega,by dsimp only;omega,i9,by dsimp only;omega,by dsimp only;omega⟩ ⟨i1,i2,i3,i4⟩) (λr12 hr12=>?_)
 refine .ite (λ_=>.one (.inr rfl)) (λ_=>?_)
 rcases hr12 with⟨hR,rfl⟩ | ⟨hR,rfl⟩
 ·refine .pos rfl ?_
  refine .bind (Q:=λq=>q=aaD (strOf (planE _)) (strOf b)) (.succ (by simp only[dB.f];exact .one rfl)) (λq hq=>?_)
  refine .ite (λ_=>.one (.inr rfl)) (λhne=>.one (.inl ⟨rfl,hR,rfl,?_⟩))
  rw[<-hq]
  simpa using hne
 ·exact .neg (by decide) (.one (.inr rfl))
theorem aiT{p:ah}(hm:Fit p.Module)(q:RPl p):FitP p:=by
 have:=q.s
 have:=q.l
 have:=q.t
 have:=(exF q.e).1
 have:=(exF q.h).1
 exact⟨hm,by omega,by omega,by omega,by omega,by omega,λt ht=>⟨by have:=(q.ts t ht).1.1;omega,by have:=(q.ts t ht).2.1;omega⟩,by omega,by omega⟩
theorem ahA{l:List Int}(h:Num l):∀ n∈l,inR .i64 n:=λn hn=>by
 have:=h n hn
 exact aeH (by omega) (by omega)
def planR(p:ah)(post:List Int):List Int:=rowE p.Slots.Globals++(rowE p.Layout.Base++(rowE p.Layout.Size++(rowE p.Layout.Grow++(Lb.encU p.Extra++(Lb.encU p.Mems++(Lb.encU p.Globals ++
 (Lb.encU p.Types.length++(p.Types.flatMap typE++(shE p.Names++(shE p.Hidden++post))))))))))
theorem planR_eq(p:ah)(post:List Int):planR p post=planE p++post:=by simp only[planR,planE,List.append_assoc]
theorem strOf_size(l:List Int):(strOf l).size=l.length:=by
 simp only[strOf,u8s,ByteArray.size,List.size_toArray,List.length_map]
theorem aj0{p:ah}{b post:List Int}(hm:Fit p.Module)(q:RPl p)(hbb:b=planR p post)(hb:Lb.By b)(hl:b.length<=1000000) :
  Wp (λk=>aI.f k p.Module b) (λr=>(post=[]->r=(p,0))/\(post≠[]->r=(noPlan,12))):=by
 have hf:=aiT hm q
 have hs:Siz p.Module:=ajW hm q.m.1 q.m.2
 have hq:=q
 obtain⟨m,s,⟨l1,l2,l3⟩,n1,n2,n3,n4,t,ts,e,h,x,r⟩:=q
 obtain⟨e1,e2⟩:=exF e
 obtain⟨h1,h2⟩:=exF h
 have E1:b=[]++(rowE p.Slots.Globals++_):=hbb
 have E2:=E1.trans (List.append_assoc _ _ _).symm
 have E3:=E2.trans (List.append_assoc _ _ _).symm
 have E4:=E3.trans (List.append_assoc _ _ _).symm
 have E5:=E4.trans (List.append_assoc _ _ _).symm
 have E6:=E5.trans (List.append_assoc _ _ _).symm
 have E7:=E6.trans (List.append_assoc _ _ _).symm
 have E8:=E7.trans (List.append_assoc _ _ _).symm
 have E9:=E8.trans (List.append_assoc _ _ _).symm
 have E10:=E9.trans (List.append_assoc _ _ _).symm
 have E11:=E10.trans (List.append_assoc _ _ _).symm
 refine .succ ?_
 simp only[aI.f]
 refine .bind (ajb hs) (λr hr=>?_)
 subst hr
 dsimp only
 refine .bind (aib (pre:=[]) hb hl (by omega) n1 E1) (λr1 hr1=>?_)
 subst hr1
 refine .bind (aib hb hl (by omega) n2 E2) (λr2 hr2=>?_)
 subst hr2
 refine .bind (aib hb hl (by omega) n3 E3) (λr3 hr3=>?_)
 subst hr3
 refine .bind (aib hb hl (by omega) n4 E4) (λr4 hr4=>?_)
 subst hr4
 refine .bind (aey (n:=p.Extra) hb hl (by omega) (by omega) E5) (λr5 hr5=>?_)
 subst hr5
 refine .bind (aey (n:=p.Mems) hb hl (by omega) (by omega) E6) (λr6 hr6=>?_)
 subst hr6
 refine .bind (aey (n:=p.Globals) hb hl (by omega) (by omega) E7) (λr7 hr7=>?_)
 subst hr7
 refine .bind (aey (n:=(p.Types.length:Int)) hb hl (by omega) (by omega) E8) (λr8 hr8=>?_)
 subst hr8
 refine .bind (aei (l:=p.Types) (g:=typE) (b:=b) (by omega) (λx hx m acc p' q' hq' ha hm=>?_) (λa acc=>?_) E9) (λr9 hr9=>?_)
 ·simp only[aI.b6]
  have hx:=ts x hx
  refine .pos (by omega) (.pos (by simp) ?_)
  refine .bind (ajv (l:=x.Params) (post:=valE x.Results++q') hb hl hx.1.1 hx.1.2 (by rw[hq',typE];simp only[List.append_assoc])) (λu hu=>?_)
  subst hu
  refine .bind (ajv (l:=x.Results) (post:=q') hb hl hx.2.1 hx.2.2 (by rw[hq',typE];simp only[List.append_assoc])) (λu hu=>?_)
  subst hu
  refine .pos (aab (by omega) (by omega)) (.one ?_)
  rw[typE]
  simp only[List.append_assoc]
 ·simp only[aI.b6]
  exact .neg (by omega) (.one rfl)
 subst hr9
 refine .bind (ahs hb hl (by omega) e2 E10) (λr10 hr10=>?_)
 subst hr10
 refine .bind (ahs (post:=post) hb hl (by omega) h2 E11) (λr11 hr11=>?_)
 subst hr11
 dsimp only
 have ep:(ah.mk (ak.mk p.Module.Types p.Module.Imports p.Module.Funcs p.Module.Mems p.Module.Globals p.Module.Exports p.Module.Datas p.Module.Customs) (ar.mk p.Slots.Globals) (aq.mk p.Layout.Base p.Layout.Size 0 p.Layout.Grow) p.Types p.Names p.Hidden p.Extra p.Mems p.Globals)=p:=by
  obtain⟨_,_,⟨_,_,z,_⟩,_,_,_,_,_,_⟩:=p
  have:z=0:=x
  subst this
  rfl
 rw[ep]
 refine .bind (acY hf ⟨ahA n1,ahA n2,ahA n3,ahA n4⟩) (λr12 hr12=>?_)
 rcases hr12 with⟨hR,rfl⟩ | ⟨hR,rfl⟩
 ·refine .neg (by simp) (.pos rfl ?_)
  refine .bind (Q:=λq=>q=aaD (strOf (planE p)) (strOf b)) (.succ (by simp only[dB.f];exact .one rfl)) (λq hq=>?_)
  subst hq
  rw[hbb,planR_eq]
  cases post with
  | nil=>
   rw[List.append_nil]
   have:aaD (strOf (planE p)) (strOf (planE p))=true:=(aaT _ _).2 rfl
   exact .neg (by simp[this]) (.one ⟨λ_=>rfl,λh=>(h rfl).elim⟩)
  | cons y post=>
   have:¬aaD (strOf (planE p)) (strOf (planE p++y::post))=true:=λh=>by
    have:=congrArg ByteArray.size ((aaT _ _).1 h)
    rw[strOf_size,strOf_size,List.length_append,List.length_cons]at this
    omega
   exact .pos (by simp[this]) (.one ⟨λh=>(by cases h),λ_=>rfl⟩)
 ·exact(hR hq).elim
theorem aju{p:ah}(hm:Fit p.Module)(q:RPl p):Wp (λk=>aI.f k p.Module (planE p)) (· = (p,0)):=
 (aj0 (post:=[]) hm q (by rw[planR_eq,List.append_nil]) (ahE q) (by have:=age q;omega)).mono λ_ h=>h.1 rfl
end Mn
end Go.R4
