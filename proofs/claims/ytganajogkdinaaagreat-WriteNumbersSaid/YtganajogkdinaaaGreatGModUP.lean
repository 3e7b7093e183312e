import Derived.Test.YtganajogkdinaaaGreatGPe
import Derived.Test.YtganajogkdinaaaGreatEvPl
set_option linter.all false
namespace Go.R4.Mo
open Go.Proofs Go.Ev
set_option maxRecDepth 100000
theorem aki{k:Nat}(hk:1<=k){n lo hi:Int}(h1:lo<=hi)(h2:-1000000000000000000<=lo)(h3:hi<=1000000000000000000):∃ r,dm.f k n lo hi=some r/\lo<=r/\r<=hi/\(lo<=n->n<=hi->r=n):=by
 obtain⟨k,rfl⟩:∃ j,k=j+1:=⟨k-1,by omega⟩
 simp only[dm.f]
 by_cases h:lo<=n/\n<=hi
 ·rw[if_pos h.1,if_pos h.2]
  exact⟨n,rfl,h.1,h.2,λ_ _=>rfl⟩
 ·have e:iadd .i64 (isub .i64 hi lo) 1=hi-lo+1:=by rw[aap (by omega) (by omega),aai (by omega) (by omega)]
  have m0:irem .i64 n (hi-lo+1)<hi-lo+1:=by
   unfold irem;exact Int.tmod_lt_of_pos _ (by omega)
  have m1:-(hi-lo+1)<irem .i64 n (hi-lo+1):=by
   unfold irem;exact Int.lt_tmod_of_pos _ (by omega)
  have q:(if n≥lo then(if n<=hi then(some (.inr n))else(some (.inl ())))else(some (.inl ())):Option (Unit⊕Int))=some (.inl ()):=by
   by_cases h0:n≥lo
   ·rw[if_pos h0,if_neg (by omega)]
   ·rw[if_neg h0]
  rw[q,e]
  simp only[segB]
  rw[if_pos (by omega)]
  generalize irem .i64 n (hi-lo+1)=z at m0 m1
  by_cases hz:z<0
  ·rw[if_pos hz,aai (a:=z) (by omega) (by omega),aap (by omega) (by omega),aai (a:=z+hi-lo) (by omega) (by omega),aai (by omega) (by omega)]
   exact⟨_,rfl,by omega,by omega,by omega⟩
  ·rw[if_neg hz,aai (by omega) (by omega)]
   exact⟨_,rfl,by omega,by omega,by omega⟩
theorem akm{n lo hi:Int}(h1:lo<=hi)(h2:-1000000000000000000<=lo)(h3:hi<=1000000000000000000):Wp (λk=>dm.f k n lo hi) (λr=>lo<=r/\r<=hi/\(lo<=n->n<=hi->r=n)):=by
 obtain⟨r,e,h⟩:=aki (k:=1) (Nat.le_refl 1) (n:=n) h1 h2 h3
 refine⟨r,h,1,λk hk=>?_⟩
 obtain⟨k,rfl⟩:∃ j,k=j+1:=⟨k-1,by omega⟩
 exact e
theorem aak{n:Int}{t:List Int}{p:Int}(hn:0<n)(hn2:n<=2000000000)(ht:t.length<=bigN)(hp:0<=p):Wp (λk=>aa.f k n t p) (λr=>0<=r.1/\r.1<n/\0<=r.2):=by
 refine .succ ?_
 simp only[aa.f]
 have hb:bigN=140737488351232:=rfl
 refine .ite (λh=>.one ⟨Int.le_refl 0,hn,hp⟩) (λh=>?_)
 have e:isub .i64 (iadd .i64 p 1) 1=p:=by rw[aai (by omega) (by omega),aap (by omega) (by omega)];omega
 rw[e]
 refine .bind (.idx hp (by omega)) (λx hx=>?_)
 refine .bind (akm (by decide) (by decide) (by decide)) (λr hr=>?_)
 refine .pos (by omega) (.one ⟨?_,?_,?_⟩)
 ·exact Int.tmod_nonneg _ hr.1
 ·exact Int.tmod_lt_of_pos _ hn
 ·show 0<=iadd .i64 p 1
  rw[aai (by omega) (by omega)];omega
def opsL:List Int:=[69,70,71,72,73,74,75,76,77,78,79,80,81,82,83,84,85,86,87,88,89,90,97,98,99,100,101,102,103,104,105,106,107,108,109,110,111,112,113,114,115,116,117,118,119,120,121,122,123,124,125,126,127,128,129,130,131,132,133,134,135,136,137,138,153,154,155,156,157,158,159,160,161,162,163,164,165,166,167,170,171,172,173,176,177,183,184,185,186,189,191,192,193,194,195,196,64514,64515,64518,64519,192,193,194,195,196,64514,64518]
def accL:List Int:=[40,41,43,44,45,46,47,48,49,50,51,52,53,54,55,57,58,59,60,61,62]
inductive Fine:ag->Prop
 | num {o:Int}:o∈opsL->Fine ⟨o,0,0,0,[]⟩
 | bare {o:Int}:o=26∨o=27∨o=15∨o=0->Fine ⟨o,0,0,0,[]⟩
 | i32 {n:Int}:0<=n->n<4294967296->Fine ⟨65,0,0,n,[]⟩
 | i64 {n:Int}:0<=n->n<18446744073709551616->Fine ⟨66,0,0,n,[]⟩
 | f64 {n:Int}:0<=n->n<18446744073709551616->Fine ⟨68,0,0,n,[]⟩
 | loc {o a:Int}:o=32∨o=33∨o=34->0<=a->a<8->Fine ⟨o,a,0,0,[]⟩
 | glo {o a:Int}:o=35∨o=36->0<=a->a<4->Fine ⟨o,a,0,0,[]⟩
 | acc {o a n:Int}:o∈accL->0<=a->a<3->0<=n->n<20->Fine ⟨o,a,0,n,[]⟩
 | mem {o a:Int}:o=63∨o=64->0<=a->a<3->Fine ⟨o,a,0,0,[]⟩
 | ini {a b:Int}:0<=a->a<3->0<=b->b<2->Fine ⟨64520,a,b,0,[]⟩
 | dro {a:Int}:0<=a->a<2->Fine ⟨64521,a,0,0,[]⟩
 | cop {a b:Int}:0<=a->a<3->0<=b->b<3->Fine ⟨64522,a,b,0,[]⟩
 | fil {a:Int}:0<=a->a<3->Fine ⟨64523,a,0,0,[]⟩
 | call {o a:Int}:o=16∨o=18->0<=a->a<6->Fine ⟨o,a,0,0,[]⟩
 | br {o a:Int}:o=12∨o=13->0<=a->a<7->Fine ⟨o,a,0,0,[]⟩
 | tab {l:List Int}:l≠[]->l.length<=5->(∀ x∈l,0<=x/\x<7)->Fine ⟨14,0,0,0,l⟩
def abw(c:List ag):Prop:=∀ i∈c,Fine i
theorem abw.nil:abw []:=λ_ h=>by cases h
theorem abw.one{i:ag}(h:Fine i):abw [i]:=λ_ hj=>by rw[List.mem_singleton]at hj;exact hj ▸ h
theorem abw.app{a b:List ag}(ha:abw a)(hb:abw b):abw (a++b):=λi hi=>by
 rcases List.mem_append.1 hi with h | h
 ·exact ha i h
 ·exact hb i h
structure Env(T:List af)(I:List ak)(G:List ai)(D:List aA)(OR tape:List Int)(F:List aj)(M:List au)(L:List Int):Prop where
 tape:tape.length<=bigN
 tl:T.length=9
 ty:∀ t∈T,t.Params.length<=2/\t.Results.length<=3
 il:I.length=2
 it:∀ i∈I,0<=i.fType/\i.fType<9
 gl:G.length=4
 dl:M≠[]->D.length=2
 ml:M.length<=3
 fl:1<=F.length/\F.length<=4
 ft:∀ f∈F,0<=f.fType/\f.fType<9
 ll:L.length<=7
 rl:OR.length<=3
variable{T:List af}{I:List ak}{G:List ai}{D:List aA}{OP OR:List Int}{tl:Bool}{tape:List Int}{F:List aj}{M:List au}{E:List ae}{L:List Int}{left p:Int}{s:List Int}{lb:List (List Int)}{c:List ag}
theorem aaw{a b d e:Int}(hc:c.length<=1000000):Wp (λk=>aw.f k a b d e T I G D OP OR left tl tape p F M E L s lb c) (· = c++[⟨a,b,d,e,[]⟩]):=by
 refine .succ ?_
 simp only[aw.f]
 exact .pos (aae (by omega) (by omega)) (.one rfl)
theorem anT{i:ag}(hc:c.length<=1000000):Wp (λk=>eD.f k i T I G D OP OR left tl tape p F M E L s lb c) (· = c++[i]):=by
 refine .succ ?_
 simp only[eD.f]
 exact .pos (aae (by omega) (by omega)) (.one rfl)
theorem amb(x:Int):0<=IntKind.u64.wrap x/\IntKind.u64.wrap x<18446744073709551616:=by rw[wrap_u64];omega
theorem ake{x:Int}{i:Nat}(h:([(18446744073709551615:Int),(9223372036854775808:Int),(2147483647:Int),(2147483648:Int),(9218868437227405312:Int),(9221120237041090560:Int),(18442240474082181120:Int),(4609434218613702656:Int),(4746794007246405632:Int),(13970166044103278592:Int),(9223372036854775808:Int),(4890909195324358656:Int)]:List Int)[i]?=some x):0<=x/\x<18446744073709551616:=by
 have:=List.mem_of_getElem? h
 simp only[List.mem_cons,List.not_mem_nil,or_false]at this
 omega
theorem agH(he:Env T I G D OR tape F M L){t:Int}(hp:0<=p)(hs:s.length<=1000000)(hc:c.length<=1000000) :
  Wp (λk=>dB.f k t T I G D OP OR left tl tape p F M E L s lb c) (λr=>0<=r.1/\r.2.1=s++[t]/\∃ i,r.2.2=c++[i]/\Fine i):=by
 refine .succ ?_
 simp only[dB.f]
 refine .bind (aak (by decide) (by decide) he.tape hp) (λr hr=>?_)
 obtain⟨v,q⟩:=r
 dsimp only at hr ⊢
 refine .seg (Q:=λo=>0<=o.1/\o.1<18446744073709551616/\0<=o.2) ?_ (λo ho=>?_)
 ·refine .bind (aak (by decide) (by decide) he.tape hr.2.2) (λr hr2=>?_)
  obtain⟨v2,q2⟩:=r
  dsimp only at hr2 ⊢
  refine .ite (λ_=>?_) (λ_=>?_)
  ·refine .bind (aak (by decide) (by decide) he.tape hr2.2.2) (λr hr3=>?_)
   obtain⟨v3,q3⟩:=r
   dsimp only at hr3 ⊢
   refine .pos ⟨hr3.1,hr3.2.1⟩ (.bind (.get (by simp;omega)) (λx hx=>?_))
   have:=ake hx
   exact .left ⟨this.1,this.2,hr3.2.2⟩
  ·refine .left ⟨?_,?_,hr2.2.2⟩
   ·exact(amb _).1
   ·exact(amb _).2
 ·obtain⟨x,q4⟩:=o
  dsimp only at ho ⊢
  refine .seg (Q:=λo=>Fine ⟨o.2,0,0,o.1,[]⟩) ?_ (λo2 ho2=>?_)
  ·refine .ite (λ_=>.left ?_) (λ_=>.ite (λ_=>.ite (λ_=>.left ?_) (λ_=>.left ?_)) (λ_=>.left ?_))
   ·have:iand .u64 x 4294967295=x % 2 ^ 32:=abv (j:=32) (by decide) (by decide)
    refine .i32 ?_ ?_
    ·rw[this];omega
    ·rw[this];omega
   ·exact .f64 (amb _).1 (amb _).2
   ·exact .f64 ho.1 ho.2.1
   ·exact .i64 ho.1 ho.2.1
  ·obtain⟨x2,op⟩:=o2
   dsimp only at ho2 ⊢
   refine .bind (aaw hc) (λr hr5=>?_)
   subst hr5
   exact .pos (aae (by omega) (by omega)) (.one ⟨ho.2.2,rfl,_,rfl,ho2⟩)
theorem abG(he:Env T I G D OR tape F M L){t:Int}(hp:0<=p)(hs:s.length<=1000000)(hc:c.length<=1000000) :
  Wp (λk=>aH.f k t T I G D OP OR left tl tape p F M E L s lb c) (λr=>0<=r.1/\r.2.1=s++[t]/\∃ i,r.2.2=c++[i]/\Fine i):=by
 refine .succ ?_
 simp only[aH.f]
 have hll:=he.ll
 have hgl:=he.gl
 refine .seg (Q:=λq=>0<=q) ?_ (λq hq=>?_)
 ·refine .bind (aak (by decide) (by decide) he.tape hp) (λr hr=>?_)
  obtain⟨v,q⟩:=r
  dsimp only at hr ⊢
  refine .ite (λ_=>?_) (λ_=>.ite (λ_=>?_) (λ_=>.left hr.2.2))
  ·refine .alt (Q:=λq=>0<=q) (Q2:=λr=>0<=r.1/\∃ i,r.2=c++[i]/\Fine i) ?_ (λo ho=>.left ho) (λo ho=>?_)
   ·refine .loop (λ(n:Nat) (v:Int×Int)=>0<=v.1/\0<=v.2/\v.1+(n:Int)=(L.length:Int)) (λn v hv=>?_) (n:=L.length) ⟨by simp,hr.2.2,by simp⟩
    obtain⟨j,q⟩:=v
    dsimp only at hv ⊢
    simp only[aH.b3]
    refine .ite (λh=>?_) (λh=>?_)
    ·refine .bind (aak (by decide) (by decide) he.tape hv.2.1) (λr hr=>?_)
     obtain⟨x,q2⟩:=r
     dsimp only at hr ⊢
     have hx:0<=irem .i64 (iadd .i64 j x) (L.length:Int)/\irem .i64 (iadd .i64 j x) (L.length:Int)<(L.length:Int):=by
      rw[aai (by omega) (by omega)]
      exact⟨Int.tmod_nonneg _ (by omega),Int.tmod_lt_of_pos _ (by omega)⟩
     refine .pos (by omega) (.pos hx ?_)
     refine .bind (.get (by omega)) (λe hee=>?_)
     refine .ite (λ_=>?_) (λ_=>?_)
     ·refine .bind (aaw hc) (λr hr5=>?_)
      subst hr5
      refine .pos (aae (by omega) (by omega)) (.right ?_)
      exact⟨hr.2.2,_,rfl,.loc (.inl rfl) hx.1 (by omega)⟩
     ·refine .left ⟨n-1,by omega,?_,hr.2.2,?_⟩
      ·show 0<=iadd .i64 j 1
       rw[aai (by omega) (by omega)];omega
      ·show iadd .i64 j 1+_=_
       rw[aai (by omega) (by omega)];omega
    ·exact .right hv.2.1
   ·obtain⟨q2,c2⟩:=o
    dsimp only at ho ⊢
    exact .right ⟨ho.1,rfl,ho.2⟩
  ·refine .alt (Q:=λ_=>True) (Q2:=λr=>∃ i,r=c++[i]/\Fine i) ?_ (λo ho=>.left hr.2.2) (λo ho=>?_)
   ·refine .loop (λ(n:Nat) (v:Int)=>0<=v/\v+(n:Int)=(G.length:Int)) (λn v hv=>?_) (n:=G.length) ⟨by simp,by simp⟩
    simp only[aH.b11]
    refine .ite (λh=>?_) (λh=>?_)
    ·refine .bind (.idx hv.1 (by omega)) (λe hee=>?_)
     refine .ite (λ_=>?_) (λ_=>?_)
     ·refine .bind (aaw hc) (λr hr5=>?_)
      subst hr5
      refine .pos (aae (by omega) (by omega)) (.right ?_)
      exact⟨_,rfl,.glo (.inl rfl) hv.1 (by omega)⟩
     ·refine .left ⟨n-1,by omega,?_,?_⟩
      ·rw[aai (by omega) (by omega)];omega
      ·rw[aai (by omega) (by omega)];omega
    ·exact .right trivial
   ·exact .right ⟨hr.2.2,rfl,ho⟩
 ·refine .bind (agH he hq hs hc) (λr hr=>?_)
  obtain⟨x,y,z⟩:=r
  exact .one hr
def Adds(lo hi n:Nat)(c:List ag)(r:Int×List Int×List ag):Prop:=0<=r.1/\lo<=r.2.1.length/\r.2.1.length<=hi/\∃ cs,r.2.2=c++cs/\abw cs/\cs.length<=n
theorem akb{l:List Int}{h:Int}(hh:0<=h)(hhs:h<=s.length)(hs:s.length<=1000000)(hl:l.length<=1000000) :
  Wp (λk=>eh.f k tape p T I F M G E D L OP OR s lb c left tl l h) (λb=>b=true->(l.length:Int)+h<=s.length):=by
 refine .succ ?_
 simp only[eh.f]
 rw[aap (by omega) (by omega)]
 refine .ite (λ_=>.one (λh=>by cases h)) (λh1=>?_)
 refine .alt (Q:=λ_=>True) (Q2:=λ_=>True) ?_ (λo _=>.one (λ_=>by omega)) (λo _=>.one (λh=>by cases h))
 refine .loop (λ(n:Nat) (v:Int)=>0<=v/\v+(n:Int)=(l.length:Int)) (λn v hv=>?_) (n:=l.length) ⟨by simp,by simp⟩
 simp only[eh.b4]
 refine .ite (λh2=>?_) (λ_=>.right trivial)
 rw[aap (by omega) (by omega),aai (by omega) (by omega)]
 refine .bind (.idx (by omega) (by omega)) (λx _=>?_)
 refine .bind (.idx (by omega) (by omega)) (λy _=>?_)
 refine .ite (λ_=>.left ⟨n-1,by omega,?_,?_⟩) (λ_=>.right trivial)
 ·rw[aai (by omega) (by omega)];omega
 ·rw[aai (by omega) (by omega)];omega
def Row(p:Int)(s:List Int)(c:List ag)(l:List Int)(n:Nat)(v:Int×Int×List Int×List ag):Prop:=
 0<=v.1/\v.1+(n:Int)=(l.length:Int)/\0<=v.2.1/\(v.2.2.1.length:Int)=s.length+v.1/\∃ cs,v.2.2.2=c++cs/\abw cs/\(cs.length:Int)=v.1
theorem Row.next{l s:List Int}{c:List ag}{n:Nat}{i p q:Int}{s1:List Int}{c1:List ag}{x:Int}{s2:List Int}{c2:List ag}(hl:l.length<=1000000)(h:Row p s c l n (i,q,s1,c1))(hlt:i<l.length)
  (hr:0<=x/\(∃ t,s2=s1++[t])/\∃ j,c2=c1++[j]/\Fine j):∃ m,m<n/\Row p s c l m (iadd .i64 i 1,x,s2,c2):=by
 obtain⟨h1,h2,h3,h4,cs,h5,h6,h7⟩:=h
 obtain⟨g1,⟨t,rfl⟩,j,rfl,g3⟩:=hr
 dsimp only at h1 h2 h3 h4 h5 h7
 subst h5
 refine⟨n-1,by omega,?_⟩
 rw[aai (by omega) (by omega)]
 refine⟨by dsimp only;omega,by dsimp only;omega,g1,?_,cs++[j],by simp,h6.app (.one g3),?_⟩
 ·simp only[List.length_append,List.length_cons,List.length_nil];omega
 ·simp only[List.length_append,List.length_cons,List.length_nil];omega
theorem Row.last{l s:List Int}{c:List ag}{n:Nat}{i p q:Int}{s1:List Int}{c1:List ag}(h:Row p s c l n (i,q,s1,c1))(hlt:¬i<l.length):Adds (s.length+l.length) (s.length+l.length) l.length c (q,s1,c1):=by
 obtain⟨h1,h2,h3,h4,cs,h5,h6,h7⟩:=h
 dsimp only at h1 h2 h3 h4 h5 h7
 exact⟨h3,by dsimp only;omega,by dsimp only;omega,cs,h5,h6,by omega⟩
theorem Adds.mono{lo hi n lo' hi' n':Nat}{r:Int×List Int×List ag}(h:Adds lo hi n c r)(h1:lo'<=lo)(h2:hi<=hi')(h3:n<=n'):Adds lo' hi' n' c r:=by
 obtain⟨a,b,d,cs,e,f,g⟩:=h
 exact⟨a,by omega,by omega,cs,e,f,by omega⟩
theorem afn(he:Env T I G D OR tape F M L){l:List Int}{h:Int}(hp:0<=p)(hh:0<=h)(hhs:h<=s.length)(hs:s.length<=900000)(hc:c.length<=900000)(hl:l.length<=100) :
  Wp (λk=>dv.f k h T I G D OP OR left tl l tape p F M E L s lb c) (λr=>(l.length:Int)+h<=r.2.1.length/\Adds s.length (s.length+l.length) l.length c r):=by
 refine .succ ?_
 simp only[dv.f]
 refine .bind (akb hh hhs (by omega) (by omega)) (λb hb=>?_)
 refine .ite (λhq=>.one ⟨hb hq,hp,Nat.le_refl _,Nat.le_add_right _ _,[],by simp,.nil,Nat.zero_le _⟩) (λ_=>?_)
 refine .bind (Q:=λr=>Adds (s.length+l.length) (s.length+l.length) l.length c r) ?_ (λr hr=>?_)
 ·refine .loop (Row p s c l) (λn v hv=>?_) (n:=l.length) ⟨by simp,by simp,hp,by simp,[],by simp,.nil,by simp⟩
  obtain⟨i,q,s1,c1⟩:=v
  simp only[dv.b2]
  obtain⟨v1,v2,v3,v4,cs,v5,v6,v7⟩:=id hv
  dsimp only at v1 v2 v3 v4 v5 v7
  refine .ite (λhi=>?_) (λhi=>.right (hv.last hi))
  refine .pos ⟨v1,hi⟩ (.bind (.get (by omega)) (λe _=>?_))
  refine .bind (abG he v3 (by omega) (by subst v5;simp only[List.length_append];omega)) (λr hr=>?_)
  obtain⟨x,y,z⟩:=r
  exact .left (Row.next (p:=p) (by omega) hv hi ⟨hr.1,⟨e,hr.2.1⟩,hr.2.2⟩)
 ·obtain⟨x,y,z⟩:=r
  refine .one ⟨?_,hr.mono (by omega) (Nat.le_refl _) (Nat.le_refl _)⟩
  have:=hr.2.1
  dsimp only at this ⊢
  omega
theorem abX(he:Env T I G D OR tape F M L){l:List Int}{h:Int}(hp:0<=p)(hh:0<=h)(hhs:h<=s.length)(hs:s.length<=900000)(hc:c.length<=900000)(hl:l.length<=100) :
  Wp (λk=>aR.f k l h T I G D OP OR left tl tape p F M E L s lb c) (λr=>(l.length:Int)+h<=r.2.1.length/\Adds s.length (s.length+l.length) l.length c r):=by
 refine .succ ?_
 simp only[aR.f]
 refine .bind (akb hh hhs (by omega) (by omega)) (λb hb=>?_)
 refine .ite (λhq=>.one ⟨hb hq,hp,Nat.le_refl _,Nat.le_add_right _ _,[],by simp,.nil,Nat.zero_le _⟩) (λ_=>?_)
 refine .bind (Q:=λr=>Adds (s.length+l.length) (s.length+l.length) l.length c r) ?_ (λr hr=>?_)
 ·refine .loop (Row p s c l) (λn v hv=>?_) (n:=l.length) ⟨by simp,by simp,hp,by simp,[],by simp,.nil,by simp⟩
  obtain⟨i,q,s1,c1⟩:=v
  simp only[aR.b2]
  obtain⟨v1,v2,v3,v4,cs,v5,v6,v7⟩:=id hv
  dsimp only at v1 v2 v3 v4 v5 v7
  refine .ite (λhi=>?_) (λhi=>.right (hv.last hi))
  refine .bind (.idx v1 hi) (λe _=>?_)
  refine .bind (abG he v3 (by omega) (by subst v5;simp only[List.length_append];omega)) (λr hr=>?_)
  obtain⟨x,y,z⟩:=r
  exact .left (Row.next (p:=p) (by omega) hv hi ⟨hr.1,⟨e,hr.2.1⟩,hr.2.2⟩)
 ·obtain⟨x,y,z⟩:=r
  refine .one ⟨?_,hr.mono (by omega) (Nat.le_refl _) (Nat.le_refl _)⟩
  have:=hr.2.1
  dsimp only at this ⊢
  omega
theorem cut_eq(s:List Int)(n:Nat):List.take (n-0) (List.drop 0 s)=s.take n:=by simp
theorem agY{t g:List Int}(ht:t.length<=s.length)(hs:s.length<=1000000)(hg:g.length<=100) :
  Wp (λk=>dZ.f k T I G D OP OR left tl t g tape p F M E L s lb c) (· = s.take (s.length-t.length)++g):=by
 refine .succ ?_
 simp only[dZ.f]
 rw[aap (by omega) (by omega),cut_eq,show((s.length:Int)-(t.length:Int)).toNat=s.length-t.length by omega]
 refine .pos ⟨by omega,by omega,by omega⟩ (.pos (aae ?_ ?_) (.pos (aae ?_ ?_) (.one rfl))) <;> simp <;> omega
theorem adF{t:List Int}(ht:t.length<=s.length)(hs:s.length<=1000000) :
  Wp (λk=>cI.f k T I G D OP OR left tl t tape p F M E L s lb c) (· = s.take (s.length-t.length)++[]):=by
 refine .succ ?_
 simp only[cI.f]
 rw[aap (by omega) (by omega),cut_eq,show((s.length:Int)-(t.length:Int)).toNat=s.length-t.length by omega]
 refine .pos ⟨by omega,by omega,by omega⟩ (.pos (aae ?_ ?_) (.pos (aae ?_ ?_) (.one rfl))) <;> simp <;> omega
theorem amr{t g:List Int}(ht:t.length<=s.length)(hs:s.length<=1000000)(hg:g.length<=100) :
  Wp (λk=>ey.f k t g T I G D OP OR left tl tape p F M E L s lb c) (· = s.take (s.length-t.length)++g):=by
 refine .succ ?_
 simp only[ey.f]
 rw[aap (by omega) (by omega),cut_eq,show((s.length:Int)-(t.length:Int)).toNat=s.length-t.length by omega]
 refine .pos ⟨by omega,by omega,by omega⟩ (.pos (aae ?_ ?_) (.pos (aae ?_ ?_) (.one rfl))) <;> simp <;> omega
theorem ae9(he:Env T I G D OR tape F M L)(hp:0<=p)(hs:s.length<=1000000)(hc:c.length<=1000000) :
  Wp (λk=>dL.f k T I G D OP OR left tl tape p F M E L s lb c) (λr=>0<=r.1/\r.2.1=s++[127]/\∃ i,r.2.2=c++[i]/\Fine i):=by
 refine .succ ?_
 simp only[dL.f]
 refine .bind (aak (by decide) (by decide) he.tape hp) (λr hr=>?_)
 obtain⟨v,q⟩:=r
 dsimp only at hr ⊢
 refine .bind (aaw hc) (λr hr5=>?_)
 subst hr5
 refine .pos (aae (by omega) (by omega)) (.one ⟨hr.2.2,rfl,_,rfl,.i32 ?_ ?_⟩)
 ·rw[acR (by omega) (by omega)];omega
 ·rw[acR (by omega) (by omega)];omega
theorem ahU{f:Int}(he:Env T I G D OR tape F M L)(h0:0<=f)(h1:f<2+F.length):Wp (λk=>dp.f k T I G D f F M E) (λr=>r.1∈T/\r.2=true):=by
 refine .succ ?_
 simp only[dp.f]
 have hil:=he.il;have hfl:=he.fl;have htl:=he.tl
 refine .seg (Q:=λt=>0<=t/\t<9) ?_ (λt ht=>?_)
 ·refine .seg (Q:=λx=>x=decide (f<(I.length:Int))) (.pos h0 (.left rfl)) (λx hx=>?_)
  subst hx
  refine .ite (λh=>?_) (λh=>?_)
  ·rw[decide_eq_true_eq]at h
   exact .bind (.idx h0 h) (λe hee=>.left (he.it e (List.mem_of_getElem? hee)))
  ·rw[decide_eq_true_eq]at h
   refine .seg (Q:=λx=>x=true) (.pos h0 (.left ?_)) (λx hx=>?_)
   ·rw[decide_eq_true_eq,aai (by omega) (by omega)];omega
   ·rw[aap (by omega) (by omega)]
    refine .pos hx (.pos ⟨by omega,by omega⟩ (.bind (.get (by omega)) (λe hee=>.left (he.ft e (List.mem_of_getElem? hee)))))
 ·refine .neg (by omega) (.neg (by omega) (.bind (.idx ht.1 (by omega)) (λe hee=>.one ⟨List.mem_of_getElem? hee,rfl⟩)))
theorem al0{a:Int}(he:Env T I G D OR tape F M L)(h0:-4<=a)(h1:a<9):Wp (λk=>dO.f k T I G D a F M E) (λr=>r.1.Params.length<=2/\r.1.Results.length<=3):=by
 refine .succ ?_
 simp only[dO.f]
 have htl:=he.tl
 refine .ite (λ_=>.one ⟨by simp,by simp⟩) (λ_=>.ite (λ_=>.one ⟨by simp,by simp⟩) (λ_=>.ite (λ_=>.one ⟨by simp,by simp⟩) (λ_=>.ite (λ_=>.one ⟨by simp,by simp⟩) (λ_=>?_))))
 refine .pos (by omega) (.pos (by omega) (.bind (.idx (by omega) (by omega)) (λe hee=>.one (he.ty e (List.mem_of_getElem? hee)))))
theorem ad7{a b:List Int}(ha:a.length<=1000000):Wp (λk=>cT.f k a b) (λ_=>True):=by
 refine .succ ?_
 simp only[cT.f]
 refine .ite (λh=>?_) (λ_=>.one trivial)
 refine .alt (Q:=λ_=>True) (Q2:=λ_=>True) ?_ (λo _=>.one trivial) (λo _=>.one trivial)
 refine .loop (λ(n:Nat) (v:Int)=>0<=v/\v+(n:Int)=(a.length:Int)) (λn v hv=>?_) (n:=a.length) ⟨by simp,by simp⟩
 simp only[cT.b4]
 refine .ite (λh2=>?_) (λ_=>.right trivial)
 refine .bind (.idx (by omega) (by omega)) (λx _=>?_)
 refine .bind (.idx (by omega) (by omega)) (λy _=>?_)
 refine .ite (λ_=>.left ⟨n-1,by omega,?_,?_⟩) (λ_=>.right trivial)
 ·rw[aai (by omega) (by omega)];omega
 ·rw[aai (by omega) (by omega)];omega
theorem ahL{o a n:Int}(h:o∈([(40:Int),(41:Int),(43:Int),(44:Int),(45:Int),(46:Int),(47:Int),(48:Int),(49:Int),(50:Int),(51:Int),(52:Int),(53:Int),(54:Int),(55:Int),(57:Int),(58:Int),(59:Int),(60:Int),(61:Int),(62:Int),(63:Int),(64:Int)]:List Int))(h1:o≠63)(h2:o≠64)(ha:0<=a)(ha2:a<3)(hn:0<=n)(hn2:n<20):Fine ⟨o,a,0,n,[]⟩:=by
 refine .acc ?_ ha ha2 hn hn2
 simp only[List.mem_cons,List.not_mem_nil,or_false]at h
 simp only[accL,List.mem_cons,List.not_mem_nil,or_false]
 omega
theorem aif:(([(40:Int),(41:Int),(43:Int),(44:Int),(45:Int),(46:Int),(47:Int),(48:Int),(49:Int),(50:Int),(51:Int),(52:Int),(53:Int),(54:Int),(55:Int),(57:Int),(58:Int),(59:Int),(60:Int),(61:Int),(62:Int),(63:Int),(64:Int)]:List Int).all λo=>(ax.f 1 o).isSome)=true:=by kernel_rfl
theorem ajP{o:Int}(h:o∈([(40:Int),(41:Int),(43:Int),(44:Int),(45:Int),(46:Int),(47:Int),(48:Int),(49:Int),(50:Int),(51:Int),(52:Int),(53:Int),(54:Int),(55:Int),(57:Int),(58:Int),(59:Int),(60:Int),(61:Int),(62:Int),(63:Int),(64:Int)]:List Int)):Wp (λk=>ax.f k o) (λ_=>True):=by
 have:=List.all_eq_true.1 aif o h
 obtain⟨r,hr⟩:=Option.isSome_iff_exists.1 this
 refine⟨r,trivial,1,λk hk=>?_⟩
 obtain⟨k,rfl⟩:∃ j,k=j+1:=⟨k-1,by omega⟩
 exact hr
theorem alL{o:Int}:Wp (λk=>dU.f k o) (λ_=>True):=by
 refine .succ ?_
 simp only[dU.f]
 exact .ite (λ_=>.one trivial) (λ_=>.one trivial)
theorem app_len1{α:Type}(a:List α)(x:α):(a++[x]).length=a.length+1:=by simp
theorem akN(he:Env T I G D OR tape F M L){h:Int}(hp:0<=p)(hs:s.length<=900000)(hc:c.length<=900000) :
  Wp (λk=>eu.f k h T I G D OP OR left tl tape p F M E L s lb c) (Adds s.length (s.length+1) 4 c):=by
 refine .succ ?_
 simp only[eu.f]
 have hml:=he.ml
 refine .ite (λ_=>.one ⟨hp,by simp,by simp,[],by simp,.nil,by simp⟩) (λh0=>?_)
 refine .bind (aak (by omega) (by omega) he.tape hp) (λr hr=>?_)
 obtain⟨a,q⟩:=r
 dsimp only at hr ⊢
 refine .bind (aak (by decide) (by decide) he.tape hr.2.2) (λr hr2=>?_)
 obtain⟨x,q2⟩:=r
 dsimp only at hr2 ⊢
 refine .pos ⟨hr2.1,hr2.2.1⟩ (.bind (.get (by simp;omega)) (λo ho=>?_))
 have hm:=List.mem_of_getElem? ho
 refine .bind (ajP hm) (λr _=>?_)
 obtain⟨r79,t,r81⟩:=r
 dsimp only
 refine .ite (λh63=>?_) (λh63=>.ite (λh64=>?_) (λh64=>?_))
 ·refine .bind (aaw (by omega)) (λc2 hc2=>?_)
  subst hc2
  refine .pos (aae (by omega) (by omega)) (.one ⟨hr2.2.2,by simp,by simp,_,rfl,.one (.mem (.inl h63) hr.1 (by omega)),by simp⟩)
 ·refine .bind (aak (by decide) (by decide) he.tape hr2.2.2) (λr hr3=>?_)
  obtain⟨x3,q3⟩:=r
  dsimp only at hr3 ⊢
  refine .bind (aaw (by omega)) (λc2 hc2=>?_)
  subst hc2
  refine .bind (aaw (by rw[app_len1];omega)) (λc2 hc2=>?_)
  subst hc2
  refine .pos (aae (by omega) (by omega)) (.one ⟨hr3.2.2,by simp,by simp,_,List.append_assoc ..,(abw.one (.i32 ?_ ?_)).app (.one (.mem (.inr h64) hr.1 (by omega))),by simp⟩)
  ·rw[acR (by omega) (by omega)];omega
  ·rw[acR (by omega) (by omega)];omega
 ·refine .bind alL (λb _=>?_)
  refine .ite (λ_=>?_) (λ_=>?_)
  ·refine .bind (ae9 he hr2.2.2 (by omega) (by omega)) (λr hr3=>?_)
   obtain⟨q3,s3,c3⟩:=r
   obtain⟨g1,g2,i,g3,g4⟩:=hr3
   dsimp only at g1 g2 g3 ⊢
   subst g2;subst g3
   refine .bind (abG he g1 (by rw[app_len1];omega) (by rw[app_len1];omega)) (λr hr3=>?_)
   obtain⟨q3,s3,c3⟩:=r
   obtain⟨f1,f2,i2,f3,f4⟩:=hr3
   dsimp only at f1 f2 f3 ⊢
   subst f2;subst f3
   refine .bind (aak (by decide) (by decide) he.tape f1) (λr hr3=>?_)
   obtain⟨x3,q3⟩:=r
   dsimp only at hr3 ⊢
   refine .bind (aaw (by simp only[app_len1];omega)) (λc2 hc2=>?_)
   subst hc2
   refine .bind (adF (by simp) (by simp only[app_len1];omega)) (λs2 hs2=>?_)
   subst hs2
   refine .one ⟨hr3.2.2,by simp,by simp,[i]++[i2]++[_],by simp only[List.append_assoc];rfl,((abw.one g4).app (.one f4)).app (.one (ahL hm h63 h64 hr.1 (by omega) ?_ ?_)),by simp⟩
   ·rw[acR (by omega) (by omega)];omega
   ·rw[acR (by omega) (by omega)];omega
  ·refine .bind (ae9 he hr2.2.2 (by omega) (by omega)) (λr hr3=>?_)
   obtain⟨q3,s3,c3⟩:=r
   obtain⟨g1,g2,i,g3,g4⟩:=hr3
   dsimp only at g1 g2 g3 ⊢
   subst g2;subst g3
   refine .bind (aak (by decide) (by decide) he.tape g1) (λr hr3=>?_)
   obtain⟨x3,q3⟩:=r
   dsimp only at hr3 ⊢
   refine .bind (aaw (by simp only[app_len1];omega)) (λc2 hc2=>?_)
   subst hc2
   refine .bind (agY (by simp) (by simp only[app_len1];omega) (by simp)) (λs2 hs2=>?_)
   subst hs2
   refine .one ⟨hr3.2.2,by simp,by simp,[i]++[_],by simp only[List.append_assoc];rfl,(abw.one g4).app (.one (ahL hm h63 h64 hr.1 (by omega) ?_ ?_)),by simp⟩
   ·rw[acR (by omega) (by omega)];omega
   ·rw[acR (by omega) (by omega)];omega
theorem ahF{α:Type}{l:List Int}{K:Nat->Option α}{P:α->Prop}(hl:1<=l.length)(hl2:l.length<=1000000)(h:Wp K P) :
  Wp (λk=>(if(0:Int)<=(isub .i64 (l.length:Int) 1)/\(0:Nat)<=((isub .i64 (l.length:Int) 1)).toNat/\(((isub .i64 (l.length:Int) 1)).toNat:Nat)<=l.length then(if(((isub .i64 (l.length:Int) 1)).toNat-0)<=l.length then K k else none)else none)) P:=by
 rw[aap (by omega) (by omega)]
 exact .pos ⟨by omega,by omega,by omega⟩ (.pos (by omega) h)
theorem ahi{α:Type}{l:List α}(hl:1<=l.length)(hl2:l.length<=1000000):List.take (((isub .i64 (l.length:Int) 1)).toNat-0) l=l.take (l.length-1):=by
 rw[aap (by omega) (by omega)]
 congr 1
 omega
theorem afm{n:Int}(h0:0<=n)(h1:n<4294967296):Fine ⟨65,0,0,icv .u64 n,[]⟩:=by
 rw[acR (by omega) (by omega)];exact .i32 h0 h1
theorem anu(he:Env T I G D OR tape F M L){h:Int}(hp:0<=p)(hs:s.length<=900000)(hc:c.length<=900000) :
  Wp (λk=>eJ.f k h T I G D OP OR left tl tape p F M E L s lb c) (Adds s.length s.length 4 c):=by
 refine .succ ?_
 simp only[eJ.f]
 have hml:=he.ml
 refine .ite (λ_=>.one ⟨hp,by simp,by simp,[],by simp,.nil,by simp⟩) (λh0=>?_)
 have hdl:=he.dl (by rintro rfl;exact h0 rfl)
 refine .bind (aak (by omega) (by omega) he.tape hp) (λr hr=>?_)
 obtain⟨a,q⟩:=r
 dsimp only at hr ⊢
 refine .bind (aak (by omega) (by omega) he.tape hr.2.2) (λr hr2=>?_)
 obtain⟨b,q2⟩:=r
 dsimp only at hr2 ⊢
 refine .bind (aak (by decide) (by decide) he.tape hr2.2.2) (λr hr3=>?_)
 obtain⟨x,q3⟩:=r
 dsimp only at hr3 ⊢
 rw[aai (by omega) (by omega)]
 refine .ite (λhop=>?_) (λhop=>?_)
 ·refine .bind (aak (by omega) (by omega) he.tape hr3.2.2) (λr hr4=>?_)
  obtain⟨y,q4⟩:=r
  dsimp only at hr4 ⊢
  refine .bind (aaw (by omega)) (λc2 hc2=>?_)
  subst hc2
  rw[hop]
  exact .one ⟨hr4.2.2,by simp,by simp,_,rfl,.one (.dro hr4.1 (by omega)),by simp⟩
 ·refine .bind (ae9 he hr3.2.2 (by omega) (by omega)) (λr hr4=>?_)
  obtain⟨q4,s4,c4⟩:=r
  obtain⟨g1,g2,i,g3,g4⟩:=hr4
  dsimp only at g1 g2 g3 ⊢
  subst g2;subst g3
  refine .seg (Q:=λo=>0<=o.1/\o.2.1.length=s.length+1/\∃ cs,o.2.2=c++cs/\abw cs/\cs.length<=4) ?_ (λo ho=>?_)
  ·refine .ite (λhop2=>?_) (λhop2=>?_)
   ·refine .bind (aak (by decide) (by decide) he.tape g1) (λr hr5=>?_)
    obtain⟨y,q5⟩:=r
    dsimp only at hr5 ⊢
    refine .bind (aaw (by simp only[app_len1];omega)) (λc2 hc2=>?_)
    subst hc2
    refine .bind (aak (by decide) (by decide) he.tape hr5.2.2) (λr hr6=>?_)
    obtain⟨z,q6⟩:=r
    dsimp only at hr6 ⊢
    refine .bind (aaw (by simp only[app_len1];omega)) (λc2 hc2=>?_)
    subst hc2
    refine .bind (aak (by omega) (by omega) he.tape hr6.2.2) (λr hr7=>?_)
    obtain⟨w,q7⟩:=r
    dsimp only at hr7 ⊢
    refine .bind (aaw (by simp only[app_len1];omega)) (λc2 hc2=>?_)
    subst hc2
    rw[hop2]
    exact .left ⟨hr7.2.2,by simp,[i]++[_]++[_]++[_],by simp only[List.append_assoc],(((abw.one g4).app (.one (afm hr5.1 (by omega)))).app (.one (afm hr6.1 (by omega)))).app (.one (.ini hr.1 (by omega) hr7.1 (by omega))),by simp⟩
   ·refine .bind (ae9 he g1 (by rw[app_len1];omega) (by rw[app_len1];omega)) (λr hr4=>?_)
    obtain⟨q5,s5,c5⟩:=r
    obtain⟨f1,f2,j,f3,f4⟩:=hr4
    dsimp only at f1 f2 f3 ⊢
    subst f2;subst f3
    refine ahF (by simp) (by simp only[app_len1];omega) ?_
    rw[ahi (by simp) (by simp only[app_len1];omega)]
    refine .bind (aak (by decide) (by decide) he.tape f1) (λr hr5=>?_)
    obtain⟨y,q5⟩:=r
    dsimp only at hr5 ⊢
    refine .bind (aaw (by simp only[app_len1];omega)) (λc2 hc2=>?_)
    subst hc2
    refine .seg (Q:=λo=>Fine ⟨64520+x,a,o,0,[]⟩) ?_ (λo ho=>?_)
    ·refine .ite (λh3=>.left ?_) (λh3=>.left ?_)
     ·rw[h3];exact .fil hr.1 (by omega)
     ·rw[show 64520+x=64522 by omega];exact .cop hr.1 (by omega) hr2.1 (by omega)
    ·refine .bind (aaw (by simp only[app_len1];omega)) (λc2 hc2=>?_)
     subst hc2
     exact .left ⟨hr5.2.2,by simp,[i]++[j]++[_]++[_],by simp only[List.append_assoc],(((abw.one g4).app (.one f4)).app (.one (afm hr5.1 (by omega)))).app (.one ho),by simp⟩
  ·obtain⟨q6,s6,c6⟩:=o
   obtain⟨k1,k2,cs,k3,k4,k5⟩:=ho
   dsimp only at k1 k2 k3 ⊢
   refine ahF (by omega) (by omega) ?_
   rw[ahi (by omega) (by omega)]
   exact .one ⟨k1,by simp;omega,by simp;omega,cs,k3,k4,k5⟩
theorem ac1(he:Env T I G D OR tape F M L){l:List Int}{h:Int}(hp:0<=p)(hh:0<=h)(hhs:h<=s.length)(hs:s.length<=400000)(hc:c.length<=400000)(hl:l.length<=100) :
  Wp (λk=>aY.f k l h T I G D OP OR left tl tape p F M E L s lb c) (Adds (h.toNat+l.length) (h.toNat+l.length) (s.length-h.toNat+l.length) c):=by
 refine .succ ?_
 simp only[aY.f]
 have l1:∀ b:Nat->(List Int×List ag)->Option ((List Int×List ag)⊕(List Int×List ag)),b=(λk=>aY.b1 k h T I G D OP OR left tl tape p F M E L lb) →
   Wp (λk=>loopS (b k) k (s,c)) (λr=>(r.1.length:Int)=h/\∃ cs,r.2=c++cs/\abw cs/\cs.length<=s.length-h.toNat):=by
  rintro b rfl
  refine .loop (λ(n:Nat) v=>(v.1.length:Int)=h+n/\∃ cs,v.2=c++cs/\abw cs/\cs.length+n=s.length-h.toNat) (λn v hv=>?_) (n:=s.length-h.toNat) ⟨by dsimp only;omega,[],by simp,.nil,by simp⟩
  obtain⟨s1,c1⟩:=v
  obtain⟨v1,cs,v2,v3,v4⟩:=hv
  dsimp only at v1 v2 ⊢
  simp only[aY.b1]
  refine .ite (λhgt=>?_) (λhgt=>.right ⟨by dsimp only;omega,cs,v2,v3,by omega⟩)
  refine .bind (aaw (by subst v2;rw[List.length_append];omega)) (λc2 hc2=>?_)
  subst hc2
  refine ahF (by omega) (by omega) ?_
  rw[ahi (by omega) (by omega)]
  refine .left ⟨n-1,by omega,?_,cs++[_],by dsimp only;rw[v2,List.append_assoc],v3.app (.one (.bare (.inl rfl))),?_⟩
  ·simp;omega
  ·simp;omega
 have l2:∀ {s1:List Int}{c1:List ag}{b:Nat->(Int×Int×List Int×List ag)->Option ((Int×Int×List Int×List ag)⊕(Int×List Int×List ag))},s1.length<=800000->c1.length<=800000->b=(λk=>aY.b5 k l T I G D OP OR left tl tape F M E L lb) →
   Wp (λk=>loopS (b k) k (0,p,s1,c1)) (Adds (s1.length+l.length) (s1.length+l.length) l.length c1):=by
  rintro s1 c1 b hs1 hc1 rfl
  refine .loop (Row p s1 c1 l) (λn v hv=>?_) (n:=l.length) ⟨by simp,by simp,hp,by simp,[],by simp,.nil,by simp⟩
  obtain⟨i,q,s2,c2⟩:=v
  simp only[aY.b5]
  obtain⟨v1,v2,v3,v4,cs,v5,v6,v7⟩:=id hv
  dsimp only at v1 v2 v3 v4 v5 v7
  refine .ite (λhi=>?_) (λhi=>.right (hv.last hi))
  refine .bind (.idx v1 hi) (λe _=>?_)
  refine .bind (abG he v3 (by omega) (by subst v5;simp only[List.length_append];omega)) (λr hr=>?_)
  obtain⟨x,y,z⟩:=r
  exact .left (Row.next (p:=p) (by omega) hv hi ⟨hr.1,⟨e,hr.2.1⟩,hr.2.2⟩)
 have fin:∀ {r:List Int×List ag}{r2:Int×List Int×List ag},((r.1.length:Int)=h/\∃ cs,r.2=c++cs/\abw cs/\cs.length<=s.length-h.toNat)->Adds (r.1.length+l.length) (r.1.length+l.length) l.length r.2 r2 →
   Adds (h.toNat+l.length) (h.toNat+l.length) (s.length-h.toNat+l.length) c r2:=by
  rintro r r2 ⟨h1,cs,h2,h3,h4⟩ ⟨g1,g2,g3,cs2,g4,g5,g6⟩
  refine⟨g1,by omega,by omega,cs++cs2,by rw[g4,h2,List.append_assoc],h3.app g5,by rw[List.length_append];omega⟩
 refine .ite (λhe1=>?_) (λ_=>?_)
 ·refine .bind (akb hh hhs (by omega) (by omega)) (λb hb=>?_)
  rw[aap (by omega) (by omega)]at he1
  refine .ite (λhq=>.one ⟨hp,by dsimp only;omega,by dsimp only;omega,[],by simp,.nil,by simp⟩) (λ_=>?_)
  refine .bind (l1 _ rfl) (λr hr=>?_)
  obtain⟨s1,c1⟩:=r
  have hr':=hr
  obtain⟨h1,cs,h2,h3,h4⟩:=hr'
  dsimp only at h1 h2 ⊢
  refine .bind (l2 (by omega) (by rw[h2,List.length_append];omega) rfl) (λr2 hr2=>?_)
  obtain⟨x,y,z⟩:=r2
  exact .one (fin hr hr2)
 ·refine .bind (l1 _ rfl) (λr hr=>?_)
  obtain⟨s1,c1⟩:=r
  have hr':=hr
  obtain⟨h1,cs,h2,h3,h4⟩:=hr'
  dsimp only at h1 h2 ⊢
  refine .bind (l2 (by omega) (by rw[h2,List.length_append];omega) rfl) (λr2 hr2=>?_)
  obtain⟨x,y,z⟩:=r2
  exact .one (fin hr hr2)
theorem ank(he:Env T I G D OR tape F M L){h:Int}(hp:0<=p)(hh:0<=h)(hhs:h<=s.length)(hs:s.length<=900000)(hc:c.length<=900000) :
  Wp (λk=>eK.f k h T I G D OP OR left tl tape p F M E L s lb c) (Adds h.toNat (s.length+5) 3 c):=by
 refine .succ ?_
 simp only[eK.f]
 have hil:=he.il;have hfl:=he.fl
 rw[aai (by omega) (by omega),hil]
 refine .bind (aak (by omega) (by omega) he.tape hp) (λr hr=>?_)
 obtain⟨a,q⟩:=r
 dsimp only at hr ⊢
 refine .bind (ahU he hr.1 (by omega)) (λr hr2=>?_)
 obtain⟨t,ok⟩:=r
 dsimp only at hr2 ⊢
 obtain⟨ht1,ht2⟩:=he.ty t hr2.1
 refine .bind (abX he hr.2.2 hh hhs hs hc (by omega)) (λr hr3=>?_)
 obtain⟨q2,s2,c2⟩:=r
 obtain⟨g0,g1,g2,g3,cs,g4,g5,g6⟩:=hr3
 dsimp only at g0 g1 g2 g3 g4 ⊢
 refine .bind (aaw (by rw[g4,List.length_append];omega)) (λc3 hc3=>?_)
 subst hc3
 refine .bind (amr (by omega) (by omega) (by omega)) (λs3 hs3=>?_)
 subst hs3
 refine .one ⟨g1,?_,?_,cs++[_],by dsimp only;rw[g4,List.append_assoc],g5.app (.one (.call (.inl rfl) hr.1 (by omega))),by rw[app_len1];omega⟩
 ·simp;omega
 ·simp;omega
theorem ajy(he:Env T I G D OR tape F M L){h:Int}(hp:0<=p)(hh:0<=h)(hhs:h<=s.length)(hs:s.length<=900000)(hc:c.length<=900000) :
  Wp (λk=>eC.f k h T I G D OP OR left tl tape p F M E L s lb c) (Adds h.toNat h.toNat 2 c):=by
 refine .succ ?_
 simp only[eC.f]
 refine .pos ⟨hh,by omega,by omega⟩ (.pos (by omega) ?_)
 refine .bind (aak (by decide) (by decide) he.tape hp) (λr hr=>?_)
 obtain⟨a,q⟩:=r
 dsimp only at hr ⊢
 refine .ite (λ_=>?_) (λ_=>.one ⟨hr.2.2,by simp;omega,by simp;omega,[],by simp,.nil,by simp⟩)
 refine .bind (aak (by decide) (by decide) he.tape hr.2.2) (λr hr2=>?_)
 obtain⟨x,q2⟩:=r
 dsimp only at hr2 ⊢
 refine .pos ⟨hr2.1,hr2.2.1⟩ (.bind (.get (by simp;omega)) (λo ho=>?_))
 have hm:=List.mem_of_getElem? ho
 refine .bind (aaw (by omega)) (λc2 hc2=>?_)
 subst hc2
 refine .bind (aaw (by simp only[app_len1];omega)) (λc2 hc2=>?_)
 subst hc2
 refine .one ⟨hr2.2.2,by simp;omega,by simp;omega,_,List.append_assoc ..,(abw.one ?_).app (.one (.bare (by simp))),by simp⟩
 simp only[List.mem_cons,List.not_mem_nil,or_false]at hm
 rcases hm with rfl | hm
 ·exact .bare (.inl rfl)
 ·refine .num ?_
  rcases hm with rfl | rfl | rfl | rfl | rfl <;> decide
theorem alJ(he:Env T I G D OR tape F M L){h:Int}(hp:0<=p)(hh:0<=h)(hhs:h<=s.length)(hs:s.length<=400000)(hc:c.length<=400000)(hlb:1<=lb.length)(hlb7:lb.length<=7)(hl3:∀ l∈lb,l.length<=3) :
  Wp (λk=>dq.f k h T I G D OP OR left tl tape p F M E L s lb c) (λr=>Adds h.toNat s.length 20 c r.2):=by
 refine .succ ?_
 simp only[dq.f]
 have hil:=he.il;have hfl:=he.fl;have hrl:=he.rl
 have same:∀ {q:Int}{b:Bool},0<=q->Adds h.toNat s.length 20 c (b,q,s,c).2:=λhq=>⟨hq,by dsimp only;omega,Nat.le_refl _,[],by simp,.nil,by simp⟩
 refine .seg (Q:=λo=>0<=o.1/\s.length<=o.2.1.length/\o.2.1.length<=s.length+10/\∃ cs,o.2.2=c++cs/\abw cs/\cs.length<=10) ?_ (λo ho=>?_)
 ·refine .bind (aak (by decide) (by decide) he.tape hp) (λr hr=>?_)
  obtain⟨x,q⟩:=r
  dsimp only at hr ⊢
  refine .seg (Q:=λ_=>True) (.ite (λ_=>.left trivial) (λ_=>.ite (λ_=>.left trivial) (λ_=>.left trivial))) (λb _=>?_)
  refine .ite (λ_=>?_) (λ_=>.ite (λ_=>?_) (λ_=>.ite (λ_=>?_) (λ_=>.ite (λ_=>?_) (λ_=>?_))))
  ·refine .bind (aak (by omega) (by omega) he.tape hr.2.2) (λr hr2=>?_)
   obtain⟨a,q2⟩:=r
   dsimp only at hr2 ⊢
   rw[aap (a:=(lb.length:Int)) (by omega) (by omega),aap (by omega) (by omega)]
   refine .pos ⟨by omega,by omega⟩ (.bind (.get (by omega)) (λl hl=>?_))
   have hl':=hl3 l (List.mem_of_getElem? hl)
   refine .bind (abX he hr2.2.2 hh hhs (by omega) (by omega) (by omega)) (λr hr3=>?_)
   obtain⟨q3,s2,c2⟩:=r
   obtain⟨g0,g1,g2,g3,cs,g4,g5,g6⟩:=hr3
   dsimp only at g0 g1 g2 g3 g4 ⊢
   refine .bind (aaw (by rw[g4,List.length_append];omega)) (λc3 hc3=>?_)
   subst hc3
   exact .left ⟨g1,g2,by dsimp only;omega,cs++[_],by dsimp only;rw[g4,List.append_assoc],g5.app (.one (.br (.inl rfl) hr2.1 (by omega))),by rw[app_len1];omega⟩
  ·refine .bind (aak (by omega) (by omega) he.tape hr.2.2) (λr hr2=>?_)
   obtain⟨a,q2⟩:=r
   dsimp only at hr2 ⊢
   rw[aap (a:=(lb.length:Int)) (by omega) (by omega),aap (by omega) (by omega)]
   refine .pos ⟨by omega,by omega⟩ (.bind (.get (by omega)) (λl hl=>?_))
   have hl':=hl3 l (List.mem_of_getElem? hl)
   refine .bind (abX he hr2.2.2 hh hhs (by omega) (by omega) (by omega)) (λr hr3=>?_)
   obtain⟨q3,s2,c2⟩:=r
   obtain⟨g0,g1,g2,g3,cs,g4,g5,g6⟩:=hr3
   dsimp only at g0 g1 g2 g3 g4 ⊢
   refine .bind (Q:=λto=>to.length<=4/\∀ x∈to,(0:Int)<=x/\x<7) ?_ (λto hto=>?_)
   ·refine .loop (λ(n:Nat) (v:Int×List Int)=>0<=v.1/\v.1+(n:Int)=lb.length/\v.2.length<=4/\∀ x∈v.2,(0:Int)<=x/\x<7) (λn v hv=>?_) (n:=lb.length) ⟨by simp,by simp,by simp,by simp⟩
    obtain⟨j,to⟩:=v
    obtain⟨v1,v2,v3,v4⟩:=hv
    dsimp only at v1 v2 v3 v4
    simp only[dq.b16]
    refine .ite (λhj=>?_) (λ_=>.right ⟨v3,v4⟩)
    refine .ite (λh4=>?_) (λ_=>.right ⟨v3,v4⟩)
    refine .seg (Q:=λto=>to.length<=4/\∀ x∈to,(0:Int)<=x/\x<7) ?_ (λto hto=>?_)
    ·rw[aap (a:=(lb.length:Int)) (by omega) (by omega),aap (by omega) (by omega)]
     refine .pos ⟨by omega,by omega⟩ (.bind (.get (by omega)) (λl2 hl2=>?_))
     have hl2':=hl3 l2 (List.mem_of_getElem? hl2)
     refine .bind (ad7 (by omega)) (λb _=>?_)
     refine .ite (λ_=>.pos (aae (by omega) (by omega)) (.left ⟨by rw[app_len1];omega,?_⟩)) (λ_=>.left ⟨v3,v4⟩)
     intro x hx
     rcases List.mem_append.1 hx with h | h
     ·exact v4 x h
     ·rw[List.mem_singleton]at h;subst h;exact⟨v1,by omega⟩
    ·refine .left ⟨n-1,by omega,?_,?_,hto.1,hto.2⟩
     ·dsimp only;rw[aai (by omega) (by omega)];omega
     ·dsimp only;rw[aai (by omega) (by omega)];omega
   ·refine .bind (abG he g1 (by omega) (by rw[g4,List.length_append];omega)) (λr hr4=>?_)
    obtain⟨q4,s4,c4⟩:=r
    obtain⟨f1,f2,i2,f3,f4⟩:=hr4
    dsimp only at f1 f2 f3 ⊢
    subst f2;subst f3
    refine .pos (aae (by omega) (by omega)) (.bind (anT (by rw[app_len1,g4,List.length_append];omega)) (λc3 hc3=>?_))
    subst hc3
    refine .left ⟨f1,by rw[app_len1];omega,by rw[app_len1];omega,cs++[i2]++[⟨14,0,0,0,to++[a]⟩],by dsimp only;rw[g4];simp only[List.append_assoc],(g5.app (.one f4)).app (.one (.tab (by simp) (by rw[app_len1];omega) ?_)),by simp only[app_len1];omega⟩
    intro x hx
    rcases List.mem_append.1 hx with h | h
    ·exact hto.2 x h
    ·rw[List.mem_singleton]at h;subst h;exact⟨hr2.1,by omega⟩
  ·refine .bind (abX he hr.2.2 hh hhs (by omega) (by omega) (by omega)) (λr hr3=>?_)
   obtain⟨q3,s2,c2⟩:=r
   obtain⟨g0,g1,g2,g3,cs,g4,g5,g6⟩:=hr3
   dsimp only at g0 g1 g2 g3 g4 ⊢
   refine .bind (aaw (by rw[g4,List.length_append];omega)) (λc3 hc3=>?_)
   subst hc3
   exact .left ⟨g1,g2,by dsimp only;omega,cs++[_],by dsimp only;rw[g4,List.append_assoc],g5.app (.one (.bare (by simp))),by rw[app_len1];omega⟩
  ·refine .alt (Q:=λq=>(0:Int)<=q) (Q2:=λr=>Adds h.toNat s.length 20 c r) ?_ (λo ho=>.right (same ho)) (λo ho=>?_)
   ·refine .loop (λ(n:Nat) (v:Int×Int)=>0<=v.1/\v.1+(n:Int)=(I.length:Int)+F.length/\0<=v.2) (λn v hv=>?_) (n:=I.length+F.length) ⟨by simp,by simp,hr.2.2⟩
    obtain⟨j,q2⟩:=v
    obtain⟨v1,v2,v3⟩:=hv
    dsimp only at v1 v2 v3
    simp only[dq.b27]
    have hIF:iadd .i64 (I.length:Int) (F.length:Int)=(I.length:Int)+F.length:=aai (by omega) (by omega)
    rw[hIF]
    refine .ite (λhj=>?_) (λ_=>.right v3)
    refine .ite (λ_=>?_) (λ_=>.right v3)
    refine .bind (aak (by decide) (by decide) he.tape v3) (λr hr2=>?_)
    obtain⟨x2,q3⟩:=r
    dsimp only at hr2 ⊢
    have hx:0<=irem .i64 (iadd .i64 j x2) ((I.length:Int)+F.length)/\irem .i64 (iadd .i64 j x2) ((I.length:Int)+F.length)<(I.length:Int)+F.length:=by
     rw[aai (by omega) (by omega)]
     exact⟨Int.tmod_nonneg _ (by omega),Int.tmod_lt_of_pos _ (by omega)⟩
    generalize irem .i64 (iadd .i64 j x2) ((I.length:Int)+F.length)=y at hx
    refine .pos (by omega) ?_
    refine .bind (ahU he hx.1 (by omega)) (λr hr4=>?_)
    obtain⟨t,ok⟩:=r
    dsimp only at hr4 ⊢
    obtain⟨ht1,ht2⟩:=he.ty t hr4.1
    refine .bind (ad7 (by omega)) (λb _=>?_)
    refine .ite (λ_=>?_) (λ_=>?_)
    ·refine .bind (abX he hr2.2.2 hh hhs (by omega) (by omega) (by omega)) (λr hr3=>?_)
     obtain⟨q5,s2,c2⟩:=r
     obtain⟨g0,g1,g2,g3,cs,g4,g5,g6⟩:=hr3
     dsimp only at g0 g1 g2 g3 g4 ⊢
     refine .bind (aaw (by rw[g4,List.length_append];omega)) (λc3 hc3=>?_)
     subst hc3
     refine .bind (ajy he g1 hh (by omega) (by omega) (by rw[app_len1,g4,List.length_append];omega)) (λr hr5=>?_)
     obtain⟨q6,s3,c3⟩:=r
     obtain⟨f1,f2,f3,cs2,f4,f5,f6⟩:=hr5
     dsimp only at f1 f2 f3 f4 ⊢
     refine .right ⟨f1,f2,by dsimp only;omega,cs++[_]++cs2,by dsimp only;rw[f4,g4];simp only[List.append_assoc],(g5.app (.one (.call (.inr rfl) hx.1 (by omega)))).app f5,by simp only[List.length_append,List.length_cons,List.length_nil];omega⟩
    ·refine .left ⟨n-1,by omega,?_,?_,hr2.2.2⟩
     ·dsimp only;rw[aai (by omega) (by omega)];omega
     ·dsimp only;rw[aai (by omega) (by omega)];omega
   ·obtain⟨q6,s3,c3⟩:=o
    exact .right ho
  ·refine .bind (aak (by decide) (by decide) he.tape hr.2.2) (λr hr2=>?_)
   obtain⟨a,q2⟩:=r
   dsimp only at hr2 ⊢
   refine .ite (λ_=>.right (same hr2.2.2)) (λ_=>?_)
   refine .bind (aaw (by omega)) (λc3 hc3=>?_)
   subst hc3
   exact .left ⟨hr2.2.2,by simp,by simp,_,rfl,.one (.bare (by simp)),by simp⟩
 ·obtain⟨q,s2,c2⟩:=o
  obtain⟨g1,g2,g3,cs,g4,g5,g6⟩:=ho
  dsimp only at g1 g2 g3 g4 ⊢
  refine .bind (ajy he g1 hh (by omega) (by omega) (by rw[g4,List.length_append];omega)) (λr hr5=>?_)
  obtain⟨q6,s3,c3⟩:=r
  obtain⟨f1,f2,f3,cs2,f4,f5,f6⟩:=hr5
  dsimp only at f1 f2 f3 f4 ⊢
  exact .one ⟨f1,f2,by dsimp only;omega,cs++cs2,by dsimp only;rw[f4,g4,List.append_assoc],g5.app f5,by rw[List.length_append];omega⟩
theorem agA(he:Env T I G D OR tape F M L){h:Int}(hp:0<=p)(hh:0<=h)(hhs:h<=s.length)(hs:s.length<=400000)(hc:c.length<=400000)(hlb:1<=lb.length)(hlb7:lb.length<=7)(hl3:∀ l∈lb,l.length<=3) :
  Wp (λk=>dF.f k h T I G D OP OR left tl tape p F M E L s lb c) (Adds s.length (s.length+3) 5 c):=by
 refine .succ ?_
 simp only[dF.f]
 refine .bind (aak (by omega) (by omega) he.tape hp) (λr hr2=>?_)
 obtain⟨a,q2⟩:=r
 dsimp only at hr2 ⊢
 rw[aap (a:=(lb.length:Int)) (by omega) (by omega),aap (by omega) (by omega)]
 refine .pos ⟨by omega,by omega⟩ (.bind (.get (by omega)) (λl hl=>?_))
 have hl':=hl3 l (List.mem_of_getElem? hl)
 refine .bind (abX he hr2.2.2 hh hhs (by omega) (by omega) (by omega)) (λr hr3=>?_)
 obtain⟨q3,s2,c2⟩:=r
 obtain⟨g0,g1,g2,g3,cs,g4,g5,g6⟩:=hr3
 dsimp only at g0 g1 g2 g3 g4 ⊢
 refine .bind (abG he g1 (by omega) (by rw[g4,List.length_append];omega)) (λr hr4=>?_)
 obtain⟨q4,s4,c4⟩:=r
 obtain⟨f1,f2,i2,f3,f4⟩:=hr4
 dsimp only at f1 f2 f3 ⊢
 subst f2;subst f3
 refine .bind (aaw (by rw[app_len1,g4,List.length_append];omega)) (λc3 hc3=>?_)
 subst hc3
 refine ahF (by simp) (by simp only[app_len1];omega) ?_
 rw[ahi (by simp) (by simp only[app_len1];omega)]
 exact .one ⟨f1,by simp;omega,by simp;omega,cs++[i2]++[_],by dsimp only;rw[g4];simp only[List.append_assoc],(g5.app (.one f4)).app (.one (.br (.inr rfl) hr2.1 (by omega))),by simp only[app_len1];omega⟩
abbrev END:ag:=⟨11,0,0,0,[]⟩
abbrev ELSE:ag:=⟨5,0,0,0,[]⟩
inductive Seq:Nat->List ag->Prop
 | nil {n:Nat}:Seq n []
 | one {n:Nat}{i:ag}:Fine i->Seq n [i]
 | app {n:Nat}{a b:List ag}:Seq n a->Seq n b->Seq n (a++b)
 | blk {n:Nat}{o a:Int}{b:List ag}:o=2∨o=3->-4<=a->a<9->Seq n b->Seq (n+1) (⟨o,a,0,0,[]⟩::(b++[END]))
 | ite {n:Nat}{a:Int}{b d:List ag}:-4<=a->a<9->Seq n b->Seq n d->Seq (n+1) (⟨4,a,0,0,[]⟩::(b++ELSE::(d++[END])))
theorem Seq.fine{n:Nat}:∀ {c:List ag},abw c->Seq n c
 | [],_=>.nil
 | i::c,h=>Seq.app (a:=[i]) (.one (h i (List.mem_cons_self ..))) (Seq.fine λj hj=>h j (List.mem_cons_of_mem _ hj))
theorem ao4(k:Nat):dY.f (k+300)=some opsL:=by kernel_rfl
theorem aoT:Wp (λk=>dY.f k) (· = opsL):=by
 refine .at_ 300 (λk hk=>?_) rfl
 obtain⟨k,rfl⟩:∃ j,k=j+300:=⟨k-300,by omega⟩
 exact ao4 k
def apf(op:Int):Bool:=match aO.f 5 op with
 | some (b,p,r)=>b&&decide (1<=p.length/\p.length<=2/\r.length=1)
 | none=>false
theorem anW(k:Nat):(opsL.all λo=>apf o&&decide (aO.f (k+5) o=aO.f 5 o))=true:=by kernel_rfl
theorem aiy{o:Int}(h:o∈opsL):Wp (λk=>aO.f k o) (λr=>r.1=true/\1<=r.2.1.length/\r.2.1.length<=2/\r.2.2.length=1):=by
 have h0:=λk=>List.all_eq_true.1 (anW k) o h
 have h1:=h0 0
 rw[Bool.and_eq_true]at h1
 unfold apf at h1
 split at h1
 ·rename_i b p r e
  rw[Bool.and_eq_true,decide_eq_true_eq]at h1
  refine .at_ 5 (λk hk=>?_) (P:=λr=>r.1=true/\1<=r.2.1.length/\r.2.1.length<=2/\r.2.2.length=1) (a:=(b,p,r)) h1.1
  obtain⟨k,rfl⟩:∃ j,k=j+5:=⟨k-5,by omega⟩
  have h2:=h0 k
  rw[Bool.and_eq_true,decide_eq_true_eq]at h2
  rw[h2.2,e]
 ·cases h1.1
def Aft(h hi d:Nat)(e:Int)(left:Int)(lb:List (List Int))(c:List ag)(r:Int×Int×List Int×List (List Int)×List ag):Prop:=
 0<=r.1/\r.1<=left/\0<=r.2.1/\h<=r.2.2.1.length/\r.2.2.1.length<=hi/\r.2.2.2.1=lb/\∃ cs,r.2.2.2.2=c++cs/\Seq d cs/\(cs.length:Int)<=200*(left-r.1)+e
def ahA(T:List af)(I:List ak)(G:List ai)(D:List aA)(OP OR:List Int)(tl:Bool)(tape:List Int)(F:List aj)(M:List au)(E:List ae)(L:List Int)(left:Int):Prop:=
 ∀ (h n p:Int) (s:List Int) (lb:List (List Int)) (c:List ag),0<=p->0<=h->h<=s.length->0<=n->n<=20->1<=lb.length->lb.length<=7->(∀ l∈lb,l.length<=3)->s.length<=1000*lb.length+100->(c.length:Int)+200*left<=100000 →
  Wp (λk=>ar.f k h n T I G D OP OR left tl tape p F M E L s lb c) (λr=>Aft h.toNat (s.length+8*n.toNat) (7-lb.length) 0 left lb c r.2)
theorem block_wp'(he:Env T I G D OR tape F M L){h:Int}(ih:∀ l,0<=l->l<=left->ahA T I G D OP OR tl tape F M E L l)(hl0:0<=left)(hp:0<=p)(hh:0<=h)(hhs:h<=s.length)(hlb:1<=lb.length)(hlb7:lb.length<=7)(hl3:∀ l∈lb,l.length<=3)
  (hs:s.length<=1000*lb.length+500) (hc:(c.length:Int)+200*left+150<=100000) :
  Wp (λk=>aU.f k h T I G D OP OR left tl tape p F M E L s lb c) (Aft h.toNat (s.length+6) (7-lb.length) 130 left lb c):=by
 refine .succ ?_
 simp only[aU.step,aU.F]
 have htl:=he.tl
 refine .ite (λ_=>.one ⟨hl0,Int.le_refl _,hp,by dsimp only;omega,by dsimp only;omega,rfl,[],by simp,.nil,by simp⟩) (λh6=>?_)
 rw[aai (a:=(T.length:Int)) (by omega) (by omega),htl]
 refine .bind (aak (by decide) (by decide) he.tape hp) (λr hr=>?_)
 obtain⟨a,q⟩:=r
 dsimp only at hr ⊢
 rw[aap (a:=a) (by omega) (by omega)]
 refine .bind (al0 he (by omega) (by omega)) (λr ht=>?_)
 obtain⟨t,ok⟩:=r
 dsimp only at ht ⊢
 refine .bind (aak (by decide) (by decide) he.tape hr.2.2) (λr hr2=>?_)
 obtain⟨x,q2⟩:=r
 dsimp only at hr2 ⊢
 rw[aai (a:=2) (b:=x) (by omega) (by omega)]
 refine .bind (abX he hr2.2.2 hh hhs (by omega) (by omega) (by omega)) (λr hr3=>?_)
 obtain⟨q3,s1,c1⟩:=r
 obtain⟨g0,g1,g2,g3,cs1,g4,g5,g6⟩:=hr3
 dsimp only at g0 g1 g2 g3 g4 ⊢
 refine .seg (Q:=λo=>0<=o.1/\o.2.1.length=s1.length/\∃ cs,o.2.2=c1++cs/\abw cs/\cs.length<=1) ?_ (λo ho=>?_)
 ·refine .ite (λ_=>?_) (λ_=>.left ⟨g1,rfl,[],by simp,.nil,by simp⟩)
  refine .bind (abG he g1 (by omega) (by rw[g4,List.length_append];omega)) (λr hr4=>?_)
  obtain⟨q4,s4,c4⟩:=r
  obtain⟨f1,f2,i2,f3,f4⟩:=hr4
  dsimp only at f1 f2 f3 ⊢
  subst f2;subst f3
  refine .bind (adF (by simp) (by rw[app_len1];omega)) (λs2 hs2=>?_)
  subst hs2
  exact .left ⟨f1,by simp,[i2],rfl,.one f4,by simp⟩
 ·obtain⟨q5,s2,c2⟩:=o
  obtain⟨k1,k2,cs2,k3,k4,k5⟩:=ho
  dsimp only at k1 k2 k3 ⊢
  have lc2:c2.length<=c.length+3:=by rw[k3,g4];simp only[List.length_append];omega
  refine .bind (aaw (by omega)) (λc3 hc3=>?_)
  have lc3:c3.length<=c.length+4:=by rw[hc3,app_len1];omega
  refine .seg (Q:=λl=>l.length<=3) (.ite (λ_=>.left (by omega)) (λ_=>.left (by omega))) (λl hl=>?_)
  refine .pos (aae (by omega) (by omega)) (.pos (aae (by omega) (by omega)) ?_)
  have hh':isub .i64 (s2.length:Int) (t.Params.length:Int)=((s2.length-t.Params.length:Nat):Int):=by rw[aap (by omega) (by omega)];omega
  rw[hh']
  generalize hH:s2.length-t.Params.length=H
  have hlb':(lb++[l]).length=lb.length+1:=by simp
  have hl3':∀ y∈lb++[l],y.length<=3:=by
   intro y hy
   rcases List.mem_append.1 hy with h | h
   ·exact hl3 y h
   ·rw[List.mem_singleton]at h;subst h;exact hl
  refine .seg (Q:=λo=>Aft H (s2.length+43) (6-lb.length) 50 left (lb++[l]) c3 o) ?_ (λo ho=>?_)
  ·refine .bind (aak (by decide) (by decide) he.tape k1) (λr hr5=>?_)
   obtain⟨n,q6⟩:=r
   dsimp only at hr5 ⊢
   rw[aai (a:=1) (by omega) (by omega)]
   refine .bind (ih left hl0 (Int.le_refl _) (H:Int) (1+n) q6 s2 (lb++[l]) c3 hr5.2.2 (by omega) (by omega) (by omega) (by omega) (by omega) (by omega) hl3' (by omega) (by omega)) (λr hr6=>?_)
   obtain⟨b,left2,q7,s3,lb3,c4⟩:=r
   obtain⟨m1,m2,m3,m4,m5,m6,cs3,m7,m8,m9⟩:=hr6
   dsimp only at m1 m2 m3 m4 m5 m6 m7 m9 ⊢
   rw[Int.toNat_natCast]at m4
   subst m6
   have e6:7-(lb++[l]).length=6-lb.length:=by omega
   rw[e6]at m8
   refine .ite (λ_=>?_) (λ_=>.left ⟨m1,m2,m3,m4,by dsimp only;omega,rfl,cs3,m7,m8,by dsimp only;omega⟩)
   refine .bind (ac1 he m3 (by omega) (by omega) (by omega) (by rw[m7,List.length_append];omega) (by omega)) (λr hr7=>?_)
   obtain⟨q8,s4,c5⟩:=r
   obtain⟨n1,n2,n3,cs4,n4,n5,n6⟩:=hr7
   rw[Int.toNat_natCast]at n2 n3 n6
   dsimp only at n1 n2 n3 n4 ⊢
   exact .left ⟨m1,m2,n1,by dsimp only;omega,by dsimp only;omega,rfl,cs3++cs4,by dsimp only;rw[n4,m7,List.append_assoc],m8.app (.fine n5),by dsimp only;rw[List.length_append];omega⟩
  ·obtain⟨left2,q7,s3,lb3,c4⟩:=o
   obtain⟨m1,m2,m3,m4,m5,m6,cs3,m7,m8,m9⟩:=ho
   dsimp only at m1 m2 m3 m4 m5 m6 m7 m9 ⊢
   subst m6
   have lc4:(c4.length:Int)=c3.length+cs3.length:=by rw[m7,List.length_append];omega
   refine .seg (Q:=λo=>0<=o.1/\o.1<=left2/\0<=o.2.1/\H<=o.2.2.1.length/\o.2.2.1.length<=s2.length+50/\o.2.2.2.1=lb++[l]/\∃ cs,o.2.2.2.2=c4++cs/\(cs.length:Int)<=200*(left2-o.1)+50/\(2+x=4/\(∃ d,cs=ELSE::d/\Seq (6-lb.length) d)∨2+x≠4/\cs=[])) ?_ (λo ho=>?_)
   ·refine .ite (λh4=>?_) (λh4=>.left ⟨m1,Int.le_refl _,m3,m4,by dsimp only;omega,rfl,[],by simp,by simp,.inr ⟨h4,rfl⟩⟩)
    refine .bind (aaw (by omega)) (λc5 hc5=>?_)
    have lc5:c5.length=c4.length+1:=by rw[hc5,app_len1]
    rw[cut_eq]
    refine .pos ⟨by omega,by omega,by omega⟩ (.pos (aae (by simp;omega) (by simp;omega)) (.pos (aae (by simp;omega) (by simp;omega)) ?_))
    refine .bind (aak (by decide) (by decide) he.tape m3) (λr hr5=>?_)
    obtain⟨n,q8⟩:=r
    dsimp only at hr5 ⊢
    have ls:((s3.take (H:Int).toNat)++t.Params).length=H+t.Params.length:=by simp;omega
    refine .bind (ih left2 m1 m2 (H:Int) n q8 (s3.take (H:Int).toNat++t.Params) (lb++[l]) c5 hr5.2.2 (by omega) (by omega) (by omega) (by omega) (by omega) (by omega) hl3' (by omega) (by omega)) (λr hr6=>?_)
    obtain⟨b,left3,q9,s4,lb4,c6⟩:=r
    obtain⟨o1,o2,o3,o4,o5,o6,cs4,o7,o8,o9⟩:=hr6
    dsimp only at o1 o2 o3 o4 o5 o6 o7 o9 ⊢
    rw[Int.toNat_natCast]at o4
    subst o6
    have e6:7-(lb++[l]).length=6-lb.length:=by omega
    rw[e6]at o8
    refine .ite (λ_=>?_) (λ_=>.left ⟨o1,o2,o3,o4,by dsimp only;omega,rfl,ELSE::cs4,by dsimp only;rw[o7,hc5,List.append_assoc];rfl,by rw[List.length_cons];dsimp only;omega,.inl ⟨h4,cs4,rfl,o8⟩⟩)
    refine .bind (ac1 he o3 (by omega) (by omega) (by omega) (by rw[o7,List.length_append];omega) (by omega)) (λr hr7=>?_)
    obtain⟨q10,s5,c7⟩:=r
    obtain⟨n1,n2,n3,cs5,n4,n5,n6⟩:=hr7
    rw[Int.toNat_natCast]at n2 n3 n6
    dsimp only at n1 n2 n3 n4 ⊢
    exact .left ⟨o1,o2,n1,by dsimp only;omega,by dsimp only;omega,rfl,ELSE::(cs4++cs5),by dsimp only;rw[n4,o7,hc5];simp only[List.append_assoc];rfl,by rw[List.length_cons,List.length_append];dsimp only;omega,.inl ⟨h4,_,rfl,o8.app (.fine n5)⟩⟩
   ·obtain⟨left4,q11,s6,lb6,c8⟩:=o
    obtain⟨u1,u2,u3,u4,u5,u6,cs6,u7,u9,u8⟩:=ho
    dsimp only at u1 u2 u3 u4 u5 u6 u7 u9 ⊢
    subst u6
    have hpop:isub .i64 ((lb++[l]).length:Int) 1=(lb.length:Int):=by rw[aap (by omega) (by omega)];omega
    rw[hpop]
    refine .pos ⟨by omega,by omega,by omega⟩ (.pos (by omega) ?_)
    refine .bind (aaw (by rw[u7,List.length_append];omega)) (λc9 hc9=>?_)
    rw[cut_eq]
    refine .pos ⟨by omega,by omega,by omega⟩ (.pos (aae (by simp;omega) (by simp;omega)) (.pos (aae (by simp;omega) (by simp;omega)) ?_))
    have htk:(lb++[l]).take ((lb.length:Int).toNat-0)=lb:=by
     rw[Int.toNat_natCast,Nat.sub_zero,List.take_append_of_le_length (Nat.le_refl _),List.take_length]
    obtain⟨D6,hD6⟩:∃ d,7-lb.length=d+1:=⟨6-lb.length,by omega⟩
    have e6:6-lb.length=D6:=by omega
    rw[e6]at m8 u8
    refine .one ⟨u1,by dsimp only;omega,u3,by simp;omega,by simp;omega,htk,(cs1++cs2)++(⟨2+x,a-4,0,0,[]⟩::(cs3++cs6++[END])),?_,?_,?_⟩
    ·dsimp only
     rw[hc9,u7,m7,hc3,k3,g4]
     simp only[List.append_assoc,List.cons_append,List.nil_append]
    ·rw[hD6]
     refine .app (.fine (g5.app k4)) ?_
     rcases u8 with⟨h4,d,rfl,hd⟩ | ⟨h4,rfl⟩
     ·rw[h4]
      have:=Seq.ite (a:=a-4) (by omega) (by omega) m8 hd
      simpa only[List.append_assoc,List.cons_append,List.nil_append]using this
     ·rw[List.append_nil]
      exact .blk (by omega) (by omega) (by omega) m8
    ·simp only[List.length_append,List.length_cons,List.length_nil]
     omega
theorem Adds.aft{h hi n:Nat}{r:Int×List Int×List ag}{h' hi':Nat}{d:Nat}{e left:Int}{lb:List (List Int)}{c:List ag}{b:Bool}(ha:Adds h hi n c r)(hl:0<=left)(h1:h'<=h)(h2:hi<=hi')(h3:(n:Int)<=e) :
  Aft h' hi' d e left lb c (b,left,r.1,r.2.1,lb,r.2.2).2:=by
 obtain⟨a1,a2,a3,cs,a4,a5,a6⟩:=ha
 exact⟨hl,Int.le_refl _,a1,by dsimp only;omega,by dsimp only;omega,rfl,cs,a4,.fine a5,by dsimp only;omega⟩
theorem ahm{x:Int}(h0:0<=x)(h1:x<3){β:Type}{K:Nat->Int->Option β}{P:β->Prop}(h:∀ e,Wp (λk=>K k e) P):Wp (λk=>(if(0:Int)<=x/\x<(3:Int)then(([(127:Int),(126:Int),(124:Int)]:List Int)[(x).toNat]?.bind λe=>K k e)else none)) P:=
 .pos ⟨h0,h1⟩ (.bind (.get (by simp;omega)) (λe _=>h e))
theorem aoJ(he:Env T I G D OR tape F M L){h:Int}(ih:∀ l,0<=l->l<=left->ahA T I G D OP OR tl tape F M E L l)(hl0:0<=left)(hp:0<=p)(hh:0<=h)(hhs:h<=s.length)(hlb:1<=lb.length)(hlb7:lb.length<=7)(hl3:∀ l∈lb,l.length<=3)
  (hs:s.length<=1000*lb.length+500) (hc:(c.length:Int)+200*left+150<=100000) :
  Wp (λk=>cA.f k h T I G D OP OR left tl tape p F M E L s lb c) (λr=>Aft h.toNat (s.length+8) (7-lb.length) 130 left lb c r.2):=by
 refine .succ ?_
 simp only[cA.step,cA.F]
 have hll:=he.ll;have hgl:=he.gl
 have same:∀ {q:Int}{b:Bool},0<=q->Aft h.toNat (s.length+8) (7-lb.length) 130 left lb c (b,left,q,s,lb,c).2:=λhq=>⟨hl0,Int.le_refl _,hq,by dsimp only;omega,by dsimp only;omega,rfl,[],by simp,.nil,by simp⟩
 refine .bind (aak (by decide) (by decide) he.tape hp) (λr hr=>?_)
 obtain⟨x,q⟩:=r
 dsimp only at hr ⊢
 refine .seg (Q:=λ_=>True) (.ite (λ_=>.left trivial) (λ_=>.ite (λ_=>.left trivial) (λ_=>.ite (λ_=>.left trivial) (λ_=>.ite (λ_=>.left trivial) (λ_=>.left trivial))))) (λb _=>?_)
 refine .ite (λ_=>?_) (λ_=>.ite (λ_=>?_) (λ_=>.ite (λ_=>?_) (λ_=>.ite (λ_=>?_) (λ_=>?_))))
 ·refine .bind aoT (λl hl=>?_)
  subst hl
  have hol:opsL.length=107:=rfl
  refine .bind (aak (by omega) (by omega) he.tape hr.2.2) (λr hr2=>?_)
  obtain⟨a,q2⟩:=r
  dsimp only at hr2 ⊢
  refine .pos ⟨hr2.1,hr2.2.1⟩ (.bind (.get (by omega)) (λo ho=>?_))
  have hm:=List.mem_of_getElem? ho
  refine .bind (aiy hm) (λr hr3=>?_)
  obtain⟨b3,ps,rs⟩:=r
  dsimp only at hr3 ⊢
  refine .bind (afn he hr2.2.2 hh hhs (by omega) (by omega) (by omega)) (λr hr3=>?_)
  obtain⟨q3,s2,c2⟩:=r
  obtain⟨g0,g1,g2,g3,cs,g4,g5,g6⟩:=hr3
  dsimp only at g0 g1 g2 g3 g4 ⊢
  refine .bind (aaw (by rw[g4,List.length_append];omega)) (λc3 hc3=>?_)
  subst hc3
  refine .bind (agY (by omega) (by omega) (by omega)) (λs3 hs3=>?_)
  subst hs3
  refine .one ⟨hl0,Int.le_refl _,g1,by simp;omega,by simp;omega,rfl,cs++[_],by dsimp only;rw[g4,List.append_assoc],.fine (g5.app (.one (.num hm))),by dsimp only;rw[app_len1];omega⟩
 ·refine .bind (aak (by decide) (by decide) he.tape hr.2.2) (λr hr2=>?_)
  obtain⟨a,q2⟩:=r
  dsimp only at hr2 ⊢
  refine ahm hr2.1 hr2.2.1 (λe=>?_)
  refine .bind (abG he hr2.2.2 (by omega) (by omega)) (λr hr4=>?_)
  obtain⟨q4,s4,c4⟩:=r
  obtain⟨f1,f2,i2,f3,f4⟩:=hr4
  dsimp only at f1 f2 f3 ⊢
  subst f2;subst f3
  exact .one ⟨hl0,Int.le_refl _,f1,by simp;omega,by simp,rfl,_,rfl,.one f4,by simp⟩
 ·refine .ite (λhL=>?_) (λ_=>.one (same hr.2.2))
  refine .bind (aak (by omega) (by omega) he.tape hr.2.2) (λr hr2=>?_)
  obtain⟨a,q2⟩:=r
  dsimp only at hr2 ⊢
  refine .pos ⟨hr2.1,hr2.2.1⟩ (.bind (.get (by omega)) (λt ht=>?_))
  refine .bind (afn he hr2.2.2 hh hhs (by omega) (by omega) (by simp)) (λr hr3=>?_)
  obtain⟨q3,s2,c2⟩:=r
  obtain⟨g0,g1,g2,g3,cs,g4,g5,g6⟩:=hr3
  dsimp only[List.length_cons,List.length_nil]at g0 g1 g2 g3 g4 g6 ⊢
  refine .bind (aak (by decide) (by decide) he.tape g1) (λr hr4=>?_)
  obtain⟨y,q4⟩:=r
  dsimp only at hr4 ⊢
  refine .ite (λ_=>?_) (λ_=>?_)
  ·refine .bind (aaw (by rw[g4,List.length_append];omega)) (λc3 hc3=>?_)
   subst hc3
   exact .one ⟨hl0,Int.le_refl _,hr4.2.2,by dsimp only;omega,by dsimp only;omega,rfl,cs++[_],by dsimp only;rw[g4,List.append_assoc],.fine (g5.app (.one (.loc (by simp) hr2.1 (by omega)))),by dsimp only;rw[app_len1];omega⟩
  ·refine .bind (aaw (by rw[g4,List.length_append];omega)) (λc3 hc3=>?_)
   subst hc3
   refine .pos ⟨hr2.1,hr2.2.1⟩ (.bind (.get (by omega)) (λt2 _=>?_))
   refine .bind (adF (by simp;omega) (by omega)) (λs3 hs3=>?_)
   subst hs3
   exact .one ⟨hl0,Int.le_refl _,hr4.2.2,by simp;omega,by simp;omega,rfl,cs++[_],by dsimp only;rw[g4,List.append_assoc],.fine (g5.app (.one (.loc (by simp) hr2.1 (by omega)))),by dsimp only;rw[app_len1];omega⟩
 ·refine .bind (aak (by decide) (by decide) he.tape hr.2.2) (λr hr2=>?_)
  obtain⟨a,q2⟩:=r
  dsimp only at hr2 ⊢
  refine .bind (.idx hr2.1 (by omega)) (λe _=>?_)
  refine .bind (afn he hr2.2.2 hh hhs (by omega) (by omega) (by simp)) (λr hr3=>?_)
  obtain⟨q3,s2,c2⟩:=r
  obtain⟨g0,g1,g2,g3,cs,g4,g5,g6⟩:=hr3
  dsimp only[List.length_cons,List.length_nil]at g0 g1 g2 g3 g4 g6 ⊢
  refine .bind (aaw (by rw[g4,List.length_append];omega)) (λc3 hc3=>?_)
  subst hc3
  refine .bind (adF (by simp;omega) (by omega)) (λs3 hs3=>?_)
  subst hs3
  exact .one ⟨hl0,Int.le_refl _,g1,by simp;omega,by simp;omega,rfl,cs++[_],by dsimp only;rw[g4,List.append_assoc],.fine (g5.app (.one (.glo (by simp) hr2.1 (by omega)))),by dsimp only;rw[app_len1];omega⟩
 ·refine .seg (Q:=λ_=>True) (.ite (λ_=>.left trivial) (λ_=>.ite (λ_=>.left trivial) (λ_=>.left trivial))) (λb _=>?_)
  refine .ite (λ_=>?_) (λ_=>.ite (λ_=>?_) (λ_=>?_))
  ·refine .bind (akN he hr.2.2 (by omega) (by omega)) (λr hr2=>?_)
   obtain⟨q2,s2,c2⟩:=r
   exact .one (hr2.aft (b:=true) hl0 (by omega) (by omega) (by omega))
  ·refine .bind (anu he hr.2.2 (by omega) (by omega)) (λr hr2=>?_)
   obtain⟨q2,s2,c2⟩:=r
   exact .one (hr2.aft (b:=true) hl0 (by omega) (by omega) (by omega))
  ·refine .seg (Q:=λ_=>True) (.ite (λ_=>.left trivial) (λ_=>.ite (λ_=>.left trivial) (λ_=>.left trivial))) (λb _=>?_)
   refine .ite (λ_=>?_) (λ_=>.ite (λ_=>?_) (λ_=>.ite (λ_=>?_) (λ_=>.ite (λ_=>?_) (λ_=>?_))))
   ·refine .bind (block_wp' he ih hl0 hr.2.2 hh hhs hlb hlb7 hl3 hs hc) (λr hr2=>?_)
    obtain⟨l2,q2,s2,lb2,c2⟩:=r
    obtain⟨m1,m2,m3,m4,m5,m6,m7⟩:=hr2
    exact .one ⟨m1,m2,m3,m4,by dsimp only at m5 ⊢;omega,m6,m7⟩
   ·refine .bind (ank he hr.2.2 hh hhs (by omega) (by omega)) (λr hr2=>?_)
    obtain⟨q2,s2,c2⟩:=r
    exact .one (hr2.aft (b:=true) hl0 (by omega) (by omega) (by omega))
   ·refine .bind (alJ he hr.2.2 hh hhs (by omega) (by omega) hlb hlb7 hl3) (λr hr2=>?_)
    obtain⟨b2,q2,s2,c2⟩:=r
    exact .one (Adds.aft (b:=b2) hr2 hl0 (by omega) (by omega) (by omega))
   ·refine .bind (agA he hr.2.2 hh hhs (by omega) (by omega) hlb hlb7 hl3) (λr hr2=>?_)
    obtain⟨q2,s2,c2⟩:=r
    exact .one (hr2.aft (b:=true) hl0 (by omega) (by omega) (by omega))
   ·refine .bind (aak (by decide) (by decide) he.tape hr.2.2) (λr hr2=>?_)
    obtain⟨a,q2⟩:=r
    dsimp only at hr2 ⊢
    refine ahm hr2.1 hr2.2.1 (λe=>?_)
    refine .bind (afn he hr2.2.2 hh hhs (by omega) (by omega) (by simp)) (λr hr3=>?_)
    obtain⟨q3,s2,c2⟩:=r
    obtain⟨g0,g1,g2,g3,cs,g4,g5,g6⟩:=hr3
    dsimp only[List.length_cons,List.length_nil]at g0 g1 g2 g3 g4 g6 ⊢
    refine .bind (aaw (by rw[g4,List.length_append];omega)) (λc3 hc3=>?_)
    subst hc3
    refine .bind (agY (by simp;omega) (by omega) (by simp)) (λs3 hs3=>?_)
    subst hs3
    exact .one ⟨hl0,Int.le_refl _,g1,by simp;omega,by simp;omega,rfl,cs++[_],by dsimp only;rw[g4,List.append_assoc],.fine (g5.app (.one (.bare (by simp)))),by dsimp only;rw[app_len1];omega⟩
theorem alm(he:Env T I G D OR tape F M L):∀ n:Nat,∀ l:Int,0<=l->l<n->ahA T I G D OP OR tl tape F M E L l:=by
 intro n
 induction n with
 | zero=>intro l h0 h1;omega
 | succ n ihn=>
  intro left hl0 hln h n p s lb c hp hh hhs hn hn20 hlb hlb7 hl3 hs hc
  refine .succ ?_
  simp only[ar.step,ar.F]
  refine .alt (Q:=Aft h.toNat (s.length+8*n.toNat) (7-lb.length) 0 left lb c) (Q2:=Aft h.toNat (s.length+8*n.toNat) (7-lb.length) 0 left lb c) ?_ (λo ho=>?_) (λo ho=>?_)
  ·refine .loop (λ(m:Nat) (v:Int×Int×Int×List Int×List (List Int)×List ag)=>0<=v.1/\v.1+(m:Int)=n/\Aft h.toNat (s.length+8*v.1.toNat) (7-lb.length) 0 left lb c v.2) (λm v hv=>?_) (n:=n.toNat)
    ⟨by simp,by simp;omega,hl0,Int.le_refl _,hp,by dsimp only;omega,by simp,rfl,[],by simp,.nil,by simp⟩
   obtain⟨i,left1,p1,s1,lb1,c1⟩:=v
   obtain⟨v1,v2,m1,m2,m3,m4,m5,m6,cs,m7,m8,m9⟩:=hv
   dsimp only at v1 v2 m1 m2 m3 m4 m5 m6 m7 m9
   subst m6
   simp only[ar.b2]
   have out:Aft h.toNat (s.length+8*n.toNat) (7-lb1.length) 0 left lb1 c (left1,p1,s1,lb1,c1):=⟨m1,m2,m3,m4,by dsimp only;omega,rfl,cs,m7,m8,m9⟩
   refine .ite (λhin=>?_) (λ_=>.right (Q:=_) (P:=aaJ _ _) out)
   refine .ite (λhgt=>?_) (λ_=>.right (Q:=_) (P:=aaJ _ _) out)
   rw[aap (by omega) (by omega)]
   have lc1:(c1.length:Int)=c.length+cs.length:=by rw[m7,List.length_append];omega
   refine .bind (aoJ he (λl a b=>ihn l a (by omega)) (by omega) m3 hh (by omega) hlb hlb7 hl3 (by omega) (by omega)) (λr hr=>?_)
   obtain⟨b,left2,p2,s2,lb2,c2⟩:=r
   obtain⟨o1,o2,o3,o4,o5,o6,cs2,o7,o8,o9⟩:=hr
   dsimp only at o1 o2 o3 o4 o5 o6 o7 o9 ⊢
   subst o6
   refine .ite (λ_=>.right (Q:=_) (P:=aaJ _ _) ?_) (λ_=>.left ⟨m-1,by omega,?_,?_,?_⟩)
   ·exact⟨o1,by dsimp only;omega,o3,o4,by dsimp only;omega,rfl,cs++cs2,by dsimp only;rw[o7,m7,List.append_assoc],m8.app o8,by dsimp only;rw[List.length_append];omega⟩
   ·dsimp only;rw[aai (by omega) (by omega)];omega
   ·dsimp only;rw[aai (by omega) (by omega)];omega
   ·refine⟨o1,by dsimp only;omega,o3,o4,?_,rfl,cs++cs2,by dsimp only;rw[o7,m7,List.append_assoc],m8.app o8,by dsimp only;rw[List.length_append];omega⟩
    dsimp only;rw[aai (by omega) (by omega)];omega
  ·obtain⟨a1,a2,a3,a4,a5⟩:=o
   exact .one ho
  ·obtain⟨a1,a2,a3,a4,a5⟩:=o
   exact .one ho
theorem aoq(he:Env T I G D OR tape F M L)(hl:0<=left):ahA T I G D OP OR tl tape F M E L left:=alm he (left.toNat+1) left hl (by omega)
abbrev tys:List af:=[⟨[],[]⟩,⟨[127],[127]⟩,⟨[127,127],[127,127]⟩,⟨[126,124],[124]⟩,⟨[],[127,126,124]⟩,⟨[127],[127,126]⟩,⟨[124],[127]⟩,⟨[127,126],[]⟩,⟨[126],[126]⟩]
abbrev imps:List ak:=[(ak.mk (⟨#[104,111,115,116]⟩:ByteArray) (⟨#[111,110,101]⟩:ByteArray) (1:Int)),(ak.mk (⟨#[104,111,115,116]⟩:ByteArray) (⟨#[116,119,111]⟩:ByteArray) (7:Int))]
abbrev aoM:List ai:=[(ai.mk (127:Int) true (5:Int)),(ai.mk (126:Int) true (1099511627776:Int)),(ai.mk (124:Int) true (4611686018427387904:Int)),(ai.mk (127:Int) false (9:Int))]
def acJ(c:List ag):Prop:=c.length<=20000/\∃ b,c=b++[END]/\Seq 6 b
def Kind(t:Int):Prop:=t=127∨t=126∨t=124
def FnOk(f:aj):Prop:=0<=f.fType/\f.fType<9/\f.Locals.length<=3/\∀ t∈f.Locals,Kind t
def an7(m:au):Prop:=1<=m.Min/\m.Min<=2/\2<=m.Max/\m.Max<=4
def fexp(i:Nat):ae:=⟨(⟨#[102]⟩:ByteArray)++Utf8.encode (48+(i:Int)),0,2+(i:Int)⟩
structure ModOk(T:List af)(I:List ak)(G:List ai)(D:List aA)(F:List aj)(M:List au)(E:List ae):Prop where
 types:T=tys
 imports:I=imps
 globals:G=aoM
 mems:M.length<=3/\∀ m∈M,an7 m
 datas:(M=[]/\D=[]) ∨ ∃ a b:Int,0<=a/\a<M.length/\0<=b/\b<1000/\D=[⟨true,a,b,[97,99,116,105,118,101]⟩,⟨false,0,0,[112,97,115,115,105,118,101]⟩]
 funcs:1<=F.length/\F.length<=4/\∀ f∈F,FnOk f/\acJ f.Code
 exports:∃ g:Int,0<=g/\g<4/\E=(if M=[]then[]else[⟨(⟨#[109,101,109,111,114,121]⟩:ByteArray),2,(M.length:Int)-1⟩])++(List.range F.length).map fexp++[⟨(⟨#[103,108,111,98,97,108]⟩:ByteArray),3,g⟩]
theorem alB:Wp (λk=>dS.f k) (· = ([127],[127,127],[126,124],[124],[127,126,124],[127,126],[126])):=by
 refine .succ ?_
 simp only[dS.f]
 exact .one rfl
theorem ajf{f:Int}(he:Env T I G D OR tape F M L)(hF:∀ f∈F,f.Locals.length<=3)(h0:2<=f)(h1:f<2+F.length):Wp (λk=>dD.f k T I G D f F M E) (λr=>r.length<=5):=by
 refine .succ ?_
 simp only[dD.f]
 have hil:=he.il;have hfl:=he.fl
 refine .bind (ahU he (by omega) h1) (λr hr=>?_)
 obtain⟨t,ok⟩:=r
 obtain⟨h2,h3⟩:=hr
 dsimp only at h2 h3 ⊢
 subst h3
 have ht:=he.ty t h2
 rw[aap (by omega) (by omega)]
 refine .neg (by decide) (.neg (by omega) (.pos ⟨by omega,by omega⟩ (.bind (.get (by omega)) (λe hee=>?_))))
 have:=hF e (List.mem_of_getElem? hee)
 exact .pos (aae (by omega) (by omega)) (.pos (aae (by omega) (by omega)) (.one (by rw[List.length_append];omega)))
theorem enc0:(Utf8.encode (48+0)).size=1:=by kernel_rfl
theorem enc1:(Utf8.encode (48+1)).size=1:=by kernel_rfl
theorem enc2:(Utf8.encode (48+2)).size=1:=by kernel_rfl
theorem enc3:(Utf8.encode (48+3)).size=1:=by kernel_rfl
theorem an1{i:Int}(h0:0<=i)(h1:i<4):(Utf8.encode (48+i)).size=1:=by
 have:i=0∨i=1∨i=2∨i=3:=by omega
 rcases this with rfl | rfl | rfl | rfl
 ·exact enc0
 ·exact enc1
 ·exact enc2
 ·exact enc3
theorem aoF:(⟨#[102]⟩:ByteArray).size=1:=rfl
theorem amZ:∀ t∈tys,t.Params.length<=2/\t.Results.length<=3:=by
 intro t ht
 simp only[tys,List.mem_cons,List.not_mem_nil,or_false]at ht
 rcases ht with rfl | rfl | rfl | rfl | rfl | rfl | rfl | rfl | rfl <;> simp
theorem anS:∀ i∈imps,0<=i.fType/\i.fType<9:=by
 intro i hi
 simp only[imps,List.mem_cons,List.not_mem_nil,or_false]at hi
 rcases hi with rfl | rfl <;> decide
theorem akS{l:List Int}(hl:l.length<=bigN):Wp (λk=>aF.f k l) (λr=>ModOk r.1 r.2.1 r.2.2.1 r.2.2.2.1 r.2.2.2.2.1 r.2.2.2.2.2.1 r.2.2.2.2.2.2):=by
 refine .succ ?_
 simp only[aF.f]
 refine .bind alB (λr hr=>?_)
 subst hr
 dsimp only
 refine .bind (aak (by decide) (by decide) hl (Int.le_refl 0)) (λr hr=>?_)
 obtain⟨n,q⟩:=r
 dsimp only at hr ⊢
 refine .bind (Q:=λr=>0<=r.1/\(r.2.length:Int)=n/\∀ m∈r.2,an7 m) ?_ (λr hr2=>?_)
 ·refine .loop (λ(m:Nat) (v:Int×Int×List au)=>0<=v.1/\v.1+(m:Int)=n/\0<=v.2.1/\(v.2.2.length:Int)=v.1/\∀ m∈v.2.2,an7 m) (λm v hv=>?_) (n:=n.toNat) ⟨by simp,by simp;omega,hr.2.2,by simp,by simp⟩
  obtain⟨i,p1,ms⟩:=v
  obtain⟨v1,v2,v3,v4,v5⟩:=hv
  dsimp only at v1 v2 v3 v4 v5
  simp only[aF.b7]
  refine .ite (λhi=>?_) (λhi=>.right ⟨v3,by dsimp only;omega,v5⟩)
  refine .bind (aak (by decide) (by decide) hl v3) (λr hr3=>?_)
  obtain⟨a,q2⟩:=r
  dsimp only at hr3 ⊢
  refine .bind (aak (by decide) (by decide) hl hr3.2.2) (λr hr4=>?_)
  obtain⟨b,q3⟩:=r
  dsimp only at hr4 ⊢
  rw[aai (by omega) (by omega),aai (by omega) (by omega),aai (by omega) (by omega)]
  refine .pos (aae (by omega) (by omega)) (.left ⟨m-1,by omega,by dsimp only;omega,by dsimp only;omega,hr4.2.2,by simp;omega,?_⟩)
  intro x hx
  rcases List.mem_append.1 hx with h | h
  ·exact v5 x h
  ·rw[List.mem_singleton]at h;subst h
   refine⟨?_,?_,?_,?_⟩ <;> dsimp only <;> omega
 ·obtain⟨p1,M⟩:=r
  obtain⟨m1,m2,m3⟩:=hr2
  dsimp only at m1 m2 m3 ⊢
  refine .seg (Q:=λo=>0<=o.1/\((M=[]/\o.2.1=[]) ∨ ∃ a b:Int,0<=a/\a<M.length/\0<=b/\b<1000/\o.2.1=[⟨true,a,b,[97,99,116,105,118,101]⟩,⟨false,0,0,[112,97,115,115,105,118,101]⟩])/\o.2.2=(if M=[]then[]else[⟨(⟨#[109,101,109,111,114,121]⟩:ByteArray),2,(M.length:Int)-1⟩])) ?_ (λo ho=>?_)
  ·refine .ite (λhn=>?_) (λhn=>?_)
   ·have hM:M≠[]:=by rintro rfl;simp at m2;omega
    refine .bind (aak (by omega) (by omega) hl m1) (λr hr3=>?_)
    obtain⟨a,q2⟩:=r
    dsimp only at hr3 ⊢
    refine .bind (aak (by decide) (by decide) hl hr3.2.2) (λr hr4=>?_)
    obtain⟨b,q3⟩:=r
    dsimp only at hr4 ⊢
    rw[aap (by omega) (by omega)]
    refine .pos (aae (by omega) (by omega)) (.left ⟨hr4.2.2,.inr ⟨a,b,hr3.1,by omega,hr4.1,hr4.2.1,rfl⟩,?_⟩)
    rw[if_neg hM,m2]
   ·have hM:M=[]:=List.eq_nil_of_length_eq_zero (by omega)
    exact .left ⟨m1,.inl ⟨hM,rfl⟩,by rw[if_pos hM]⟩
  ·obtain⟨p2,D,E0⟩:=o
   obtain⟨d1,d2,d3⟩:=ho
   dsimp only at d1 d2 d3 ⊢
   refine .bind (aak (by decide) (by decide) hl d1) (λr hr3=>?_)
   obtain⟨kk,p3⟩:=r
   dsimp only at hr3 ⊢
   have e1:iadd .i64 1 kk=1+kk:=aai (by omega) (by omega)
   have hE0:E0.length<=1:=by
    rw[d3]
    by_cases hM:M=[]
    ·rw[if_pos hM];simp
    ·rw[if_neg hM];simp
   refine .bind (Q:=λr=>0<=r.1/\(r.2.1.length:Int)=1+kk/\(∀ f∈r.2.1,FnOk f)/\r.2.2=E0++(List.range (1+kk).toNat).map fexp) ?_ (λr hr4=>?_)
   ·refine .loop (λ(m:Nat) (v:Int×Int×List aj×List ae)=>0<=v.1/\v.1+(m:Int)=1+kk/\0<=v.2.1/\(v.2.2.1.length:Int)=v.1/\(∀ f∈v.2.2.1,FnOk f)/\v.2.2.2=E0++(List.range v.1.toNat).map fexp) (λm v hv=>?_) (n:=(1+kk).toNat)
     ⟨by simp,by simp;omega,hr3.2.2,by simp,by simp,by simp⟩
    obtain⟨i,p4,fs,es⟩:=v
    obtain⟨v1,v2,v3,v4,v5,v6⟩:=hv
    dsimp only at v1 v2 v3 v4 v5 v6
    simp only[aF.b15]
    rw[e1]
    refine .ite (λhi=>?_) (λhi=>.right ⟨v3,by dsimp only;omega,v5,by dsimp only;rw[v6];congr 3;omega⟩)
    refine .bind (aak (by decide) (by decide) hl v3) (λr hr5=>?_)
    obtain⟨ty,p5⟩:=r
    simp only[List.length_cons,List.length_nil]at hr5 ⊢
    refine .bind (aak (by decide) (by decide) hl hr5.2.2) (λr hr6=>?_)
    obtain⟨j,p6⟩:=r
    dsimp only at hr6 ⊢
    refine .bind (Q:=λr=>0<=r.1/\r.2.length<=3/\∀ t∈r.2,Kind t) ?_ (λr hr7=>?_)
    ·refine .loop (λ(m:Nat) (v:Int×Int×List Int)=>v.1=(m:Int)/\0<=v.2.1/\(v.2.2.length:Int)+v.1<=3/\∀ t∈v.2.2,Kind t) (λm v hv=>?_) (n:=j.toNat) ⟨by simp;omega,hr6.2.2,by simp;omega,by simp⟩
     obtain⟨j2,p7,ls⟩:=v
     obtain⟨w1,w2,w3,w4⟩:=hv
     dsimp only at w1 w2 w3 w4
     simp only[aF.b19]
     refine .ite (λhj=>?_) (λhj=>.right ⟨w2,by dsimp only;omega,w4⟩)
     refine .bind (aak (by decide) (by decide) hl w2) (λr hr8=>?_)
     obtain⟨x,p8⟩:=r
     dsimp only at hr8 ⊢
     refine .pos ⟨hr8.1,hr8.2.1⟩ (.bind (.get (by simp;omega)) (λt ht=>?_))
     have hm:=List.mem_of_getElem? ht
     simp only[List.mem_cons,List.not_mem_nil,or_false]at hm
     rw[aap (by omega) (by omega)]
     refine .pos (aae (by omega) (by omega)) (.left ⟨m-1,by omega,by dsimp only;omega,hr8.2.2,by simp;omega,?_⟩)
     intro y hy
     rcases List.mem_append.1 hy with h | h
     ·exact w4 y h
     ·rw[List.mem_singleton]at h;subst h;exact hm
    ·obtain⟨p7,ls⟩:=r
     obtain⟨u1,u2,u3⟩:=hr7
     dsimp only at u1 u2 u3 ⊢
     have hes:es.length<=5:=by rw[v6];simp;omega
     have ei:icv .i32 (iadd .i64 48 i)=48+i:=by
      rw[aai (by omega) (by omega)]
      exact afW ⟨by show(-2147483648:Int)<=_;omega,by show _<=(2147483647:Int);omega⟩
     rw[ei,aai (a:=i) (by omega) (by omega),aai (a:=2) (by omega) (by omega)]
     refine .pos (aae (by omega) (by omega)) (.pos ?_ (.pos (aae (by omega) (by omega)) (.left ⟨m-1,by omega,by dsimp only;omega,by dsimp only;omega,u1,by simp;omega,?_,?_⟩)))
     ·have hz:=an1 v1 (show i<4 by omega)
      have hz2:=aoF
      omega
     ·intro f hf
      rcases List.mem_append.1 hf with h | h
      ·exact v5 f h
      ·rw[List.mem_singleton]at h;subst h;exact⟨hr5.1,hr5.2.1,u2,u3⟩
     ·dsimp only
      have:(i+1).toNat=i.toNat+1:=by omega
      have ei2:((i.toNat:Nat):Int)=i:=by omega
      have e:fexp i.toNat=⟨(⟨#[102]⟩:ByteArray)++Utf8.encode (48+i),0,2+i⟩:=by unfold fexp;rw[ei2]
      rw[v6,this,List.range_succ,List.map_append,List.append_assoc,List.map_cons,List.map_nil,e]
   ·obtain⟨p4,F0,E1⟩:=r
    obtain⟨f1,f2,f3,f4⟩:=hr4
    dsimp only at f1 f2 f3 f4 ⊢
    refine .bind (aak (by decide) (by decide) hl f1) (λr hr5=>?_)
    obtain⟨g,p5⟩:=r
    dsimp only at hr5 ⊢
    refine .pos (aae (by rw[f4];simp;omega) (by rw[f4];simp;omega)) ?_
    refine .bind (Q:=λF=>F.length=F0.length/\∀ f∈F,FnOk f/\acJ f.Code) ?_ (λF hF=>?_)
    ·refine .loop (λ(m:Nat) (v:Int×Int×List aj)=>0<=v.1/\v.1+(m:Int)=F0.length/\0<=v.2.1/\v.2.2.length=F0.length/\(∀ f∈v.2.2,FnOk f)/\∀ (j:Nat) (f:aj),v.2.2[j]?=some f->(j:Int)<v.1->acJ f.Code) (λm v hv=>?_) (n:=F0.length)
      ⟨by simp,by simp,hr5.2.2,rfl,f3,λj f _ h=>by simp at h;omega⟩
     obtain⟨i,p6,F⟩:=v
     obtain⟨v1,v2,v3,v4,v5,v6⟩:=hv
     dsimp only at v1 v2 v3 v4 v5 v6
     simp only[aF.b26]
     rw[e1]
     refine .ite (λhi=>?_) (λhi=>.right ⟨v4,λf hf=>⟨v5 f hf,?_⟩⟩)
     ·rw[aai (a:=2) (by omega) (by omega)]
      have env:∀ {OR L:List Int},OR.length<=3->L.length<=7->Env tys imps aoM D OR l F M L:=λh1 h2=>
       ⟨hl,rfl,amZ,rfl,anS,rfl,λhM=>d2.elim (λh=>absurd h.1 hM) (λh=>by obtain⟨a,b,_,_,_,_,h⟩:=h;rw[h];rfl),by omega,⟨by omega,by omega⟩,λf hf=>⟨(v5 f hf).1,(v5 f hf).2.1⟩,h2,h1⟩
      refine .bind (ajf (env (OR:=[]) (L:=[]) (by simp) (by simp)) (λf hf=>(v5 f hf).2.2.1) (by omega) (by omega)) (λL hL=>?_)
      refine .bind (ahU (env (OR:=[]) (L:=[]) (by simp) (by simp)) (by omega) (by omega)) (λr ht=>?_)
      obtain⟨t,ok⟩:=r
      dsimp only at ht ⊢
      have ht2:=amZ t ht.1
      have he:=env (OR:=t.Results) (L:=L) ht2.2 (by omega)
      refine .seg (Q:=λo=>0<=o.1/\∃ cs,o.2.2.2.2=cs/\Seq 6 cs/\cs.length<=10000) ?_ (λo ho=>?_)
      ·refine .bind (aak (by decide) (by decide) hl v3) (λr hr6=>?_)
       obtain⟨nn,p7⟩:=r
       dsimp only at hr6 ⊢
       rw[aai (a:=3) (by omega) (by omega)]
       refine .bind (aoq he (by decide) 0 (3+nn) p7 [] [t.Results] [] hr6.2.2 (by decide) (by simp) (by omega) (by omega) (by simp) (by simp) (by simp;omega) (by simp) (by simp)) (λr hr7=>?_)
       obtain⟨b,left2,p8,s2,lb2,c2⟩:=r
       obtain⟨m1,m2,m3,m4,m5,m6,cs,m7,m8,m9⟩:=hr7
       dsimp only at m1 m2 m3 m4 m5 m6 m7 m9 ⊢
       rw[List.nil_append]at m7
       subst m7
       rw[List.length_nil]at m5
       refine .ite (λ_=>?_) (λ_=>.left ⟨m3,_,rfl,m8,by dsimp only;omega⟩)
       refine .bind (ac1 he m3 (by decide) (by omega) (by omega) (by omega) (by omega)) (λr hr8=>?_)
       obtain⟨p9,s3,c3⟩:=r
       obtain⟨n1,n2,n3,cs2,n4,n5,n6⟩:=hr8
       dsimp only at n1 n2 n3 n4 ⊢
       refine .left ⟨n1,_,rfl,?_,?_⟩
       ·dsimp only;rw[n4];exact m8.app (.fine n5)
       ·dsimp only;rw[n4,List.length_append];omega
      ·obtain⟨p8,left2,s2,lb2,c2⟩:=o
       obtain⟨o1,cs,o2,o3,o4⟩:=ho
       dsimp only at o1 o2 ⊢
       subst o2
       refine .bind (aaw (by omega)) (λc3 hc3=>?_)
       subst hc3
       refine .pos ⟨v1,by omega⟩ (.bind (.get (by omega)) (λe hee=>?_))
       have hfe:=v5 e (List.mem_of_getElem? hee)
       refine .left ⟨m-1,by omega,?_,?_,o1,by simp;omega,?_,?_⟩
       ·dsimp only;rw[aai (by omega) (by omega)];omega
       ·dsimp only;rw[aai (by omega) (by omega)];omega
       ·intro f hf
        rcases List.mem_or_eq_of_mem_set hf with h | h
        ·exact v5 f h
        ·subst h;exact hfe
       ·intro j f hj hlt
        dsimp only at hj hlt
        rw[aai (by omega) (by omega)]at hlt
        rw[List.getElem?_set]at hj
        split at hj
        ·split at hj
         ·cases hj
          exact⟨by dsimp only;rw[app_len1];omega,c2,rfl,o3⟩
         ·cases hj
        ·exact v6 j f hj (by omega)
     ·obtain⟨j,hj,rfl⟩:=List.getElem_of_mem hf
      exact v6 j _ (List.getElem?_eq_getElem hj) (by omega)
    ·refine .one { types:=rfl,imports:=rfl,globals:=rfl,mems:=⟨by dsimp only;omega,m3⟩,datas:=d2,funcs:=⟨by dsimp only;omega,by dsimp only;omega,hF.2⟩,exports:=⟨g,hr5.1,hr5.2.1,?_⟩ }
     dsimp only
     rw[f4,d3,show(1+kk).toNat=F.length by omega]
end Go.R4.Mo
