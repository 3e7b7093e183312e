import Derived.Test.YtganajogkdinaaaGreatGPe
import Derived.Test.YtganajogkdinaaaGreatEvPl
import Derived.Test.YtganajogkdinaaaGreatEvBit
import Derived.Test.YtganajogkdinaaaGreatEvIn
set_option linter.all false
namespace Go.R4.Tx
open Go.Proofs Go.Ev
set_option maxRecDepth 100000
theorem at?_nat{β:Type}(l:List β)(i:Nat):at? l (i:Int)=l[i]?:=by simp[at?]
theorem aae{n b:Nat}(h:n*b<=140737488355328)(hn:n<=140737488355328):aad n b:=⟨h,hn⟩
theorem acm{α β:Type}{x:Option α}{f:α->Option β}{o:α}{r:Option β}(h:x=some o)(h2:f o=r):x.bind f=r:=by rw[h];exact h2
theorem afP{O O2 α:Type}{x:Option (O⊕O2)}{t:O->Option α}{t2:O2->Option α}{o:O}{r:Option α}(h:x=some (.inl o))(h2:t o=r):altB x t t2=r:=by rw[h];exact h2
theorem afQ{O O2 α:Type}{x:Option (O⊕O2)}{t:O->Option α}{t2:O2->Option α}{o:O2}{r:Option α}(h:x=some (.inr o))(h2:t2 o=r):altB x t t2=r:=by rw[h];exact h2
theorem anp{O α:Type}{x:Option (O⊕α)}{t:O->Option α}{a:α}(h:x=some (.inr a)):segB x t=some a:=by rw[h];rfl
def By(b:List Int):Prop:=∀ y∈b,0<=y/\y<=255
theorem By.take{l:List Int}(h:By l)(i:Nat):By (l.take i):=λy hy=>h y (List.mem_of_mem_take hy)
theorem By.drop{l:List Int}(h:By l)(i:Nat):By (l.drop i):=λy hy=>h y (List.mem_of_mem_drop hy)
theorem By.tail{x:Int}{l:List Int}(h:By (x::l)):By l:=λy hy=>h y (List.mem_cons_of_mem _ hy)
theorem By.head{x:Int}{l:List Int}(h:By (x::l)):0<=x/\x<=255:=h x (List.mem_cons_self ..)
def foldV:Int->List Int->Option Int
  | v,[]=>some v
  | v,c::r=>if c/64=2 then foldV (c % 64+v*64) r else none
def finV(m:Nat)(least:Int):Option Int->Nat
  | none=>0
  | some v=>if v<least then 0 else if 55296<=v/\v<=57343 then 0 else if v>1114111 then 0 else m+1
def anA(b:Int):Option (Nat×Int×Int):=
  if b<128 then some (0,0,b)else if b<192 then none else if b<224 then some (1,128,b % 32)else if b<240 then some (2,2048,b % 16)else if b<248 then some (3,65536,b % 8)else none
def sgV:List Int->Nat
  | []=>0
  | b::r=>match anA b with
    | none=>0
    | some (m,least,v)=>if r.length<m then 0 else finV m least (foldV v (r.take m))
theorem ao2{p:Nat->Bool}(h:(List.range 256).all p=true){e:Int}(h0:0<=e)(h1:e<=255):p e.toNat=true:=by
  rw[List.all_eq_true]at h
  exact h _ (List.mem_range.2 (by omega))
def factsB(n:Nat):Bool:=
  let e:Int:=(n:Int)
  decide (iand .u8 e 128=0↔n<128)&&decide (iand .u8 e 224=192↔(192<=n/\n<224))&&decide (iand .u8 e 240=224↔(224<=n/\n<240))&&decide (iand .u8 e 248=240↔(240<=n/\n<248)) &&
  decide (iand .u8 e 192=128↔(128<=n/\n<192))&&decide (adf .u8 e 128=e % 128)&&decide (adf .u8 e 224=e % 32)&&decide (adf .u8 e 240=e % 16)&&decide (adf .u8 e 248=e % 8)
theorem akZ:(List.range 256).all factsB=true:=by kernel_rfl
theorem facts{e:Int}(h0:0<=e)(h1:e<=255):(iand .u8 e 128=0↔e<128)/\(iand .u8 e 224=192↔(192<=e/\e<224))/\(iand .u8 e 240=224↔(224<=e/\e<240))/\(iand .u8 e 248=240↔(240<=e/\e<248)) ∧
    (iand .u8 e 192=128↔(128<=e/\e<192))/\adf .u8 e 128=e % 128/\adf .u8 e 224=e % 32/\adf .u8 e 240=e % 16/\adf .u8 e 248=e % 8:=by
  have h:=ao2 akZ h0 h1
  have ee:((e.toNat:Nat):Int)=e:=by omega
  simp only[factsB,Bool.and_eq_true,decide_eq_true_eq,ee]at h
  obtain⟨⟨⟨⟨⟨⟨⟨⟨h1,h2⟩,h3⟩,h4⟩,h5⟩,h6⟩,h7⟩,h8⟩,h9⟩:=h
  refine⟨h1.trans ⟨by omega,by omega⟩,h2.trans ⟨by omega,by omega⟩,h3.trans ⟨by omega,by omega⟩,h4.trans ⟨by omega,by omega⟩,h5.trans ⟨by omega,by omega⟩,h6,h7,h8,h9⟩
theorem alz{v c:Int}(v0:0<=v)(v1:v<67108864)(c0:0<=c)(c1:c<=255):ior .u32 (ishl .u32 v 6) (icv .u32 (iand .u8 c 63))=c % 64+v*64:=by
  have e1:iand .u8 c 63=c % 2 ^ 6:=abv (j:=6) (by decide) (by decide)
  have g:=afA (k:=.u32) (j:=6) (by decide) (a:=c % 64) (y:=v) (by omega) (by omega) v0
  rw[ior_comm,e1]
  unfold icv
  rw[show(2:Int) ^ 6=64 from rfl]at *
  exact g.trans (abe (k:=.u32) ⟨by omega,by omega⟩)
theorem al7{v c:Int}(v0:0<=v)(v1:v<67108864)(c0:0<=c)(c1:c<=255):ior .i64 (ishl .i64 v 6) (icv .i64 (iand .u8 c 63))=c % 64+v*64:=by
  have e1:iand .u8 c 63=c % 2 ^ 6:=abv (j:=6) (by decide) (by decide)
  have g:=afA (k:=.i64) (j:=6) (by decide) (a:=c % 64) (y:=v) (by omega) (by omega) v0
  rw[ior_comm,e1]
  unfold icv
  rw[show(2:Int) ^ 6=64 from rfl]at *
  exact g.trans (abe (k:=.i64) ⟨by omega,by omega⟩)
theorem agk(k:Nat){b:List Int}{kd:aG}{L:List Int}(hL:List.drop 1 (List.take ((iadd .i64 1 kd.more).toNat) b)=L)(hB:By L)(hl:L.length<=3) :
    ∀ (d i:Nat) (v:Int) (q:Nat),i+d=L.length->0<=v->v<128*64 ^ i->d<q →
      ∃ w,loopS (aE.b7 k b kd (L.length:Int)) q (v,(i:Int))=some (match foldV v (L.drop i)with
        | some w=>.inl w
        | none=>.inr w)
  | d,i,v,0,hi,v0,v1,hq=>by omega
  | 0,i,v,q+1,hi,v0,v1,hq=>by
    refine⟨0,aan ?_⟩
    have:L.drop i=[]:=List.drop_eq_nil_of_le (by omega)
    simp only[aE.b7]
    rw[if_neg (by omega),this]
    rfl
  | d+1,i,v,q+1,hi,v0,v1,hq=>by
    have hx:i<L.length:=by omega
    have hd:L.drop i=L[i]::L.drop (i+1):=List.drop_eq_getElem_cons hx
    have hc:=hB L[i] (List.getElem_mem _)
    obtain⟨_,_,_,_,h5,_⟩:=facts hc.1 hc.2
    have hp:(64:Int) ^ i<=64 ^ 3:=by
      have:i=0∨i=1∨i=2:=by omega
      rcases this with rfl | rfl | rfl <;> decide
    have hp3:(64:Int) ^ 3=262144:=by decide
    have hpp:(64:Int) ^ (i+1)=64 ^ i*64:=Int.pow_succ ..
    by_cases c:iand .u8 L[i] 192=128
    · have hr:=h5.1 c
      have c2:L[i]/64=2:=by omega
      obtain⟨w,hw⟩:=agk k hL hB hl d (i+1) (L[i] % 64+v*64) q (by omega) (by omega) (by rw[hpp];omega) (by omega)
      refine⟨w,?_⟩
      rw[aaB (v':=(L[i] % 64+v*64,((i+1:Nat):Int))) ?_,hw,hd]
      · simp only[foldV]
        rw[if_pos c2]
      · simp only[aE.b7]
        rw[if_pos (by omega),hL]
        refine acm (o:=L[i]) (by rw[at?_nat];exact List.getElem?_eq_getElem hx) ?_
        rw[if_pos c,alz v0 (by omega) hc.1 hc.2,aai (by omega) (by omega)]
        rfl
    · have c2:¬L[i]/64=2:=by
        intro q
        exact c (h5.2 ⟨by omega,by omega⟩)
      refine⟨v,aan ?_⟩
      rw[hd]
      simp only[foldV]
      rw[if_neg c2]
      simp only[aE.b7]
      rw[if_pos (by omega),hL]
      refine acm (o:=L[i]) (by rw[at?_nat];exact List.getElem?_eq_getElem hx) ?_
      rw[if_neg c]
def aa6:List aG:=[⟨128,0,0,0⟩,⟨224,192,1,128⟩,⟨240,224,2,2048⟩,⟨248,240,3,65536⟩]
theorem alY(k:Nat){b0:Int}{r:List Int}(hB:By (b0::r))(hlr:r.length<=1000000000)(hk:10<=k){x m:Nat}{kd:aG}(hx:aa6[x]?=some kd)(hm:iand .u8 b0 kd.mask=kd.mark)(hmo:kd.more=(m:Int))(m3:m<=3)(hlen:m<=r.length){v:Int}(hv:adf .u8 b0 kd.mask=v)(v0:0<=v)(v1:v<128) :
    aE.b2 k (b0::r) aa6 (x:Int)=some (.inr (.inr ((finV m kd.least (foldV v (r.take m)):Nat):Int))):=by
  have hx4:x<4:=(List.getElem?_eq_some_iff.1 hx).1
  have hk4:(aa6.length:Int)=4:=rfl
  simp only[aE.b2]
  rw[if_pos (by omega),if_pos ⟨by omega,by omega⟩]
  have e1:iadd .i64 1 kd.more=((m+1:Nat):Int):=by rw[hmo,aai (by omega) (by omega)];omega
  have hL:List.drop 1 (List.take ((iadd .i64 1 kd.more).toNat) (b0::r))=r.take m:=by
    rw[e1,Int.toNat_natCast];rfl
  refine anp ?_
  refine acm (o:=kd) (by rw[Int.toNat_natCast];exact hx) ?_
  refine acm (o:=b0) rfl ?_
  rw[if_pos hm,if_neg (by rw[hmo];simp only[List.length_cons];omega)]
  refine acm (o:=b0) rfl ?_
  rw[if_pos ⟨by omega,by omega,by rw[e1];simp only[List.length_cons];omega⟩]
  have hll:(r.take m).length=m:=by simp;omega
  obtain⟨w,hw⟩:=agk k hL (hB.tail.take m) (by omega) m 0 v k (by omega) v0 (by omega) (by omega)
  have e2:icv .u32 (adf .u8 b0 kd.mask)=v:=by rw[hv];exact afW (k:=.u32) ⟨by omega,by omega⟩
  rw[e2,hL]
  rw[List.drop_zero]at hw
  have z0:(0:Int)=((0:Nat):Int):=rfl
  cases hf:foldV v (r.take m)with
  | none=>
    rw[hf]at hw
    refine afQ hw ?_
    rfl
  | some u=>
    rw[hf]at hw
    refine afP hw ?_
    simp only[finV]
    by_cases c1:u<kd.least
    · rw[if_pos c1,if_pos c1];rfl
    · rw[if_neg c1,if_neg c1]
      by_cases c2:u≥55296
      · rw[if_pos c2]
        by_cases c3:u<=57343
        · rw[if_pos c3,if_pos ⟨c2,c3⟩];rfl
        · rw[if_neg c3,if_neg (show ¬(55296<=u/\u<=57343)from λq=>c3 q.2)]
          by_cases c4:u>1114111
          · rw[if_pos c4,if_pos c4];rfl
          · rw[if_neg c4,if_neg c4,e1]
      · rw[if_neg c2,if_neg (show ¬(55296<=u/\u<=57343)from λq=>c2 q.1)]
        by_cases c4:u>1114111
        · rw[if_pos c4,if_pos c4];rfl
        · rw[if_neg c4,if_neg c4,e1]
theorem aj1(k:Nat){b0:Int}{r:List Int}{x:Nat}{kd:aG}(hx:aa6[x]?=some kd)(h:¬iand .u8 b0 kd.mask=kd.mark∨((r.length+1:Nat):Int)<=kd.more) :
    aE.b2 k (b0::r) aa6 (x:Int)=some (.inl ((x+1:Nat):Int)):=by
  have hx4:x<4:=(List.getElem?_eq_some_iff.1 hx).1
  have hk4:(aa6.length:Int)=4:=rfl
  simp only[aE.b2]
  rw[if_pos (by omega),if_pos ⟨by omega,by omega⟩]
  refine aoi (o:=()) ?_ (by rw[aai (by omega) (by omega)];rfl)
  refine acm (o:=kd) (by rw[Int.toNat_natCast];exact hx) ?_
  refine acm (o:=b0) rfl ?_
  rcases h with h | h
  · rw[if_neg h]
  · by_cases c:iand .u8 b0 kd.mask=kd.mark
    · rw[if_pos c,if_pos (by simp only[List.length_cons];exact h)]
    · rw[if_neg c]
theorem alr(k:Nat)(b:List Int):aE.b2 k b aa6 ((4:Nat):Int)=some (.inr (.inl ())):=by
  have hk4:(aa6.length:Int)=4:=rfl
  simp only[aE.b2]
  rw[if_neg (by omega)]
theorem afy(k:Nat){b0:Int}{r:List Int}(j:Nat)(hj:j<=4)(hm:∀ x kd,x<j->aa6[x]?=some kd->¬iand .u8 b0 kd.mask=kd.mark∨((r.length+1:Nat):Int)<=kd.more) :
    ∀ (d x q:Nat),x+d=j->10<=q+x->∃ q',10<=q'+j/\loopS (aE.b2 k (b0::r) aa6) q (x:Int)=loopS (aE.b2 k (b0::r) aa6) q' (j:Int)
  | 0,x,q,h,hq=>⟨q,by omega,by rw[show x=j from by omega]⟩
  | d+1,x,q,h,hq=>by
    obtain⟨q,rfl⟩:∃ p,q=p+1:=⟨q-1,by omega⟩
    have hx:x<aa6.length:=by show x<4;omega
    obtain⟨q',h1,h2⟩:=afy k j hj hm d (x+1) q (by omega) (by omega)
    refine⟨q',h1,?_⟩
    rw[aaB (aj1 k (List.getElem?_eq_getElem hx) (hm x _ (by omega) (List.getElem?_eq_getElem hx)))]
    exact h2
theorem anB(k:Nat){b0:Int}{r:List Int}(hB:By (b0::r))(hlr:r.length<=1000000000)(hk:20<=k):aE.f (k+1) (b0::r)=some ((sgV (b0::r):Nat):Int):=by
  have h0:=hB.head
  obtain⟨f1,f2,f3,f4,_,f6,f7,f8,f9⟩:=facts h0.1 h0.2
  simp only[aE.f]
  refine acm (o:=aa6) (by(obtain⟨k,rfl⟩:∃ j,k=j+1:=⟨k-1,by omega⟩);rfl) ?_
  have hit:∀ {x m:Nat}{kd:aG}{v:Int},aa6[x]?=some kd->x<4->(∀ x' kd',x'<x->aa6[x']?=some kd'->¬iand .u8 b0 kd'.mask=kd'.mark∨((r.length+1:Nat):Int)<=kd'.more)->iand .u8 b0 kd.mask=kd.mark->kd.more=(m:Int)->m<=3->m<=r.length->adf .u8 b0 kd.mask=v->0<=v->v<128 →
      altB (loopS (aE.b2 k (b0::r) aa6) k (0:Int)) (λ_=>(some (0:Int))) (λx348=>(some x348))=some ((finV m kd.least (foldV v (r.take m)):Nat):Int):=by
    intro x m kd v hx hx4 hm g1 g2 g3 g4 g5 g6 g7
    obtain⟨q,e1,e2⟩:=afy k x (by omega) hm x 0 k (by omega) (by omega)
    obtain⟨q,rfl⟩:∃ p,q=p+1:=⟨q-1,by omega⟩
    refine afQ (o:=((finV m kd.least (foldV v (r.take m)):Nat):Int)) ?_ rfl
    exact e2.trans (aan (alY k hB hlr (by omega) hx g1 g2 g3 g4 g5 g6 g7))
  have none_:(∀ x' kd',x'<4->aa6[x']?=some kd'->¬iand .u8 b0 kd'.mask=kd'.mark∨((r.length+1:Nat):Int)<=kd'.more)->altB (loopS (aE.b2 k (b0::r) aa6) k (0:Int)) (λ_=>(some (0:Int))) (λx348=>(some x348))=some 0:=by
    intro hm
    obtain⟨q,e1,e2⟩:=afy k 4 (by omega) hm 4 0 k (by omega) (by omega)
    obtain⟨q,rfl⟩:∃ p,q=p+1:=⟨q-1,by omega⟩
    refine afP (o:=()) ?_ rfl
    exact e2.trans (aan (alr k _))
  have four:∀ {p:Nat->aG->Prop} (j:Nat),(0<j->p 0 ⟨128,0,0,0⟩)->(1<j->p 1 ⟨224,192,1,128⟩)->(2<j->p 2 ⟨240,224,2,2048⟩)->(3<j->p 3 ⟨248,240,3,65536⟩)->∀ x' kd',x'<j->aa6[x']?=some kd'->p x' kd':=by
    intro p j p0 p1 p2 p3 x' kd' hx hk
    match x',hk with
    | 0,hk=>cases hk;exact p0 hx
    | 1,hk=>cases hk;exact p1 hx
    | 2,hk=>cases hk;exact p2 hx
    | 3,hk=>cases hk;exact p3 hx
    |_+4,hk=>exact absurd (List.getElem?_eq_some_iff.1 hk).1 (by show ¬_<4;omega)
  simp only[sgV,anA]
  by_cases c1:b0<128
  · rw[if_pos c1]
    dsimp only
    rw[if_neg (by omega)]
    exact hit (x:=0) (kd:=⟨128,0,0,0⟩) rfl (by omega) (λx' _ h=>by omega) (f1.2 c1) rfl (by omega) (by omega) (by rw[f6];omega) h0.1 c1
  rw[if_neg c1]
  by_cases c2:b0<192
  · rw[if_pos c2]
    refine none_ (four 4 (λ_=>.inl ?_) (λ_=>.inl ?_) (λ_=>.inl ?_) (λ_=>.inl ?_))
    · exact λq=>c1 (f1.1 q)
    · exact λq=>by have:=f2.1 q;omega
    · exact λq=>by have:=f3.1 q;omega
    · exact λq=>by have:=f4.1 q;omega
  rw[if_neg c2]
  by_cases c3:b0<224
  · rw[if_pos c3]
    dsimp only
    by_cases hl:r.length<1
    · rw[if_pos hl]
      refine none_ (four 4 (λ_=>.inl λq=>c1 (f1.1 q)) (λ_=>.inr ?_) (λ_=>.inl λq=>by have:=f3.1 q;omega) (λ_=>.inl λq=>by have:=f4.1 q;omega))
      show((r.length+1:Nat):Int)<=1
      omega
    · rw[if_neg hl]
      exact hit (x:=1) (kd:=⟨224,192,1,128⟩) rfl (by omega) (four 1 (λ_=>.inl λq=>c1 (f1.1 q)) (λh=>by omega) (λh=>by omega) (λh=>by omega)) (f2.2 ⟨by omega,c3⟩) rfl (by omega) (by omega) f7 (by omega) (by omega)
  rw[if_neg c3]
  by_cases c4:b0<240
  · rw[if_pos c4]
    dsimp only
    by_cases hl:r.length<2
    · rw[if_pos hl]
      refine none_ (four 4 (λ_=>.inl λq=>c1 (f1.1 q)) (λ_=>.inl λq=>by have:=f2.1 q;omega) (λ_=>.inr ?_) (λ_=>.inl λq=>by have:=f4.1 q;omega))
      show((r.length+1:Nat):Int)<=2
      omega
    · rw[if_neg hl]
      exact hit (x:=2) (kd:=⟨240,224,2,2048⟩) rfl (by omega) (four 2 (λ_=>.inl λq=>c1 (f1.1 q)) (λ_=>.inl λq=>by have:=f2.1 q;omega) (λh=>by omega) (λh=>by omega)) (f3.2 ⟨by omega,c4⟩) rfl (by omega) (by omega) f8 (by omega) (by omega)
  rw[if_neg c4]
  by_cases c5:b0<248
  · rw[if_pos c5]
    dsimp only
    by_cases hl:r.length<3
    · rw[if_pos hl]
      refine none_ (four 4 (λ_=>.inl λq=>c1 (f1.1 q)) (λ_=>.inl λq=>by have:=f2.1 q;omega) (λ_=>.inl λq=>by have:=f3.1 q;omega) (λ_=>.inr ?_))
      show((r.length+1:Nat):Int)<=3
      omega
    · rw[if_neg hl]
      exact hit (x:=3) (kd:=⟨248,240,3,65536⟩) rfl (by omega) (four 3 (λ_=>.inl λq=>c1 (f1.1 q)) (λ_=>.inl λq=>by have:=f2.1 q;omega) (λ_=>.inl λq=>by have:=f3.1 q;omega) (λh=>by omega)) (f4.2 ⟨by omega,c5⟩) rfl (by omega) (by omega) f9 (by omega) (by omega)
  rw[if_neg c5]
  refine none_ (four 4 (λ_=>.inl λq=>c1 (f1.1 q)) (λ_=>.inl λq=>by have:=f2.1 q;omega) (λ_=>.inl λq=>by have:=f3.1 q;omega) (λ_=>.inl λq=>by have:=f4.1 q;omega))
end Go.R4.Tx
namespace Go.R4.Tx
open Go.Proofs Go.Ev
set_option maxRecDepth 100000
def cntV:Nat->List Int->Option Nat
  | 0,_=>none
  |_+1,[]=>some 0
  | f+1,b::r=>if sgV (b::r)=0 then none else(cntV f ((b::r).drop (sgV (b::r)))).map (· + 1)
def cnt(l:List Int):Option Nat:=cntV (l.length+1) l
theorem anD(m:Nat)(least:Int)(o:Option Int):finV m least o<=m+1:=by
  cases o with
  | none=>simp[finV]
  | some v=>simp only[finV];split <;> (try split) <;> (try split) <;> omega
theorem amQ(l:List Int):sgV l<=l.length:=by
  cases l with
  | nil=>simp[sgV]
  | cons b r=>
    simp only[sgV]
    split
    · omega
    · rename_i m least v _
      split
      · omega
      · have:=anD m least (foldV v (r.take m))
        simp only[List.length_cons];omega
def ansV(o:Option Nat):Int:=match o with
  | some n=>(n:Int)
  | none=>-1
theorem ansV_dec(o:Option Nat):decide (ansV o≥0)=o.isSome:=by
  cases o with
  | none=>rfl
  | some m=>exact decide_eq_true (show(m:Int)≥0 by omega)
theorem aeL(k:Nat)(hk:30<=k):∀ (f:Nat) (l:List Int) (n q:Nat),l.length<f->By l->l.length+n<=1000000000->f<=q →
    ∃ w:Int,loopS (bG.b2 k) q (l,(n:Int))=some (match cntV f l with
      | some m=>.inl ((n+m:Nat):Int)
      | none=>.inr w)
  | 0,_,_,_,h,_,_,_=>by omega
  | f+1,l,n,0,h,_,_,hq=>by omega
  | f+1,[],n,q+1,_,_,_,_=>⟨0,aan (by simp only[bG.b2];rw[if_neg (by simp)];rfl)⟩
  | f+1,b::r,n,q+1,h,hB,hn,hq=>by
    have hs:=anB (k-1) hB (by simp only[List.length_cons]at hn;omega) (by omega)
    rw[show k-1+1=k from by omega]at hs
    have hle:=amQ (b::r)
    simp only[cntV]
    by_cases c:sgV (b::r)=0
    · rw[if_pos c]
      refine⟨(n:Int),aan ?_⟩
      simp only[bG.b2]
      rw[if_pos (by simp only[List.length_cons];omega)]
      refine acm hs ?_
      rw[c]
      exact if_pos rfl
    · rw[if_neg c]
      obtain⟨w,hw⟩:=aeL k hk f ((b::r).drop (sgV (b::r))) (n+1) q (by simp only[List.length_drop,List.length_cons]at *;omega) (hB.drop _) (by simp only[List.length_drop,List.length_cons]at *;omega) (by omega)
      refine⟨w,?_⟩
      rw[aaB (v':=((b::r).drop (sgV (b::r)),((n+1:Nat):Int))) ?_,hw]
      · cases cntV f ((b::r).drop (sgV (b::r)))with
        | none=>rfl
        | some m=>simp only[Option.map_some];congr 3;omega
      · simp only[bG.b2]
        rw[if_pos (by simp only[List.length_cons];omega)]
        refine acm hs ?_
        rw[if_neg (by omega),if_pos ⟨by omega,by omega⟩,Int.toNat_natCast,aai (by omega) (by omega)]
        rfl
theorem al2(k:Nat){l:List Int}(hB:By l)(hl:l.length<=100000)(hk:200000<=k):bG.f (k+1) l=some (ansV (cnt l)):=by
  obtain⟨w,hw⟩:=aeL k (by omega) (l.length+1) l 0 k (by omega) hB (by omega) (by omega)
  simp only[bG.f,cnt]
  cases h:cntV (l.length+1) l with
  | none=>rw[h]at hw;exact afQ hw rfl
  | some m=>rw[h]at hw;refine afP hw ?_;simp only[ansV,Nat.zero_add]
theorem right_ok(k:Nat){l:List Int}(hB:By l)(hl:l.length<=100000)(hk:200000<=k):dX.f (k+2) l=some (cnt l).isSome:=by
  simp only[dX.f]
  refine acm (al2 k hB hl hk) ?_
  rw[ansV_dec]
theorem ahb(k:Nat){b:List Int}{i m:Nat}(hb:b.length<=1000000000)(hm:i+m<b.length)(m3:m<=3)(hB:By b) :
    ∀ (d j:Nat) (v:Int) (q:Nat),j+d=m->0<=v->v<128*64 ^ j->d<q →
      ∃ w,loopS (aK.b17 k b (i:Int) (m:Int)) q (v,((j+1:Nat):Int))=some (match foldV v (((b.drop (i+1)).take m).drop j)with
        | some w=>.inl w
        | none=>.inr w)
  | d,j,v,0,hj,v0,v1,hq=>by omega
  | 0,j,v,q+1,hj,v0,v1,hq=>by
    refine⟨0,aan ?_⟩
    have:((b.drop (i+1)).take m).drop j=[]:=List.drop_eq_nil_of_le (by simp;omega)
    simp only[aK.b17]
    rw[if_neg (by omega),this]
    rfl
  | d+1,j,v,q+1,hj,v0,v1,hq=>by
    have hx:j<((b.drop (i+1)).take m).length:=by simp;omega
    have hxb:i+(j+1)<b.length:=by omega
    have hg:((b.drop (i+1)).take m)[j]=b[i+(j+1)]:=by simp;congr 1;omega
    have hd:((b.drop (i+1)).take m).drop j=b[i+(j+1)]::((b.drop (i+1)).take m).drop (j+1):=by rw[List.drop_eq_getElem_cons hx,hg]
    have hc:=hB b[i+(j+1)] (List.getElem_mem _)
    have hp:(64:Int) ^ j<=64 ^ 3:=by
      have:j=0∨j=1∨j=2:=by omega
      rcases this with rfl | rfl | rfl <;> decide
    have hp3:(64:Int) ^ 3=262144:=by decide
    have hpp:(64:Int) ^ (j+1)=64 ^ j*64:=Int.pow_succ ..
    have ea:iadd .i64 (i:Int) ((j+1:Nat):Int)=((i+(j+1):Nat):Int):=by rw[aai (by omega) (by omega)];omega
    have hsh:ishr .u8 b[i+(j+1)] 6=b[i+(j+1)]/64:=adu (k:=.u8) (j:=6) (by decide)
    by_cases c:b[i+(j+1)]/64=2
    · obtain⟨w,hw⟩:=ahb k hb hm m3 hB d (j+1) (b[i+(j+1)] % 64+v*64) q (by omega) (by omega) (by rw[hpp];omega) (by omega)
      refine⟨w,?_⟩
      rw[aaB (v':=(b[i+(j+1)] % 64+v*64,((j+1+1:Nat):Int))) ?_,hw,hd]
      · simp only[foldV]
        rw[if_pos c]
      · simp only[aK.b17]
        rw[if_pos (by omega),ea]
        refine acm (o:=b[i+(j+1)]) (by rw[at?_nat];exact List.getElem?_eq_getElem hxb) ?_
        rw[hsh,if_pos c]
        refine acm (o:=b[i+(j+1)]) (by rw[at?_nat];exact List.getElem?_eq_getElem hxb) ?_
        rw[al7 v0 (by omega) hc.1 hc.2,aai (by omega) (by omega)]
        rfl
    · refine⟨v,aan ?_⟩
      rw[hd]
      simp only[foldV]
      rw[if_neg c]
      simp only[aK.b17]
      rw[if_pos (by omega),ea]
      refine acm (o:=b[i+(j+1)]) (by rw[at?_nat];exact List.getElem?_eq_getElem hxb) ?_
      rw[hsh,if_neg c]
def refK(b:Int):Option (Nat×Int×Int):=
  if b<128 then some (0,0,b)else if b<194 then none else if b<224 then some (1,128,b % 32)else if b<240 then some (2,2048,b % 16)else if b<245 then some (3,65536,b % 8)else none
def sgR:List Int->Nat
  | []=>0
  | b::r=>match refK b with
    | none=>0
    | some (m,least,v)=>if r.length<m then 0 else finV m least (foldV v (r.take m))
theorem ae4:∀ (l:List Int) (v u:Int),foldV v l=some u->v*64 ^ l.length<=u/\u<(v+1)*64 ^ l.length
  | [],v,u,h=>by simp only[foldV,Option.some.injEq]at h;subst h;simp;omega
  | c::r,v,u,h=>by
    simp only[foldV]at h
    split at h
    · obtain⟨h1,h2⟩:=ae4 r _ u h
      have hp:(0:Int)<64 ^ r.length:=Int.pow_pos (by decide)
      have e:(64:Int) ^ (r.length+1)=64 ^ r.length*64:=Int.pow_succ ..
      simp only[List.length_cons,e]
      have c0:0<=c % 64:=Int.emod_nonneg _ (by decide)
      have c1:c % 64<64:=Int.emod_lt_of_pos _ (by decide)
      constructor
      · have:v*(64 ^ r.length*64)=(v*64)*64 ^ r.length:=by rw[Int.mul_comm (64 ^ r.length),<-Int.mul_assoc]
        rw[this]
        refine Int.le_trans (Int.mul_le_mul_of_nonneg_right (by omega) (Int.le_of_lt hp)) h1
      · have:(v+1)*(64 ^ r.length*64)=((v+1)*64)*64 ^ r.length:=by rw[Int.mul_comm (64 ^ r.length),<-Int.mul_assoc]
        rw[this]
        refine Int.lt_of_lt_of_le h2 (Int.mul_le_mul_of_nonneg_right (by omega) (Int.le_of_lt hp))
    · cases h
theorem apb(l:List Int)(hB:By l):sgR l=sgV l:=by
  cases l with
  | nil=>rfl
  | cons b r=>
    have hb:=hB.head
    simp only[sgR,sgV,refK,anA]
    by_cases c1:b<128
    · rw[if_pos c1,if_pos c1]
    rw[if_neg c1,if_neg c1]
    by_cases c2:b<192
    · rw[if_pos (by omega),if_pos c2]
    rw[if_neg c2]
    by_cases c3:b<194
    · rw[if_pos c3,if_pos (by omega)]
      dsimp only
      by_cases hl:r.length<1
      · rw[if_pos hl]
      · rw[if_neg hl]
        have hlen:(r.take 1).length=1:=by simp;omega
        cases hf:foldV (b % 32) (r.take 1)with
        | none=>rfl
        | some u=>
          have:=(ae4 _ _ _ hf).2
          rw[hlen]at this
          simp only[finV]
          rw[if_pos (by omega)]
    rw[if_neg c3]
    by_cases c4:b<224
    · rw[if_pos c4,if_pos c4]
    rw[if_neg c4,if_neg c4]
    by_cases c5:b<240
    · rw[if_pos c5,if_pos c5]
    rw[if_neg c5,if_neg c5]
    by_cases c6:b<245
    · rw[if_pos c6,if_pos (by omega)]
    rw[if_neg c6]
    by_cases c7:b<248
    · rw[if_pos c7]
      dsimp only
      by_cases hl:r.length<3
      · rw[if_pos hl]
      · rw[if_neg hl]
        have hlen:(r.take 3).length=3:=by simp;omega
        cases hf:foldV (b % 8) (r.take 3)with
        | none=>rfl
        | some u=>
          have:=(ae4 _ _ _ hf).1
          rw[hlen]at this
          have e3:(64:Int) ^ 3=262144:=by decide
          rw[e3]at this
          simp only[finV]
          rw[if_neg (by omega),if_neg (by omega),if_pos (by omega)]
    · rw[if_neg c7]
theorem aiX{e m:Int}{j:Nat}(hm:m=2 ^ j-1)(hj:j<64):iand .i64 e m=e % 2 ^ j:=abv hm hj
theorem aj2(k:Nat){b:List Int}{i n:Nat}(hk:10<=k)(hb:b.length<=1000000000)(hn:n<=1000000000)(hB:By b)(hi:i<b.length) :
    aK.b3 k b ((n:Int),(i:Int))=some (if sgV (b.drop i)=0 then .inr (.inr (n:Int))else .inl (((n+1:Nat):Int),((i+sgV (b.drop i):Nat):Int))):=by
  have hd:b.drop i=b[i]::b.drop (i+1):=List.drop_eq_getElem_cons hi
  have hc:=hB b[i] (List.getElem_mem _)
  have ec:icv .i64 b[i]=b[i]:=apl (by omega) (by omega)
  -- the rest,for a kind
  have rest:∀ {m:Nat}{least v:Int}{G:Nat},m<=3->0<=v->v<128->G=(if(b.drop (i+1)).length<m then 0 else finV m least (foldV v ((b.drop (i+1)).take m))) →
      (if(iadd .i64 (i:Int) (m:Int))≥(b.length:Int)then(some (.inr (.inr (n:Int))))else(altB (loopS (aK.b17 k b (i:Int) (m:Int)) k (v,(1:Int))) (λv693=>(segB (if v693<least then(some (.inr (.inr (.inr (n:Int)))))else(if v693≥55296 then(if v693<57344 then(some (.inr (.inr (.inr (n:Int)))))else(if v693>1114111 then(some (.inr (.inr (.inr (n:Int)))))else(some (.inl ()))))else(if v693>1114111 then(some (.inr (.inr (.inr (n:Int)))))else(some (.inl ()))))) (λ_=>(some (.inl ((iadd .i64 (n:Int) 1),(iadd .i64 (iadd .i64 (i:Int) (m:Int)) 1))))))) (λv694=>(some (.inr (.inr (n:Int)))))):Option ((Int×Int)⊕(Int⊕Int)))
      = some (if G=0 then .inr (.inr (n:Int))else .inl (((n+1:Nat):Int),((i+G:Nat):Int))):=by
    intro m least v G m3 v0 v1 hG
    have ea:iadd .i64 (i:Int) (m:Int)=((i+m:Nat):Int):=by rw[aai (by omega) (by omega)];omega
    rw[ea]
    have hlen:(b.drop (i+1)).length=b.length-(i+1):=List.length_drop ..
    by_cases c:i+m≥b.length
    · rw[if_pos (by rw[hlen];omega)]at hG
      rw[if_pos (by omega),if_pos hG]
    · have hlt:¬(b.drop (i+1)).length<m:=by omega
      rw[if_neg hlt]at hG
      rw[if_neg (by omega)]
      obtain⟨w,hw⟩:=ahb k hb (i:=i) (m:=m) (by omega) m3 hB m 0 v k (by omega) v0 (by omega) (by omega)
      rw[List.drop_zero]at hw
      have e1:iadd .i64 (n:Int) 1=((n+1:Nat):Int):=by rw[aai (by omega) (by omega)];omega
      have e2:iadd .i64 ((i+m:Nat):Int) 1=((i+(m+1):Nat):Int):=by rw[aai (by omega) (by omega)];omega
      rw[e1,e2]
      cases hf:foldV v ((b.drop (i+1)).take m)with
      | none=>
        rw[hf]at hw hG
        have hG0:G=0:=hG
        rw[if_pos hG0]
        exact afQ hw rfl
      | some u=>
        rw[hf]at hw hG
        simp only[finV]at hG
        refine afP hw ?_
        by_cases d1:u<least
        · rw[if_pos d1]at hG
          rw[if_pos d1,if_pos hG];rfl
        rw[if_neg d1]at hG
        rw[if_neg d1]
        by_cases d2:u≥55296
        · rw[if_pos d2]
          by_cases d3:u<57344
          · rw[if_pos (show 55296<=u/\u<=57343 from⟨d2,by omega⟩)]at hG
            rw[if_pos d3,if_pos hG];rfl
          · rw[if_neg (show ¬(55296<=u/\u<=57343)from by omega)]at hG
            rw[if_neg d3]
            by_cases d4:u>1114111
            · rw[if_pos d4]at hG
              rw[if_pos d4,if_pos hG];rfl
            · rw[if_neg d4]at hG
              rw[if_neg d4,if_neg (by omega),hG];rfl
        · rw[if_neg (show ¬(55296<=u/\u<=57343)from by omega)]at hG
          rw[if_neg d2]
          by_cases d4:u>1114111
          · rw[if_pos d4]at hG
            rw[if_pos d4,if_pos hG];rfl
          · rw[if_neg d4]at hG
            rw[if_neg d4,if_neg (by omega),hG];rfl
  rw[<-apb _ (hB.drop i)]
  generalize hG:sgR (b.drop i)=G
  rw[hd]at hG
  simp only[sgR,refK]at hG
  simp only[aK.b3]
  rw[if_pos (by omega)]
  refine acm (o:=b[i]) (by rw[at?_nat];exact List.getElem?_eq_getElem hi) ?_
  rw[ec]
  by_cases c1:b[i]<128
  · rw[if_pos c1]at hG
    rw[if_pos c1]
    exact rest (m:=0) (least:=0) (v:=b[i]) (by omega) hc.1 c1 hG.symm
  rw[if_neg c1]at hG
  rw[if_neg c1]
  by_cases c2:b[i]<194
  · rw[if_pos c2]at hG
    rw[if_neg (by omega)]
    simp only[segB,Bool.false_eq_true,if_false]
    rw[if_neg (by omega)]
    simp only[segB,Bool.false_eq_true,if_false]
    rw[if_neg (by omega),if_pos hG.symm]
  rw[if_neg c2]at hG
  rw[if_pos (by omega)]
  by_cases c3:b[i]<224
  · rw[if_pos c3]at hG
    have e:=aiX (e:=b[i]) (m:=31) (j:=5) (by decide) (by decide)
    simp only[segB,decide_eq_true c3,if_true]
    rw[e]
    exact rest (m:=1) (least:=128) (v:=b[i] % 32) (by omega) (by omega) (by omega) hG.symm
  rw[if_neg c3]at hG
  simp only[segB,decide_eq_false c3,Bool.false_eq_true,if_false]
  rw[if_pos (by omega)]
  by_cases c4:b[i]<240
  · rw[if_pos c4]at hG
    have e:=aiX (e:=b[i]) (m:=15) (j:=4) (by decide) (by decide)
    simp only[segB,decide_eq_true c4,if_true]
    rw[e]
    exact rest (m:=2) (least:=2048) (v:=b[i] % 16) (by omega) (by omega) (by omega) hG.symm
  rw[if_neg c4]at hG
  simp only[segB,decide_eq_false c4,Bool.false_eq_true,if_false]
  rw[if_pos (by omega)]
  by_cases c5:b[i]<245
  · rw[if_pos c5]at hG
    rw[if_pos c5]
    have e:=aiX (e:=b[i]) (m:=7) (j:=3) (by decide) (by decide)
    rw[e]
    exact rest (m:=3) (least:=65536) (v:=b[i] % 8) (by omega) (by omega) (by omega) hG.symm
  · rw[if_neg c5]at hG
    rw[if_neg c5,if_pos hG.symm]
theorem afH(k:Nat){b:List Int}(hk:10<=k)(hb:b.length<=1000000000)(hB:By b):∀ (f i n q:Nat),(b.drop i).length<f->i<=b.length->n<=i->f<=q →
    ∃ w:Int,loopS (aK.b3 k b) q ((n:Int),(i:Int))=some (match cntV f (b.drop i)with
      | some m=>.inl ((n+m:Nat):Int)
      | none=>.inr w)
  | 0,_,_,_,h,_,_,_=>by omega
  | f+1,i,n,0,h,_,_,hq=>by omega
  | f+1,i,n,q+1,h,hi,hn,hq=>by
    by_cases c:i<b.length
    · have hr:=aj2 k hk hb (n:=n) (by omega) hB c
      have hd:b.drop i=b[i]::b.drop (i+1):=List.drop_eq_getElem_cons c
      have hcv:cntV (f+1) (b.drop i)=if sgV (b.drop i)=0 then none else(cntV f ((b.drop i).drop (sgV (b.drop i)))).map (· + 1):=by rw[hd];rfl
      rw[hcv]
      have hle:=amQ (b.drop i)
      by_cases c2:sgV (b.drop i)=0
      · rw[if_pos c2]
        rw[if_pos c2]at hr
        exact⟨_,aan hr⟩
      · rw[if_neg c2]
        rw[if_neg c2]at hr
        rw[List.length_drop]at h hle
        obtain⟨w,hw⟩:=afH k hk hb hB f (i+sgV (b.drop i)) (n+1) q (by rw[List.length_drop];omega) (by omega) (by omega) (by omega)
        refine⟨w,?_⟩
        rw[aaB hr,hw,List.drop_drop]
        cases cntV f (b.drop (i+sgV (b.drop i)))with
        | none=>rfl
        | some m=>simp only[Option.map_some];congr 3;omega
    · have hd:b.drop i=[]:=List.drop_eq_nil_of_le (by omega)
      refine⟨0,aan ?_⟩
      rw[hd]
      simp only[aK.b3]
      rw[if_neg (by omega)]
      rfl
theorem signs_ok(k:Nat){l:List Int}(hB:By l)(hl:l.length<=100000)(hk:200000<=k):aK.f (k+1) l=some (ansV (cnt l)):=by
  obtain⟨w,hw⟩:=afH k (by omega) (by omega) hB (l.length+1) 0 0 k (by simp) (by omega) (by omega) (by omega)
  rw[List.drop_zero]at hw
  simp only[aK.f,cnt]
  cases h:cntV (l.length+1) l with
  | none=>rw[h]at hw;exact afQ hw rfl
  | some m=>rw[h]at hw;refine afP hw ?_;simp only[ansV,Nat.zero_add]
end Go.R4.Tx
