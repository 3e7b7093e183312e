import Derived.Test.YtganajogkdinaaaGreatEvIn
import Derived.Test.YtganajogkdinaaaGreatEvBit
set_option linter.all false
namespace Go.Ev
variable{α β O O2 V:Type}
def Wp(F:Nat->Option α)(P:α->Prop):Prop:=∃ a,P a/\∃ K,∀ k,K<=k->F k=some a
def aaJ(Q:O->Prop)(P:α->Prop):O⊕α->Prop
 |.inl o=>Q o
 |.inr a=>P a
theorem Wp.one{a:α}{P:α->Prop}(h:P a):Wp (λ_=>some a) P:=⟨a,h,0,λ_ _=>rfl⟩
theorem Wp.left{o:O}{Q:O->Prop}{P:α->Prop}(h:Q o):Wp (λ_=>some (.inl o:O⊕α)) (aaJ Q P):=⟨.inl o,h,0,λ_ _=>rfl⟩
theorem Wp.right{a:α}{Q:O->Prop}{P:α->Prop}(h:P a):Wp (λ_=>some (.inr a:O⊕α)) (aaJ Q P):=⟨.inr a,h,0,λ_ _=>rfl⟩
theorem Wp.at_{F:Nat->Option α}{a:α}{P:α->Prop}(K:Nat)(h:∀ k,K<=k->F k=some a)(hp:P a):Wp F P:=⟨a,hp,K,h⟩
theorem Wp.mono{F:Nat->Option α}{P Q:α->Prop}(h:Wp F Q)(hq:∀ a,Q a->P a):Wp F P:=by
 obtain⟨a,ha,K,hK⟩:=h
 exact⟨a,hq a ha,K,hK⟩
theorem Wp.bind{F:Nat->Option α}{G:Nat->α->Option β}{Q:α->Prop}{P:β->Prop}(h:Wp F Q)(hg:∀ a,Q a->Wp (λk=>G k a) P):Wp (λk=>(F k).bind (G k)) P:=by
 obtain⟨a,ha,K,hK⟩:=h
 obtain⟨b,hb,J,hJ⟩:=hg a ha
 refine⟨b,hb,max K J,λk hk=>?_⟩
 simp only[hK k (by omega),Option.bind_some]
 exact hJ k (by omega)
theorem Wp.succ{f:Nat->Option α}{P:α->Prop}(h:Wp (λk=>f (k+1)) P):Wp f P:=by
 obtain⟨a,ha,K,hK⟩:=h
 refine⟨a,ha,K+1,λk hk=>?_⟩
 obtain⟨j,rfl⟩:∃ j,k=j+1:=⟨k-1,by omega⟩
 exact hK j (by omega)
theorem Wp.pos{F G:Nat->Option α}{P:α->Prop}{c:Prop}[Decidable c](hc:c)(h:Wp F P):Wp (λk=>if c then F k else G k) P:=by
 simpa only[if_pos hc]using h
theorem Wp.neg{F G:Nat->Option α}{P:α->Prop}{c:Prop}[Decidable c](hc:¬c)(h:Wp G P):Wp (λk=>if c then F k else G k) P:=by
 simpa only[if_neg hc]using h
theorem Wp.ite{F G:Nat->Option α}{P:α->Prop}{c:Prop}[Decidable c](h1:c->Wp F P)(h2:¬c->Wp G P):Wp (λk=>if c then F k else G k) P:=by
 by_cases hc:c
 ·exact .pos hc (h1 hc)
 ·exact .neg hc (h2 hc)
theorem Wp.seg{F:Nat->Option (O⊕α)}{t:Nat->O->Option α}{Q:O->Prop}{P:α->Prop}(h:Wp F (aaJ Q P))(hl:∀ o,Q o->Wp (λk=>t k o) P):Wp (λk=>segB (F k) (t k)) P:=by
 obtain⟨a,ha,K,hK⟩:=h
 cases a with
 | inl o=>
  obtain⟨b,hb,J,hJ⟩:=hl o ha
  refine⟨b,hb,max K J,λk hk=>?_⟩
  simp only[hK k (by omega),segB]
  exact hJ k (by omega)
 | inr a=>exact⟨a,ha,K,λk hk=>by simp only[hK k hk,segB]⟩
theorem Wp.alt{F:Nat->Option (O⊕O2)}{t:Nat->O->Option α}{t2:Nat->O2->Option α}{Q:O->Prop}{Q2:O2->Prop}{P:α->Prop}(h:Wp F (aaJ Q Q2))(h1:∀ o,Q o->Wp (λk=>t k o) P)(h2:∀ o,Q2 o->Wp (λk=>t2 k o) P) :
  Wp (λk=>altB (F k) (t k) (t2 k)) P:=by
 obtain⟨a,ha,K,hK⟩:=h
 cases a with
 | inl o=>
  obtain⟨b,hb,J,hJ⟩:=h1 o ha
  refine⟨b,hb,max K J,λk hk=>?_⟩
  simp only[hK k (by omega),altB]
  exact hJ k (by omega)
 | inr o=>
  obtain⟨b,hb,J,hJ⟩:=h2 o ha
  refine⟨b,hb,max K J,λk hk=>?_⟩
  simp only[hK k (by omega),altB]
  exact hJ k (by omega)
theorem Wp.loop{b:Nat->V->Option (V⊕O)}{P:O->Prop}(I:Nat->V->Prop)(h:∀ n v,I n v->Wp (λk=>b k v) (aaJ (λv'=>∃ m,m<n/\I m v') P)){n:Nat}{v:V}(h0:I n v):Wp (λk=>loopS (b k) k v) P:=by
 have main:∀ n v,I n v->∃ o,P o/\∃ K N,∀ k,K<=k->∀ q,N<=q->loopS (b k) q v=some o:=by
  intro n
  induction n using Nat.strongRecOn with
  | ind n ih=>
   intro v hv
   obtain⟨a,ha,K,hK⟩:=h n v hv
   cases a with
   | inl v'=>
    obtain⟨m,hm,hi⟩:=ha
    obtain⟨o,ho,K2,N,hN⟩:=ih m hm v' hi
    refine⟨o,ho,max K K2,N+1,λk hk q hq=>?_⟩
    obtain⟨q,rfl⟩:∃ j,q=j+1:=⟨q-1,by omega⟩
    rw[aaB (hK k (by omega))]
    exact hN k (by omega) q (by omega)
   | inr o=>
    refine⟨o,ha,K,1,λk hk q hq=>?_⟩
    obtain⟨q,rfl⟩:∃ j,q=j+1:=⟨q-1,by omega⟩
    exact aan (hK k hk)
 obtain⟨o,ho,K,N,hN⟩:=main n v h0
 exact⟨o,ho,max K N,λk hk=>hN k (by omega) k (by omega)⟩
def Lp(b:Nat->V->Option (V⊕O))(v:V)(P:O->Prop):Prop:=∃ o,P o/\∃ K N,∀ k,K<=k->∀ q,N<=q->loopS (b k) q v=some o
theorem Lp.wp{b:Nat->V->Option (V⊕O)}{v:V}{P:O->Prop}(h:Lp b v P):Wp (λk=>loopS (b k) k v) P:=by
 obtain⟨o,ho,K,N,hN⟩:=h
 exact⟨o,ho,max K N,λk hk=>hN k (by omega) k (by omega)⟩
theorem Lp.step{b:Nat->V->Option (V⊕O)}{v:V}{P:O->Prop}(h:Wp (λk=>b k v) (aaJ (λv'=>Lp b v' P) P)):Lp b v P:=by
 obtain⟨a,ha,K,hK⟩:=h
 cases a with
 | inl v'=>
  obtain⟨o,ho,K2,N,hN⟩:=ha
  refine⟨o,ho,max K K2,N+1,λk hk q hq=>?_⟩
  obtain⟨q,rfl⟩:∃ j,q=j+1:=⟨q-1,by omega⟩
  rw[aaB (hK k (by omega))]
  exact hN k (by omega) q (by omega)
 | inr o=>
  refine⟨o,ha,K,1,λk hk q hq=>?_⟩
  obtain⟨q,rfl⟩:∃ j,q=j+1:=⟨q-1,by omega⟩
  exact aan (hK k hk)
theorem Wp.idx{l:List β}{n:Int}(h0:0<=n)(h1:n<l.length):Wp (λ_=>at? l n) (λx=>l[n.toNat]?=some x):=by
 have h:n.toNat<l.length:=by omega
 refine⟨l[n.toNat],List.getElem?_eq_getElem h,0,λ_ _=>?_⟩
 simp only[at?,if_pos h0,List.getElem?_eq_getElem h]
theorem Wp.get{l:List β}{i:Nat}(h:i<l.length):Wp (λ_=>l[i]?) (λx=>l[i]?=some x):=
 ⟨l[i],List.getElem?_eq_getElem h,0,λ_ _=>List.getElem?_eq_getElem h⟩
theorem Wp.fuel{f:Nat->Option Bool}(h:Wp f (· = true)):∃ k,f k=some true:=by
 obtain⟨a,rfl,K,hK⟩:=h
 exact⟨K,hK K (Nat.le_refl _)⟩
theorem aae{n b:Nat}(h:n*b<=140737488355328)(hn:n<=140737488355328):aad n b:=⟨h,hn⟩
theorem at?_nat(l:List β)(i:Nat):at? l (i:Int)=l[i]?:=by simp[at?]
theorem acm{x:Option α}{f:α->Option β}{o:α}{r:Option β}(h:x=some o)(h2:f o=r):x.bind f=r:=by rw[h];exact h2
end Go.Ev
