import Derived.Test.YtganajogkdinaaaGreatEvMem
set_option linter.all false
namespace Go.Ev
variable[Glo]
set_option linter.unusedSimpArgs false
variable{P:Program}{Φ:Phi}{ρ:Rho}{H:Heap}{s:List A}{a:Act}{w w':World}
theorem aao{b:Nat}{k k':Blk}(h:live H b=some k):live (H.set b (some k')) b=some k':=by
 have:=aaK h
 simp[live,List.getElem?_set,this]
theorem aah{b b':Nat}{x:Option Blk}(h:b'≠b):live (H.set b x) b'=live H b':=by
 simp[live,List.getElem?_set,Ne.symm h]
theorem aaC{b b':Nat}{k:Blk}(h:live (H.set b none) b'=some k):b'≠b/\live H b'=some k:=by
 by_cases hb:b'=b
 ·subst hb
  simp only[live]at h
  by_cases hl:b'<H.length
  ·simp[List.getElem?_set,hl]at h
  ·simp[List.getElem?_set,hl]at h
 ·exact⟨hb,by rwa[aah hb]at h⟩
theorem aar{b:Nat}{x:Heap}(h:b<H.length):live (H++x) b=live H b:=by
 simp[live,List.getElem?_append,h]
theorem aal{k:Blk}:live (H++[some k]) H.length=some k:=by simp[live]
theorem aaF{b:Nat}{k k':Blk}(h:live (H++[some k]) b=some k'):(b<H.length/\live H b=some k')∨(b=H.length/\k'=k):=by
 by_cases hb:b<H.length
 ·rw[aar hb]at h;exact .inl ⟨hb,h⟩
 ·have:=aaK h
  have:b=H.length:=by simp at this;omega
  subst this
  rw[aal]at h
  cases h;exact .inr ⟨rfl,rfl⟩
theorem abB{b:Nat}{k k':Blk}(hk:live H b=some k)(h1:k'.sz=k.sz)(h2:k'.len=k.len):Ext Φ ρ H Φ ρ (H.set b (some k'))where
 phi:=λ_ _ h=>h
 len:=by simp
 rho:=λ_ _=>rfl
 keep:=λb' x hb hx=>by
  by_cases hbb:b'=b
  ·subst hbb
   rw[aao hk]at hx;cases hx
   exact⟨k,hk,h1.symm,h2.symm⟩
  ·rw[aah hbb]at hx
   exact⟨x,hx,rfl,rfl⟩
theorem acW{b:Nat}{k k':Blk}{inf:Inf}{arr':Array Value}{ty:TypeId}{fz:Nat×Nat}(hr:HR Φ ρ H w)(hk:live H b=some k)(hρ:ρ b=some inf)
  (h1:k'.sz=k.sz) (h2:k'.len=k.len) (ho:∀ d,d≠inf.c->w'.heap[d]?=w.heap[d]?) (hsz:w'.heap.size=w.heap.size)
  (hc:w'.heap[inf.c]?=some (.cells arr' ty fz)) (hfz:fzOk arr'.size fz) (ha:arr'.size=inf.asz)
  (he:ELR Φ ρ (H.set b (some k')) k'.el k'.sz (arr'[·]?) inf.base) (hio:Io w w') (hm:k.isMp=false:=by first | rfl | assumption | exact EL.blk_cel _ _) (hm':k'.isMp=false:=by first | rfl | assumption | exact EL.blk_cel _ _):Stp Φ ρ H w Φ ρ (H.set b (some k')) w':=by
 have ext:=abB (Φ:=Φ) (ρ:=ρ) hk h1 h2
 refine⟨ext,⟨?_,?_,?_,hr.glo,?_⟩,?_,?_,λ_ _ h=>.inl h,Nat.le_of_eq hsz.symm,hio⟩
 ·intro c arr hp
  obtain⟨ty,fz,hw⟩:=hr.fro c arr hp
  have:c≠inf.c:=by
   rintro rfl
   rw[(hr.own b k inf hk hm hρ).1]at hp;cases hp
  exact⟨ty,fz,by rw[ho c this];exact hw⟩
 ·intro b' x inf' hx hmx hρ'
  by_cases hbb:b'=b
  ·subst hbb
   rw[aao hk]at hx;cases hx
   rw[hρ]at hρ';cases hρ'
   obtain⟨g1,arr,ty',fz',g2,g3,g4,g5,g6⟩:=hr.own b' k inf hk hm hρ
   exact⟨g1,arr',ty,fz,hc,hfz,ha,by rw[h1,h2,ha,<-g4];exact g5,he⟩
  ·rw[aah hbb]at hx
   obtain⟨g1,arr,ty',fz',g2,g3,g4,g5,g6⟩:=hr.own b' x inf' hx hmx hρ'
   have hne:inf'.c≠inf.c:=λe=>hbb (hr.inj b' b x k inf' inf hx hk hρ' hρ e)
   exact⟨g1,arr,ty',fz',by rw[ho _ hne];exact g2,g3,g4,g5,aau ext g6⟩
 ·intro b1 b2 k1 k2 i1 i2 l1 l2 r1 r2 e
  have get:∀ b' x,live (H.set b (some k')) b'=some x->∃ y,live H b'=some y:=by
   intro b' x hx
   by_cases hbb:b'=b
   ·subst hbb;exact⟨k,hk⟩
   ·rw[aah hbb]at hx;exact⟨x,hx⟩
  obtain⟨y1,hy1⟩:=get _ _ l1
  obtain⟨y2,hy2⟩:=get _ _ l2
  exact hr.inj b1 b2 y1 y2 i1 i2 hy1 hy2 r1 r2 e
 ·intro b' kk es inf' hx hρ'
  by_cases hbb:b'=b
  ·subst hbb
   rw[aao hk]at hx;cases hx;cases hm'
  ·rw[aah hbb]at hx
   obtain⟨g1,l,q,g2,g3⟩:=hr.mps b' kk es inf' hx hρ'
   have hne:inf'.c≠inf.c:=λe=>hbb (hr.inj b' b _ k inf' inf hx hk hρ' hρ e)
   exact⟨g1,l,q,by rw[ho _ hne];exact g2,g3⟩
 ·intro c _ hn
  exact ho c (λe=>hn ⟨b,k,inf,hk,hρ,e.symm⟩)
 ·rintro c ⟨b',x,inf',hx,hρ',rfl⟩
  left
  by_cases hbb:b'=b
  ·subst hbb;exact⟨b',k,inf',hk,hρ',rfl⟩
  ·rw[aah hbb]at hx;exact⟨b',x,inf',hx,hρ',rfl⟩
def upd(ρ:Rho)(b:Nat)(x:Option Inf):Rho:=λb'=>if b'=b then x else ρ b'
theorem upd_self{b:Nat}{x:Option Inf}:upd ρ b x b=x:=by simp[upd]
theorem aay{b b':Nat}{x:Option Inf}(h:b'≠b):upd ρ b x b'=ρ b':=by simp[upd,h]
structure Less(H H1:Heap):Prop where
 len:H1.length=H.length
 sub:∀ b k,live H1 b=some k->live H b=some k
theorem Less.refl(H:Heap):Less H H:=⟨rfl,λ_ _ h=>h⟩
theorem Less.kill(H:Heap)(b:Nat):Less H (H.set b none):=⟨by simp,λb' k h=>(aaC h).2⟩
theorem aby{H1:Heap}{k:Blk}{x:Option Inf}(hl:Less H H1):Ext Φ ρ H Φ (upd ρ H.length x) (H1++[some k])where
 phi:=λ_ _ h=>h
 len:=by simp[hl.len]
 rho:=λb hb=>aay (by omega)
 keep:=λb k' hb hk=>by
  rw[aar (by rw[hl.len];exact hb)]at hk
  exact⟨k',hl.sub _ _ hk,rfl,rfl⟩
theorem ab3{H1:Heap}{k:Blk}{inf:Inf}{arr':Array Value}{ty:TypeId}{fz:Nat×Nat}(hr:HR Φ ρ H w)(hl:Less H H1)
  (ho:∀ d,d<w.heap.size->d≠inf.c->w'.heap[d]?=w.heap[d]?) (hsz:w.heap.size<=w'.heap.size) (hΦ:Φ inf.c=none)
  (hfresh:w.heap.size<=inf.c∨Foot ρ H inf.c) (hfresh':∀ b x i,live H1 b=some x->ρ b=some i->i.c≠inf.c)
  (hc:w'.heap[inf.c]?=some (.cells arr' ty fz)) (hfz:fzOk arr'.size fz) (ha:arr'.size=inf.asz) (hb:inf.base+k.len*k.sz<=arr'.size)
  (he:ELR Φ (upd ρ H.length (some inf)) (H1++[some k]) k.el k.sz (arr'[·]?) inf.base) (hio:Io w w') (hm:k.isMp=false:=by first | rfl | assumption | exact EL.blk_cel _ _):Stp Φ ρ H w Φ (upd ρ H.length (some inf)) (H1++[some k]) w':=by
 have ext:=aby (Φ:=Φ) (ρ:=ρ) (k:=k) (x:=some inf) hl
 refine⟨ext,⟨?_,?_,?_,hr.glo,?_⟩,?_,?_,λ_ _ h=>.inl h,hsz,hio⟩
 ·intro c arr hp
  obtain⟨ty,fz,hw⟩:=hr.fro c arr hp
  have hlt:c<w.heap.size:=(Array.getElem?_eq_some_iff.1 hw).1
  have:c≠inf.c:=by
   rintro rfl
   rw[hΦ]at hp;cases hp
  exact⟨ty,fz,by rw[ho c hlt this];exact hw⟩
 ·intro b' x inf' hx hmx hρ'
  rcases aaF hx with⟨hbl,hx⟩ | ⟨rfl,rfl⟩
  ·rw[hl.len]at hbl
   rw[aay (by omega)]at hρ'
   obtain⟨g1,arr,ty',fz',g2,g3,g4,g5,g6⟩:=hr.own b' x inf' (hl.sub _ _ hx) hmx hρ'
   have hlt:inf'.c<w.heap.size:=(Array.getElem?_eq_some_iff.1 g2).1
   exact⟨g1,arr,ty',fz',by rw[ho _ hlt (hfresh' _ _ _ hx hρ')];exact g2,g3,g4,g5,aau ext g6⟩
  ·rw[hl.len,upd_self]at hρ';cases hρ'
   exact⟨hΦ,arr',ty,fz,hc,hfz,ha,hb,he⟩
 ·intro b1 b2 k1 k2 i1 i2 l1 l2 r1 r2 e
  rcases aaF l1 with⟨q1,m1⟩ | ⟨m1,n1⟩ <;> rcases aaF l2 with⟨q2,m2⟩ | ⟨m2,n2⟩
  ·rw[hl.len]at q1 q2
   rw[aay (by omega)]at r1 r2
   exact hr.inj b1 b2 k1 k2 i1 i2 (hl.sub _ _ m1) (hl.sub _ _ m2) r1 r2 e
  ·rw[m2,hl.len,upd_self]at r2;cases r2
   rw[hl.len]at q1
   rw[aay (by omega)]at r1
   exact absurd e (hfresh' _ _ _ m1 r1)
  ·rw[m1,hl.len,upd_self]at r1;cases r1
   rw[hl.len]at q2
   rw[aay (by omega)]at r2
   exact absurd e.symm (hfresh' _ _ _ m2 r2)
  ·rw[m1,m2]
 ·intro b' kk es inf' hx hρ'
  rcases aaF hx with⟨hbl,hx⟩ | ⟨rfl,rfl⟩
  ·rw[hl.len]at hbl
   rw[aay (by omega)]at hρ'
   obtain⟨g1,l,q,g2,g3⟩:=hr.mps b' kk es inf' (hl.sub _ _ hx) hρ'
   have hlt:inf'.c<w.heap.size:=(Array.getElem?_eq_some_iff.1 g2).1
   exact⟨g1,l,q,by rw[ho _ hlt (hfresh' _ _ _ hx hρ')];exact g2,g3⟩
  ·cases hm
 ·intro c hc' hn
  refine ho c hc' (λe=>?_)
  rcases hfresh with h | h
  ·omega
  ·exact hn (e ▸ h)
 ·rintro c ⟨b',x,inf',hx,hρ',rfl⟩
  rcases aaF hx with⟨hbl,hx⟩ | ⟨rfl,rfl⟩
  ·rw[hl.len]at hbl
   rw[aay (by omega)]at hρ'
   exact .inl ⟨b',x,inf',hl.sub _ _ hx,hρ',rfl⟩
  ·rw[hl.len,upd_self]at hρ';cases hρ'
   exact hfresh.symm
theorem aaZ{H1:Heap}{k:Blk}(hr:HR Φ ρ H w)(hl:Less H H1):Stp Φ ρ H w Φ (upd ρ H.length none) (H1++[some k]) w:=by
 have ext:=aby (Φ:=Φ) (ρ:=ρ) (k:=k) (x:=none) hl
 refine⟨ext,⟨hr.fro,?_,?_,hr.glo,?_⟩,λ_ _ _=>rfl,?_,λ_ _ h=>.inl h,Nat.le_refl _,.refl _⟩
 ·intro b' x inf' hx hmx hρ'
  rcases aaF hx with⟨hbl,hx⟩ | ⟨rfl,rfl⟩
  ·rw[hl.len]at hbl
   rw[aay (by omega)]at hρ'
   obtain⟨g1,arr,ty',fz',g2,g3,g4,g5,g6⟩:=hr.own b' x inf' (hl.sub _ _ hx) hmx hρ'
   exact⟨g1,arr,ty',fz',g2,g3,g4,g5,aau ext g6⟩
  ·rw[hl.len,upd_self]at hρ';cases hρ'
 ·intro b1 b2 k1 k2 i1 i2 l1 l2 r1 r2 e
  rcases aaF l1 with⟨q1,l1⟩ | ⟨rfl,rfl⟩
  ·rcases aaF l2 with⟨q2,l2⟩ | ⟨rfl,rfl⟩
   ·rw[hl.len]at q1 q2
    rw[aay (by omega)]at r1 r2
    exact hr.inj b1 b2 k1 k2 i1 i2 (hl.sub _ _ l1) (hl.sub _ _ l2) r1 r2 e
   ·rw[hl.len,upd_self]at r2;cases r2
  ·rw[hl.len,upd_self]at r1;cases r1
 ·intro b' kk es inf' hx hρ'
  rcases aaF hx with⟨hbl,hx⟩ | ⟨rfl,rfl⟩
  ·rw[hl.len]at hbl
   rw[aay (by omega)]at hρ'
   exact hr.mps b' kk es inf' (hl.sub _ _ hx) hρ'
  ·rw[hl.len,upd_self]at hρ';cases hρ'
 ·rintro c ⟨b',x,inf',hx,hρ',rfl⟩
  rcases aaF hx with⟨hbl,hx⟩ | ⟨rfl,rfl⟩
  ·rw[hl.len]at hbl
   rw[aay (by omega)]at hρ'
   exact .inl ⟨b',x,inf',hl.sub _ _ hx,hρ',rfl⟩
  ·rw[hl.len,upd_self]at hρ';cases hρ'
theorem anP{b:Nat}{kk:Option IntKind}{es es':List (FV×FV)}{inf:Inf}{l:Array MapEntry}{q:Nat}(hr:HR Φ ρ H w)(hk:live H b=some (.mp kk es))(hρ:ρ b=some inf)(h:MR Φ kk es' l.toList) :
  Stp Φ ρ H w Φ ρ (H.set b (some (.mp kk es'))) { w with heap:=w.heap.setIfInBounds inf.c (.map l q) }:=by
 have ext:=abB (Φ:=Φ) (ρ:=ρ) (k':=.mp kk es') hk rfl rfl
 obtain⟨f1,l0,q0,f2,f3⟩:=hr.mps b kk es inf hk hρ
 have hlt:inf.c<w.heap.size:=(Array.getElem?_eq_some_iff.1 f2).1
 have ho:∀ d,d≠inf.c->(w.heap.setIfInBounds inf.c (.map l q))[d]?=w.heap[d]?:=λd hd=>Array.getElem?_setIfInBounds_ne (Ne.symm hd)
 refine⟨ext,⟨?_,?_,?_,hr.glo,?_⟩,?_,?_,λ_ _ h=>.inl h,by simp,⟨rfl,rfl,rfl⟩⟩
 ·intro c arr hp
  obtain⟨ty,fz,hw⟩:=hr.fro c arr hp
  have:c≠inf.c:=by rintro rfl;rw[f1]at hp;cases hp
  exact⟨ty,fz,by rw[ho c this];exact hw⟩
 ·intro b' x inf' hx hmx hρ'
  by_cases hbb:b'=b
  ·subst hbb
   rw[aao hk]at hx;cases hx;cases hmx
  ·rw[aah hbb]at hx
   obtain⟨g1,arr,ty',fz',g2,g3,g4,g5,g6⟩:=hr.own b' x inf' hx hmx hρ'
   have hne:inf'.c≠inf.c:=λe=>hbb (hr.inj b' b x _ inf' inf hx hk hρ' hρ e)
   exact⟨g1,arr,ty',fz',by rw[ho _ hne];exact g2,g3,g4,g5,aau ext g6⟩
 ·intro b1 b2 k1 k2 i1 i2 l1 l2 r1 r2 e
  have get:∀ b' x,live (H.set b (some (.mp kk es'))) b'=some x->∃ y,live H b'=some y:=by
   intro b' x hx
   by_cases hbb:b'=b
   ·subst hbb;exact⟨_,hk⟩
   ·rw[aah hbb]at hx;exact⟨x,hx⟩
  obtain⟨y1,hy1⟩:=get _ _ l1
  obtain⟨y2,hy2⟩:=get _ _ l2
  exact hr.inj b1 b2 y1 y2 i1 i2 hy1 hy2 r1 r2 e
 ·intro b' kk' es2 inf' hx hρ'
  by_cases hbb:b'=b
  ·subst hbb
   rw[aao hk]at hx;cases hx
   rw[hρ]at hρ';cases hρ'
   exact⟨f1,l,q,by simp[hlt],h⟩
  ·rw[aah hbb]at hx
   obtain⟨g1,l1,q1,g2,g3⟩:=hr.mps b' kk' es2 inf' hx hρ'
   have hne:inf'.c≠inf.c:=λe=>hbb (hr.inj b' b _ _ inf' inf hx hk hρ' hρ e)
   exact⟨g1,l1,q1,by rw[ho _ hne];exact g2,g3⟩
 ·intro c _ hn
  exact ho c (λe=>hn ⟨b,_,inf,hk,hρ,e.symm⟩)
 ·rintro c ⟨b',x,inf',hx,hρ',rfl⟩
  left
  by_cases hbb:b'=b
  ·subst hbb;exact⟨b',_,inf',hk,hρ',rfl⟩
  ·rw[aah hbb]at hx;exact⟨b',x,inf',hx,hρ',rfl⟩
theorem aiC{kk:Option IntKind}(hr:HR Φ ρ H w):Stp Φ ρ H w Φ (upd ρ H.length (some ⟨w.heap.size,0,0⟩)) (H++[some (.mp kk [])]) { w with heap:=w.heap.push (.map #[] 0) }:=by
 have hl:=Less.refl H
 have ext:=aby (Φ:=Φ) (ρ:=ρ) (k:=.mp kk []) (x:=some ⟨w.heap.size,0,0⟩) hl
 have ho:∀ d,d<w.heap.size->(w.heap.push (.map #[] 0))[d]?=w.heap[d]?:=λd hd=>by rw[Array.getElem?_push_lt hd];simp[hd]
 have hfresh:Φ w.heap.size=none:=by
  cases h:Φ w.heap.size with
  | none=>rfl
  | some arr=>
   obtain⟨ty,fz,hw⟩:=hr.fro _ _ h
   have:=(Array.getElem?_eq_some_iff.1 hw).1
   omega
 refine⟨ext,⟨?_,?_,?_,hr.glo,?_⟩,λc hc _=>ho c hc,?_,λ_ _ h=>.inl h,by simp,⟨rfl,rfl,rfl⟩⟩
 ·intro c arr hp
  obtain⟨ty,fz,hw⟩:=hr.fro c arr hp
  exact⟨ty,fz,by rw[ho c (Array.getElem?_eq_some_iff.1 hw).1];exact hw⟩
 ·intro b' x inf' hx hmx hρ'
  rcases aaF hx with⟨hbl,hx⟩ | ⟨rfl,rfl⟩
  ·rw[aay (by omega)]at hρ'
   obtain⟨g1,arr,ty',fz',g2,g3,g4,g5,g6⟩:=hr.own b' x inf' hx hmx hρ'
   exact⟨g1,arr,ty',fz',by rw[ho _ (Array.getElem?_eq_some_iff.1 g2).1];exact g2,g3,g4,g5,aau ext g6⟩
  ·cases hmx
 ·intro b1 b2 k1 k2 i1 i2 l1 l2 r1 r2 e
  rcases aaF l1 with⟨q1,m1⟩ | ⟨m1,n1⟩ <;> rcases aaF l2 with⟨q2,m2⟩ | ⟨m2,n2⟩
  ·rw[aay (by omega)]at r1 r2
   exact hr.inj b1 b2 k1 k2 i1 i2 m1 m2 r1 r2 e
  ·rw[m2,upd_self]at r2;cases r2
   rw[aay (by omega)]at r1
   have:=(hr.fresh m1 r1).2
   simp only at e;omega
  ·rw[m1,upd_self]at r1;cases r1
   rw[aay (by omega)]at r2
   have:=(hr.fresh m2 r2).2
   simp only at e;omega
  ·rw[m1,m2]
 ·intro b' kk' es inf' hx hρ'
  rcases aaF hx with⟨hbl,hx⟩ | ⟨rfl,he⟩
  ·rw[aay (by omega)]at hρ'
   obtain⟨g1,l,q,g2,g3⟩:=hr.mps b' kk' es inf' hx hρ'
   exact⟨g1,l,q,by rw[ho _ (Array.getElem?_eq_some_iff.1 g2).1];exact g2,g3⟩
  ·cases he
   rw[upd_self]at hρ';cases hρ'
   exact⟨hfresh,#[],0,by simp,rfl,λi x h=>by simp at h⟩
 ·rintro c ⟨b',x,inf',hx,hρ',rfl⟩
  rcases aaF hx with⟨hbl,hx⟩ | ⟨rfl,hx⟩
  ·rw[aay (by omega)]at hρ'
   exact .inl ⟨b',x,inf',hx,hρ',rfl⟩
  ·rw[upd_self]at hρ';cases hρ'
   exact .inr (Nat.le_refl _)
theorem aaT{c:Nat}:∀ {vs:List Value}{i off:Nat}{w:World}{arr:Array Value}{ty:TypeId}{fz:Nat×Nat},w.heap[c]?=some (.cells arr ty fz)->off+i+vs.length<=arr.size →
  (∀ o,o<arr.size->¬(fz.1<=o/\o<fz.2))->(∀ u∈vs,u.oneCell'=true) →
  ∃ w' arr',(storeCells ⟨c,off,none⟩ vs i).run P w = .ok () w'/\w'.heap.size=w.heap.size/\(∀ d,d≠c->w'.heap[d]?=w.heap[d]?)/\w'.heap[c]?=some (.cells arr' ty fz)/\arr'.size=arr.size ∧
   (∀ j,arr'[j]?=if off+i<=j/\j<off+i+vs.length then vs[j-(off+i)]? else arr[j]?)/\Io w w'
 | [],i,off,w,arr,ty,fz,hw,_,_,_=>⟨w,arr,rfl,rfl,λ_ _=>rfl,hw,rfl,λj=>by rw[if_neg];simp only[List.length_nil];omega,.refl _⟩
 | v::vs,i,off,w,arr,ty,fz,hw,hle,hfz,h1=>by
  simp only[List.length_cons]at hle
  have hv:v.oneCell'=true:=h1 v (by simp)
  have hlt:off+i<arr.size:=by omega
  have hcell:w.cell? ⟨c,off+i,none⟩=some arr[off+i]:=by rw[acr hw];simp[hlt]
  have hnf:w.frozen? ⟨c,off+i,none⟩=false:=by
   have:=hfz _ hlt
   simp only[World.frozen?,hw,Bool.and_eq_false_iff,decide_eq_false_iff_not]
   omega
  have hc:c<w.heap.size:=(Array.getElem?_eq_some_iff.1 hw).1
  have hw':(w.setCell ⟨c,off+i,none⟩ v).heap[c]?=some (.cells (arr.setIfInBounds (off+i) v) ty fz):=by
   simp[World.setCell,Array.getElem?_modify,hw]
  obtain⟨w',arr',e1,e2,e3,e4,e5,e6,e7⟩:=aaT (vs:=vs) (i:=i+1) (off:=off) hw' (by simp;omega) (λo ho=>hfz o (by simpa using ho)) (λu hu=>h1 u (by simp[hu]))
  refine⟨w',arr',?_,by rw[e2];simp[World.setCell],λd hd=>?_,e4,by rw[e5];simp,λj=>?_,⟨e7.os,e7.tape,e7.output⟩⟩
  ·simp only[storeCells,Sem.run_bind,addr_add]
   rw[run_store P w ⟨c,off+i,none⟩ v .plain hv]
   simp only[hcell,hnf]
   exact e1
  ·rw[e3 d hd]
   simp[World.setCell,Array.getElem?_modify,Ne.symm hd]
  ·rw[e6]
   simp only[List.length_cons]
   by_cases hj:j=off+i
   ·subst hj
    rw[if_neg (by omega),if_pos (by omega)]
    simp[hlt]
   ·by_cases hc:off+(i+1)<=j/\j<off+(i+1)+vs.length
    ·rw[if_pos hc,if_pos (by omega)]
     obtain⟨m,hm⟩:∃ m,j-(off+i)=m+1:=⟨j-(off+i)-1,by omega⟩
     rw[hm,List.getElem?_cons_succ]
     congr 1;omega
    ·rw[if_neg hc,if_neg (by omega),Array.getElem?_setIfInBounds_ne (by omega)]
end Go.Ev
