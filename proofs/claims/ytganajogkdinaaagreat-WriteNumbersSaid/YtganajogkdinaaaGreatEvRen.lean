import Derived.Test.YtganajogkdinaaaGreatEvApp
set_option linter.all false
namespace Go.Ev
variable[Glo]
set_option linter.unusedSimpArgs false
variable{P:Program}{Φ:Phi}{ρ ρ2:Rho}{H H2:Heap}{s:List A}{a:Act}{w w':World}{g:Nat->Option Nat}
theorem adE(g:Nat->Option Nat):∀ l:List C,(renL g l).length=l.length
 | []=>rfl
 | x::r=>by simp[renL,adE g r]
structure Rn(g:Nat->Option Nat)(ρ:Rho)(H:Heap)(ρ2:Rho)(H2:Heap):Prop where
 lt:∀ b b',b<H.length->g b=some b'->b'<H2.length
 keep:∀ b b' k',b<H.length->g b=some b'->live H2 b'=some k'->∃ k,live H b=some k/\k.sz=k'.sz/\k.len=k'.len/\∀ inf,ρ b=some inf->ρ2 b'=some inf
mutual
theorem amX(e:Rn g ρ H ρ2 H2):∀ (x:C) (v:Value),CR Φ ρ H x v->CR Φ ρ2 H2 (x.ren g) v
 |.und,_,h=>by simpa[CR,C.ren]using h
 |.v x,v,h=>by simpa[CR,C.ren]using h
 |.ptr b sz i o,v,h=>by
  have h0:=ad9 h
  simp only[C.ren]
  cases hg:g b with
  | none=>simpa only[CR]using h0
  | some b'=>
   simp only[CR]at h ⊢
   obtain⟨a,rfl,hb,h1⟩:=h
   refine⟨a,rfl,e.lt b b' hb hg,λk' hk'=>?_⟩
   obtain⟨k,hk,e1,e2,e3⟩:=e.keep b b' k' hb hg hk'
   obtain⟨h2,inf,h3,h4⟩:=h1 k hk
   exact⟨e1 ▸ h2,inf,e3 _ h3,h4⟩
 |.sl b sz i n cap,v,h=>by
  have h0:=ad9 h
  simp only[C.ren]
  cases hg:g b with
  | none=>simpa only[CR]using h0
  | some b'=>
   simp only[CR]at h ⊢
   obtain⟨p,k,rfl,hc,hp,hb,h1⟩:=h
   refine⟨p,k,rfl,hc,hp,e.lt b b' hb hg,λk' hk'=>?_⟩
   obtain⟨x,hk,e1,e2,e3⟩:=e.keep b b' k' hb hg hk'
   obtain⟨h2,h3,h4,h5⟩:=h1 x hk
   refine⟨e1 ▸ h2,e2 ▸ h3,λhn=>e2 ▸ h4 hn,?_⟩
   rcases h5 with h5 | ⟨inf,h5,h6,h7⟩
   ·exact .inl h5
   ·exact .inr ⟨inf,e3 _ h5,h6,h7⟩
 |.slw b sz n,v,h=>by
  have h0:=ad9 h
  simp only[C.ren]
  cases hg:g b with
  | none=>simpa only[CR]using h0
  | some b'=>
   simp only[CR]at h ⊢
   obtain⟨p,k,rfl,hc,hp,hb,h1⟩:=h
   refine⟨p,k,rfl,hc,hp,e.lt b b' hb hg,λk' hk'=>?_⟩
   obtain⟨x,hk,e1,e2,e3⟩:=e.keep b b' k' hb hg hk'
   obtain⟨h2,h3,h5⟩:=h1 x hk
   refine⟨e1 ▸ h2,e2 ▸ h3,?_⟩
   rcases h5 with h5 | ⟨inf,h5,h6,h7⟩
   ·exact .inl h5
   ·exact .inr ⟨inf,e3 _ h5,h6,h7⟩
 |.fn f caps,v,h=>by
  simp only[CR,C.ren]at h ⊢
  obtain⟨arr,rfl,h1,h2⟩:=h
  refine⟨arr,rfl,?_,afj e caps _ _ h2⟩
  rw[h1,adE]
 |.mp b,v,h=>by
  have h0:=ad9 h
  simp only[C.ren]
  cases hg:g b with
  | none=>simpa only[CR]using h0
  | some b'=>
   simp only[CR]at h ⊢
   obtain⟨c,rfl,hb,h1⟩:=h
   refine⟨c,rfl,e.lt b b' hb hg,λk' hk'=>?_⟩
   obtain⟨k,hk,e1,e2,e3⟩:=e.keep b b' k' hb hg hk'
   obtain⟨inf,h3,h4⟩:=h1 k hk
   exact⟨inf,e3 _ h3,h4⟩
theorem afj(e:Rn g ρ H ρ2 H2):∀ (l:List C) (q:Nat->Option Value) (off:Nat),CRs Φ ρ H l q off->CRs Φ ρ2 H2 (renL g l) q off
 | [],_,_,_=>by simp[CRs,renL]
 | x::r,q,off,h=>by
  simp only[CRs,renL]at h ⊢
  obtain⟨⟨v,h1,h2⟩,h3⟩:=h
  exact⟨⟨v,h1,amX e x v h2⟩,afj e r q _ h3⟩
end
theorem ajN(e:Rn g ρ H ρ2 H2):∀ (l:List (List C)) (sz:Nat) (q:Nat->Option Value) (off:Nat),CRe Φ ρ H l sz q off->CRe Φ ρ2 H2 (l.map (renL g)) sz q off
 | [],_,_,_,_=>by simp[CRe]
 | x::r,sz,q,off,h=>by
  simp only[CRe,List.map_cons]at h ⊢
  obtain⟨h0,h1,h2⟩:=h
  exact⟨by rw[adE];exact h0,afj e x q _ h1,ajN e r sz q _ h2⟩
mutual
theorem ahY(e:Rn g ρ H ρ2 H2):∀ (x:A) (v:Value),AR Φ ρ H x v->AR Φ ρ2 H2 (x.ren g) v
 |.und,_,_=>by simp[AR,A.ren]
 |.c x,v,h=>by simp only[AR,A.ren]at h ⊢;exact amX e x v h
 |.agp cs,v,h=>by simpa only[AR,A.ren]using h
 |.agm cs,v,h=>by
  simp only[AR,A.ren]at h ⊢
  obtain⟨arr,rfl,h1,h2⟩:=h
  exact⟨arr,rfl,by rw[adE];exact h1,afj e _ _ _ h2⟩
 |.tup l,v,h=>by
  simp only[AR,A.ren]at h ⊢
  obtain⟨arr,rfl,h1⟩:=h
  exact⟨arr,rfl,agC e l _ h1⟩
theorem agC(e:Rn g ρ H ρ2 H2):∀ (l:List A) (vs:List Value),ARs Φ ρ H l vs->ARs Φ ρ2 H2 (renAs g l) vs
 | [],_,h=>by simpa[ARs,renAs]using h
 | x::r,vs,h=>by
  simp only[ARs,renAs]at h ⊢
  obtain⟨v,l',rfl,h1,h2⟩:=h
  exact⟨v,l',rfl,ahY e x v h1,agC e r l' h2⟩
end
theorem Blk.ren_sz(k:Blk):(k.ren g).sz=k.sz:=by cases k <;> rfl
theorem Blk.ren_len(k:Blk):(k.ren g).len=k.len:=by cases k <;> simp[Blk.ren,Blk.len]
theorem ajl(e:Rn g ρ H ρ2 H2){k:Blk}{q:Nat->Option Value}{off:Nat}(h:ELR Φ ρ H k.el k.sz q off):ELR Φ ρ2 H2 (k.ren g).el (k.ren g).sz q off:=by
 cases k with
 | pur sz l=>exact h
 | mix sz l=>exact ajN e l sz q off h
 | mp=>exact h
theorem Blk.ren_cel{k:Blk}(h:(k.ren g).isMp=false):k.isMp=false:=by cases k <;> first | rfl | cases h
theorem Blk.ren_mp{k:Blk}{kk:Option IntKind}{es:List (FV×FV)}(h:k.ren g = .mp kk es):k = .mp kk es:=by
 cases k <;> simp only[Blk.ren]at h <;> first | cases h | exact h
 rfl
theorem adh:∀ {R:List Nat}{b j:Nat},pos R b=some j->R[j]?=some b
 | [],b,j,h=>by simp[pos]at h
 | x::r,b,j,h=>by
  simp only[pos]at h
  split at h
  ·rename_i hx;cases h;simp[hx]
  ·simp only[Option.map_eq_some_iff]at h
   obtain⟨i,hi,rfl⟩:=h
   simpa using adh hi
theorem afv:∀ {R:List Nat}{b:Nat},pos R b=none->b ∉ R
 | [],b,_=>by simp
 | x::r,b,h=>by
  simp only[pos]at h
  split at h
  ·cases h
  ·rename_i hx
   have:=afv (R:=r) (b:=b) (by simpa using h)
   simp only[List.mem_cons,not_or]
   exact⟨λe=>hx e.symm,this⟩
theorem acj:∀ {R:List Nat}{b j:Nat},R.Nodup->R[j]?=some b->pos R b=some j
 | [],b,j,_,h=>by simp at h
 | x::r,b,0,_,h=>by simp at h;simp[pos,h]
 | x::r,b,j+1,hn,h=>by
  simp only[List.nodup_cons]at hn
  have hb:b∈r:=List.mem_of_getElem? (by simpa using h)
  have:x≠b:=λe=>hn.1 (e ▸ hb)
  simp only[pos,if_neg this]
  rw[acj hn.2 (by simpa using h)]
  rfl
theorem acX(H:Heap):∀ (n:Nat) (todo acc:List Nat),acc.Nodup->(∀ b∈acc,b<H.length)->(abY H n todo acc).Nodup/\∀ b∈abY H n todo acc,b<H.length
 | 0,_,acc,h,h'=>⟨h,h'⟩
 | n+1,[],acc,h,h'=>⟨h,h'⟩
 | n+1,b::todo,acc,h,h'=>by
  simp only[abY]
  split
  ·exact acX H n todo acc h h'
  ·rename_i hc
   split
   ·rename_i k hk
    refine acX H n _ _ ?_ ?_
    ·rw[List.nodup_append]
     refine⟨h,by simp,λx hx y hy=>?_⟩
     simp only[List.mem_singleton]at hy
     subst hy
     rintro rfl
     simp at hc
     exact hc hx
    ·intro x hx
     rcases List.mem_append.1 hx with hx | hx
     ·exact h' x hx
     ·simp only[List.mem_singleton]at hx
      subst hx
      exact aaK hk
   ·exact acX H n todo acc h h'
def subRho(ρ:Rho)(R:List Nat):Rho:=λj=>(R[j]?).bind ρ
theorem aa3(H:Heap)(R:List Nat):(aaQ H R).length=R.length:=by simp[aaQ]
theorem adI{R:List Nat}{j b:Nat}(h:R[j]?=some b):live (aaQ H R) j=(live H b).map (·.ren (pos R)):=by
 simp only[live,aaQ,List.getElem?_map,h,Option.map_some]
 cases hb:live H b with
 | none=>simp only[live]at hb;simp[renB,hb]
 | some k=>simp only[live]at hb;simp[renB,hb]
theorem abl{R:List Nat}{j:Nat}{k:Blk}(h:live (aaQ H R) j=some k):∃ b k0,R[j]?=some b/\live H b=some k0/\k=k0.ren (pos R):=by
 have hlt:=aaK h
 rw[aa3]at hlt
 have hb:=List.getElem?_eq_getElem hlt
 rw[adI hb]at h
 obtain⟨k0,h0,h1⟩:=Option.map_eq_some_iff.1 h
 exact⟨_,k0,hb,h0,h1.symm⟩
theorem ahO(R:List Nat):Rn (pos R) ρ H (subRho ρ R) (aaQ H R)where
 lt:=λb b' _ h=>by
  rw[aa3]
  exact(List.getElem?_eq_some_iff.1 (adh h)).1
 keep:=λb b' k' _ h hk=>by
  have hg:=adh h
  rw[adI hg]at hk
  obtain⟨k,h0,rfl⟩:=Option.map_eq_some_iff.1 hk
  exact⟨k,h0,(Blk.ren_sz k).symm,(Blk.ren_len k).symm,λinf hi=>by simp[subRho,hg,hi]⟩
theorem amF{R:List Nat}(hn:R.Nodup)(hr:HR Φ ρ H w):HR Φ (subRho ρ R) (aaQ H R) w where
 glo:=hr.glo
 fro:=hr.fro
 mps:=λj kk es inf hk hi=>by
  obtain⟨b,k0,hb,h0,he⟩:=abl hk
  simp only[subRho,hb,Option.bind_some]at hi
  have:=Blk.ren_mp he.symm
  subst this
  exact hr.mps b kk es inf h0 hi
 own:=λj k inf hk hm hi=>by
  obtain⟨b,k0,hb,h0,rfl⟩:=abl hk
  simp only[subRho,hb,Option.bind_some]at hi
  obtain⟨g1,arr,ty,fz,g2,g3,g4,g5,g6⟩:=hr.own b k0 inf h0 (Blk.ren_cel hm) hi
  exact⟨g1,arr,ty,fz,g2,g3,g4,by rw[Blk.ren_len,Blk.ren_sz];exact g5,ajl (ahO R) g6⟩
 inj:=λj j' k k' i i' hk hk' hi hi' e=>by
  obtain⟨b,k0,hb,h0,rfl⟩:=abl hk
  obtain⟨b',k0',hb',h0',rfl⟩:=abl hk'
  simp only[subRho,hb,hb',Option.bind_some]at hi hi'
  have:=hr.inj b b' k0 k0' i i' h0 h0' hi hi' e
  subst this
  have h1:=acj hn hb
  have h2:=acj hn hb'
  rw[h1]at h2
  exact Option.some.inj h2
theorem acG{R:List Nat}{c:Nat}(h:Foot (subRho ρ R) (aaQ H R) c):∃ b∈R,∃ k inf,live H b=some k/\ρ b=some inf/\inf.c=c:=by
 obtain⟨j,k,inf,hk,hi,hc⟩:=h
 obtain⟨b,k0,hb,h0,rfl⟩:=abl hk
 simp only[subRho,hb,Option.bind_some]at hi
 exact⟨b,List.mem_of_getElem? hb,k0,inf,h0,hi,hc⟩
theorem setAll_len:∀ (R:List Nat) (ks:List (Option Blk)) (H:Heap),(abk H R ks).length=H.length
 | [],_,_=>by simp[abk]
 | b::R,[],_=>by simp[abk]
 | b::R,k::ks,H=>by simp only[abk];rw[setAll_len R ks];simp
theorem abF:∀ {R:List Nat}{ks:List (Option Blk)}{H:Heap}{b:Nat},b ∉ R->(abk H R ks)[b]?=H[b]?
 | [],_,_,_,_=>by simp[abk]
 | x::R,[],_,_,_=>by simp[abk]
 | x::R,k::ks,H,b,h=>by
  simp only[List.mem_cons,not_or]at h
  simp only[abk]
  rw[abF h.2,List.getElem?_set_ne (Ne.symm h.1)]
theorem aeE:∀ {R:List Nat}{ks:List (Option Blk)}{H:Heap}{j b:Nat}{k:Option Blk},R.Nodup->(∀ b∈R,b<H.length)->R[j]?=some b->ks[j]?=some k->(abk H R ks)[b]?=some k
 | [],_,_,_,_,_,_,_,h,_=>by simp at h
 | x::R,[],_,_,_,_,_,_,_,h=>by simp at h
 | x::R,y::ks,H,0,b,k,hn,hl,h,hk=>by
  simp at h hk;subst h;subst hk
  simp only[List.nodup_cons]at hn
  simp only[abk]
  rw[abF hn.1,List.getElem?_set_self (hl x (by simp))]
 | x::R,y::ks,H,j+1,b,k,hn,hl,h,hk=>by
  simp only[List.nodup_cons]at hn
  simp only[abk]
  exact aeE hn.2 (λb hb=>by simpa using hl b (by simp[hb])) (by simpa using h) (by simpa using hk)
section
variable{Φ':Phi}{ρ':Rho}{R:List Nat}{h':Heap}
def mergeH(H:Heap)(R:List Nat)(h':Heap):Heap:=abk H R ((h'.take R.length).map (renB (back R H.length)))++(h'.drop R.length).map (renB (back R H.length))
def mergeR(ρ:Rho)(R:List Nat)(n:Nat)(ρ':Rho):Rho:=λb=>if b<n then(match pos R b with
 | some j=>ρ' j
 | none=>ρ b)else ρ' (R.length+(b-n))
theorem acz{H:Heap}{b:Nat}{x:Option Blk}(h:H[b]?=some x):live H b=x:=by
 simp only[live,h]
 cases x <;> rfl
theorem afN{H:Heap}{b:Nat}(h:H[b]?=none):live H b=none:=by simp only[live,h]
theorem af2(g:Nat->Option Nat)(x:Option Blk):renB g x=x.map (·.ren g):=by cases x <;> rfl
theorem ae3{H:Heap}{b:Nat}(h:b<H.length):H[b]?=some (live H b):=by
 simp only[live]
 rw[List.getElem?_eq_getElem h]
 cases H[b] <;> rfl
theorem adt(hn:R.Nodup)(hl:∀ b∈R,b<H.length)(hle:R.length<=h'.length)(b:Nat) :
  (b<H.length->(∀ j,pos R b=some j->live (mergeH H R h') b=(live h' j).map (·.ren (back R H.length)))/\(pos R b=none->live (mergeH H R h') b=live H b)) ∧
  (H.length<=b->live (mergeH H R h') b=(live h' (R.length+(b-H.length))).map (·.ren (back R H.length))):=by
 have hsl:=setAll_len R ((h'.take R.length).map (renB (back R H.length))) H
 constructor
 ·intro hb
  have e0:(mergeH H R h')[b]?=(abk H R ((h'.take R.length).map (renB (back R H.length))))[b]?:=by
   simp only[mergeH]
   rw[List.getElem?_append_left (by rw[hsl];exact hb)]
  constructor
  ·intro j hj
   have hg:=adh hj
   have hjl:j<R.length:=(List.getElem?_eq_some_iff.1 hg).1
   have e1:((h'.take R.length).map (renB (back R H.length)))[j]?=some (renB (back R H.length) (live h' j)):=by
    rw[List.getElem?_map,List.getElem?_take,if_pos hjl,ae3 (by omega)]
    rfl
   have:=aeE hn hl hg e1
   rw[acz (e0.trans this),af2]
  ·intro hp
   have:=abF (ks:=(h'.take R.length).map (renB (back R H.length))) (H:=H) (afv hp)
   rw[acz (e0.trans (this.trans (ae3 hb)))]
 ·intro hb
  have e0:(mergeH H R h')[b]?=((h'.drop R.length).map (renB (back R H.length)))[b-H.length]?:=by
   simp only[mergeH]
   rw[List.getElem?_append_right (by rw[hsl];exact hb),hsl]
  rw[List.getElem?_map,List.getElem?_drop]at e0
  by_cases hlt:R.length+(b-H.length)<h'.length
  ·rw[ae3 hlt]at e0
   rw[acz e0,af2]
  ·have hn1:h'[R.length+(b-H.length)]?=none:=List.getElem?_eq_none (by omega)
   rw[hn1]at e0
   rw[afN e0,afN hn1]
   rfl
theorem af7(hle:R.length<=h'.length):(mergeH H R h').length=H.length+(h'.length-R.length):=by
 simp only[mergeH,List.length_append,setAll_len,List.length_map,List.length_drop]
theorem agv(hn:R.Nodup)(hl:∀ b∈R,b<H.length)(hle:R.length<=h'.length){b:Nat}{k:Blk}(h:live (mergeH H R h') b=some k) :
  (b<H.length/\b ∉ R/\live H b=some k/\mergeR ρ R H.length ρ' b=ρ b) ∨
  (∃ j k0,live h' j=some k0/\k=k0.ren (back R H.length)/\mergeR ρ R H.length ρ' b=ρ' j/\((b<H.length/\R[j]?=some b)∨(H.length<=b/\R.length<=j/\j=R.length+(b-H.length)))):=by
 obtain⟨h1,h2⟩:=adt hn hl hle b
 by_cases hb:b<H.length
 ·obtain⟨h3,h4⟩:=h1 hb
  cases hp:pos R b with
  | none=>
   left
   rw[h4 hp]at h
   exact⟨hb,afv hp,h,by simp[mergeR,hb,hp]⟩
  | some j=>
   right
   rw[h3 j hp]at h
   obtain⟨k0,e1,e2⟩:=Option.map_eq_some_iff.1 h
   exact⟨j,k0,e1,e2.symm,by simp[mergeR,hb,hp],.inl ⟨hb,adh hp⟩⟩
 ·right
  rw[h2 (by omega)]at h
  obtain⟨k0,e1,e2⟩:=Option.map_eq_some_iff.1 h
  exact⟨_,k0,e1,e2.symm,by simp[mergeR,hb],.inr ⟨by omega,by omega,rfl⟩⟩
theorem ai9(hn:R.Nodup)(hl:∀ b∈R,b<H.length)(hle:R.length<=h'.length):Rn (back R H.length) ρ' h' (mergeR ρ R H.length ρ') (mergeH H R h')where
 lt:=λj b' hj h=>by
  rw[af7 hle]
  simp only[back]at h
  cases hg:R[j]? with
  | some b=>
   rw[hg]at h;cases h
   have:=hl _ (List.mem_of_getElem? hg)
   omega
  | none=>
   rw[hg]at h;cases h
   have:R.length<=j:=List.getElem?_eq_none_iff.1 hg
   omega
 keep:=λj b' k' hj h hk=>by
  have key:live (mergeH H R h') b'=(live h' j).map (·.ren (back R H.length))/\mergeR ρ R H.length ρ' b'=ρ' j:=by
   simp only[back]at h
   cases hg:R[j]? with
   | some b=>
    rw[hg]at h;cases h
    have hb:=hl _ (List.mem_of_getElem? hg)
    have hp:=acj hn hg
    exact⟨((adt hn hl hle _).1 hb).1 j hp,by simp[mergeR,hb,hp]⟩
   | none=>
    rw[hg]at h;cases h
    have hj':R.length<=j:=List.getElem?_eq_none_iff.1 hg
    have e:R.length+(H.length+(j-R.length)-H.length)=j:=by omega
    have:=(adt (h':=h') hn hl hle (H.length+(j-R.length))).2 (by omega)
    rw[e]at this
    exact⟨this,by simp only[mergeR];rw[if_neg (by omega),e]⟩
  rw[key.1]at hk
  obtain⟨k0,h0,rfl⟩:=Option.map_eq_some_iff.1 hk
  exact⟨k0,h0,(Blk.ren_sz _).symm,(Blk.ren_len _).symm,λinf hi=>by rw[key.2];exact hi⟩
theorem akD(hn:R.Nodup)(hl:∀ b∈R,b<H.length)(hr:HR Φ ρ H w)(st:Stp Φ (subRho ρ R) (aaQ H R) w Φ' ρ' h' w') :
  Stp Φ ρ H w Φ' (mergeR ρ R H.length ρ') (mergeH H R h') w':=by
 have hle:R.length<=h'.length:=by have:=st.ext.len;rwa[aa3]at this
 have mc:=fun {b k}=>agv (ρ:=ρ) (ρ':=ρ') (b:=b) (k:=k) hn hl hle
 have rn:=ai9 (ρ:=ρ) (ρ':=ρ') hn hl hle
 have ext:Ext Φ ρ H Φ' (mergeR ρ R H.length ρ') (mergeH H R h'):=by
  refine⟨st.ext.phi,by rw[af7 hle];omega,λb hb=>?_,λb k' hb hk=>?_⟩
  ·simp only[mergeR,if_pos hb]
   cases hp:pos R b with
   | none=>rfl
   | some j=>
    have hg:=adh hp
    have hjl:j<(aaQ H R).length:=by rw[aa3];exact(List.getElem?_eq_some_iff.1 hg).1
    simp only
    rw[st.ext.rho j hjl]
    simp[subRho,hg]
  ·rcases mc hk with⟨_,h2,h3,h4⟩ | ⟨j,k0,h1,rfl,h3,h4⟩
   ·exact⟨k',h3,rfl,rfl⟩
   ·rcases h4 with⟨_,h4⟩ | ⟨h4,_⟩
    ·have hjl:j<(aaQ H R).length:=by rw[aa3];exact(List.getElem?_eq_some_iff.1 h4).1
     obtain⟨k1,g1,g2,g3⟩:=st.ext.keep j k0 hjl h1
     rw[adI h4]at g1
     obtain⟨k2,q1,rfl⟩:=Option.map_eq_some_iff.1 g1
     exact⟨k2,q1,by rw[Blk.ren_sz,<-g2,Blk.ren_sz],by rw[Blk.ren_len,<-g3,Blk.ren_len]⟩
    ·omega
 -- a block of the caller's own that was not handed over is none of the callee's
 have apart:∀ {b k inf},b ∉ R->live H b=some k->ρ b=some inf->¬Foot (subRho ρ R) (aaQ H R) inf.c:=by
  intro b k inf hb hk hi hf
  obtain⟨b',hb',k',inf',hk',hi',hc⟩:=acG hf
  have:=hr.inj b' b k' k inf' inf hk' hk hi' hi hc
  subst this
  exact hb hb'
 refine⟨ext,⟨st.hr.fro,?_,?_,st.hr.glo,?_⟩,?_,?_,?_,st.sz,st.io⟩
 ·intro b k inf hk hm hi
  rcases mc hk with⟨h1,h2,h3,h4⟩ | ⟨j,k0,h1,rfl,h3,h4⟩
  ·rw[h4]at hi
   obtain⟨g1,arr,ty,fz,g2,g3,g4,g5,g6⟩:=hr.own b k inf h3 hm hi
   have hlt:=ab4 hr h3 hi
   have hap:=apart h2 h3 hi
   refine⟨?_,arr,ty,fz,by rw[st.fr _ hlt hap];exact g2,g3,g4,g5,aau ext g6⟩
   cases hp:Φ' inf.c with
   | none=>rfl
   | some arr'=>
    rcases st.fz _ _ hp with h | h | h
    ·rw[g1]at h;cases h
    ·exact absurd h hap
    ·omega
  ·rw[h3]at hi
   obtain⟨g1,arr,ty,fz,g2,g3,g4,g5,g6⟩:=st.hr.own j k0 inf h1 (Blk.ren_cel hm) hi
   exact⟨g1,arr,ty,fz,g2,g3,g4,by rw[Blk.ren_len,Blk.ren_sz];exact g5,ajl rn g6⟩
 ·intro b1 b2 k1 k2 i1 i2 l1 l2 r1 r2 e
  have cross:∀ {b k inf j k0 inf'},b ∉ R->live H b=some k->ρ b=some inf->live h' j=some k0->ρ' j=some inf'->inf.c≠inf'.c:=by
   intro b k inf j k0 inf' hb hk hi hk0 hi' he
   have hf:Foot ρ' h' inf'.c:=⟨j,k0,inf',hk0,hi',rfl⟩
   rcases st.ft _ hf with h | h
   ·exact apart hb hk hi (he ▸ h)
   ·have:=ab4 hr hk hi
    omega
  rcases mc l1 with⟨a1,a2,a3,a4⟩ | ⟨j,k0,a1,rfl,a3,a4⟩ <;> rcases mc l2 with⟨c1,c2,c3,c4⟩ | ⟨j',k0',c1,rfl,c3,c4⟩
  ·rw[a4]at r1;rw[c4]at r2
   exact hr.inj b1 b2 k1 k2 i1 i2 a3 c3 r1 r2 e
  ·rw[a4]at r1;rw[c3]at r2
   exact absurd e (cross a2 a3 r1 c1 r2)
  ·rw[a3]at r1;rw[c4]at r2
   exact absurd e.symm (cross c2 c3 r2 a1 r1)
  ·rw[a3]at r1;rw[c3]at r2
   have:=st.hr.inj j j' k0 k0' i1 i2 a1 c1 r1 r2 e
   subst this
   rcases a4 with⟨a4,a5⟩ | ⟨a4,a5,a6⟩ <;> rcases c4 with⟨c4,c5⟩ | ⟨c4,c5,c6⟩
   ·rw[a5]at c5;exact Option.some.inj c5
   ·have:=(List.getElem?_eq_some_iff.1 a5).1;omega
   ·have:=(List.getElem?_eq_some_iff.1 c5).1;omega
   ·omega
 ·intro b kk es inf hk hi
  rcases mc hk with⟨h1,h2,h3,h4⟩ | ⟨j,k0,h1,he,h3,h4⟩
  ·rw[h4]at hi
   obtain⟨g1,l,q,g2,g3⟩:=hr.mps b kk es inf h3 hi
   have hlt:=ab4 hr h3 hi
   have hap:=apart h2 h3 hi
   refine⟨?_,l,q,by rw[st.fr _ hlt hap];exact g2,am3 st.ext.phi g3⟩
   cases hp:Φ' inf.c with
   | none=>rfl
   | some arr'=>
    rcases st.fz _ _ hp with h | h | h
    ·rw[g1]at h;cases h
    ·exact absurd h hap
    ·omega
  ·rw[h3]at hi
   have:=Blk.ren_mp he.symm
   subst this
   exact st.hr.mps j kk es inf h1 hi
 ·intro c hc hn'
  refine st.fr c hc (λhf=>hn' ?_)
  obtain⟨b,_,k,inf,h1,h2,h3⟩:=acG hf
  exact⟨b,k,inf,h1,h2,h3⟩
 ·rintro c ⟨b,k,inf,hk,hi,rfl⟩
  rcases mc hk with⟨h1,h2,h3,h4⟩ | ⟨j,k0,h1,rfl,h3,h4⟩
  ·rw[h4]at hi
   exact .inl ⟨b,k,inf,h3,hi,rfl⟩
  ·rw[h3]at hi
   rcases st.ft _ ⟨j,k0,inf,h1,hi,rfl⟩with h | h
   ·obtain⟨b',_,k',inf',g1,g2,g3⟩:=acG h
    exact .inl ⟨b',k',inf',g1,g2,g3⟩
   ·exact .inr h
 ·intro c arr hp
  rcases st.fz c arr hp with h | h | h
  ·exact .inl h
  ·obtain⟨b',_,k',inf',g1,g2,g3⟩:=acG h
   exact .inr (.inl ⟨b',k',inf',g1,g2,g3⟩)
  ·exact .inr (.inr h)
end
def aa7(P:Program)(cf:aaj):Prop:=∀ f args h r h',cf f args h=some (r,h')->∀ (Φ:Phi) (ρ:Rho) (w:World) (vals:List Value),HR Φ ρ h w->ARs Φ ρ h args vals →
 Calls P f vals.toArray w λe w'=>∃ v Φ' ρ',e = .returned v/\Stp Φ ρ h w Φ' ρ' h' w'/\AR Φ' ρ' h' r v
theorem amf{cf:aaj}(hcf:aa7 P cf){f:FuncId}{args:List A}{r:A}{H':Heap}{vals:List Value}(h:ah8 cf f args H=some (r,H'))(hr:HR Φ ρ H w)(ha:ARs Φ ρ H args vals) :
  Calls P f vals.toArray w λe w'=>∃ v Φ' ρ',e = .returned v/\Stp Φ ρ H w Φ' ρ' H' w'/\AR Φ' ρ' H' r v:=by
 unfold ah8 at h
 obtain⟨hn,hl⟩:=acX H deep (abp args) [] (by simp) (by simp)
 generalize abY H deep (abp args) []=R at h hn hl
 simp only at h
 split at h
 ·rename_i r0 h' hc
  simp only[Option.some.injEq,Prod.mk.injEq]at h
  obtain⟨rfl,rfl⟩:=h
  refine(hcf _ _ _ _ _ hc Φ (subRho ρ R) w vals (amF hn hr) (agC (ahO R) _ _ ha)).mono ?_
  rintro e w' ⟨v,Φ',ρ',rfl,st,hv⟩
  have hle:R.length<=h'.length:=by have:=st.ext.len;rwa[aa3]at this
  exact⟨v,Φ',mergeR ρ R H.length ρ',rfl,akD hn hl hr st,ahY (ai9 hn hl hle) r0 v hv⟩
 ·cases h
end Go.Ev
