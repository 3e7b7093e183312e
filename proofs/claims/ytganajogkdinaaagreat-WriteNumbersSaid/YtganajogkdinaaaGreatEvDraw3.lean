import Derived.Test.YtganajogkdinaaaGreatEvRow
import Derived.Orders
set_option linter.all false
namespace Go.Ev
variable[Glo]
set_option linter.unusedSimpArgs false
variable{P:Program}{Φ Φ':Phi}{ρ ρ':Rho}{H H':Heap}{s:List A}{a:Act}{w w':World}
def afY(ρ ρ':Rho):Prop:=∀ b inf,ρ b=some inf->ρ' b=some inf
mutual
theorem amE(e:afY ρ ρ'):∀ (x:C) (v:Value),CR Φ ρ H x v->CR Φ ρ' H x v
 |.und,_,h=>by simpa[CR]using h
 |.v x,v,h=>by simpa only[CR]using h
 |.ptr b sz i o,v,h=>by
  simp only[CR]at h ⊢
  obtain⟨a,rfl,hb,h1⟩:=h
  refine⟨a,rfl,hb,λk hk=>?_⟩
  obtain⟨h2,inf,h3,h4⟩:=h1 k hk
  exact⟨h2,inf,e _ _ h3,h4⟩
 |.sl b sz i n cap,v,h=>by
  simp only[CR]at h ⊢
  obtain⟨p,k,rfl,hc,hp,hb,h1⟩:=h
  refine⟨p,k,rfl,hc,hp,hb,λx hx=>?_⟩
  obtain⟨h2,h3,h4,h5⟩:=h1 x hx
  refine⟨h2,h3,h4,?_⟩
  rcases h5 with h5 | ⟨inf,h5,h6,h7⟩
  ·exact .inl h5
  ·exact .inr ⟨inf,e _ _ h5,h6,h7⟩
 |.slw b sz n,v,h=>by
  simp only[CR]at h ⊢
  obtain⟨p,k,rfl,hc,hp,hb,h1⟩:=h
  refine⟨p,k,rfl,hc,hp,hb,λx hx=>?_⟩
  obtain⟨h2,h3,h5⟩:=h1 x hx
  refine⟨h2,h3,?_⟩
  rcases h5 with h5 | ⟨inf,h5,h6,h7⟩
  ·exact .inl h5
  ·exact .inr ⟨inf,e _ _ h5,h6,h7⟩
 |.fn f caps,v,h=>by
  simp only[CR]at h ⊢
  obtain⟨arr,rfl,h1,h2⟩:=h
  exact⟨arr,rfl,h1,ae5 e caps _ _ h2⟩
 |.mp b,v,h=>by
  simp only[CR]at h ⊢
  obtain⟨c,rfl,hb,h1⟩:=h
  refine⟨c,rfl,hb,λk hk=>?_⟩
  obtain⟨inf,h3,h4⟩:=h1 k hk
  exact⟨inf,e _ _ h3,h4⟩
theorem ae5(e:afY ρ ρ'):∀ (l:List C) (g:Nat->Option Value) (off:Nat),CRs Φ ρ H l g off->CRs Φ ρ' H l g off
 | [],_,_,_=>by simp[CRs]
 | x::r,g,off,h=>by
  simp only[CRs]at h ⊢
  obtain⟨⟨v,h1,h2⟩,h3⟩:=h
  exact⟨⟨v,h1,amE e x v h2⟩,ae5 e r g _ h3⟩
end
theorem ajY(e:afY ρ ρ'):∀ (l:List (List C)) (sz:Nat) (g:Nat->Option Value) (off:Nat),CRe Φ ρ H l sz g off->CRe Φ ρ' H l sz g off
 | [],_,_,_,_=>by simp[CRe]
 | x::r,sz,g,off,h=>by
  simp only[CRe]at h ⊢
  exact⟨h.1,ae5 e x _ _ h.2.1,ajY e r _ _ _ h.2.2⟩
mutual
theorem am5(e:afY ρ ρ'):∀ (x:A) (v:Value),AR Φ ρ H x v->AR Φ ρ' H x v
 |.und,_,_=>by simp[AR]
 |.c x,v,h=>by simp only[AR]at h ⊢;exact amE e x v h
 |.agp cs,v,h=>by simpa only[AR]using h
 |.agm cs,v,h=>by
  simp only[AR]at h ⊢
  obtain⟨arr,rfl,h1,h2⟩:=h
  exact⟨arr,rfl,h1,ae5 e cs _ _ h2⟩
 |.tup l,v,h=>by
  simp only[AR]at h ⊢
  obtain⟨arr,rfl,h1⟩:=h
  exact⟨arr,rfl,ajM e l _ h1⟩
theorem ajM(e:afY ρ ρ'):∀ (l:List A) (vs:List Value),ARs Φ ρ H l vs->ARs Φ ρ' H l vs
 | [],_,h=>by simpa[ARs]using h
 | x::r,vs,h=>by
  simp only[ARs]at h ⊢
  obtain⟨v,l',rfl,h1,h2⟩:=h
  exact⟨v,l',rfl,am5 e x v h1,ajM e r _ h2⟩
end
theorem ajZ(e:afY ρ ρ'){x:EL}{sz:Nat}{g:Nat->Option Value}{off:Nat}(h:ELR Φ ρ H x sz g off):ELR Φ ρ' H x sz g off:=by
 cases x with
 | p l=>exact h
 | m l=>exact ajY e l sz g off h
theorem aoL(e:afY ρ ρ'){t:Array Value}(h:SR Φ ρ H s t):SR Φ ρ' H s t:=
 ⟨h.1,λi x hx=>let⟨v,hv,ha⟩:=h.2 i x hx;⟨v,hv,am5 e x v ha⟩⟩
theorem akV{b:Nat}{x:Option Inf}(h:ρ b=none):afY ρ (upd ρ b x):=λb' inf hb=>by
 by_cases e:b'=b
 ·subst e;rw[h]at hb;cases hb
 ·rw[aay e];exact hb
theorem al3{Φ0:Phi}{ρ0:Rho}{H0:Heap}{w0:World}{b:Nat}{r:A}{k:Blk}{z:Value}{arr:Array Value}{ty:TypeId}{fz:Nat×Nat}(st:Stp Φ0 ρ0 H0 w0 Φ ρ H w)(hb:H0.length<=b)
  (hk:live H b=some k) (hρ:ρ b=none) (hm:k.isMp=false) (al:Alo Φ ρ H w w' b r k z arr ty fz):Stp Φ0 ρ0 H0 w0 Φ (upd ρ b (some ⟨w.heap.size,0,arr.size⟩)) H w' where
 ext:=⟨st.ext.phi,st.ext.len,λb' hb'=>by rw[aay (by omega)];exact st.ext.rho b' hb',st.ext.keep⟩
 hr:=by
  refine⟨λc arr' hc=>?_,λb' x inf hx hmx hi=>?_,λb1 b2 k1 k2 i1 i2 l1 l2 r1 r2 e=>?_,st.hr.glo,λb' kk es inf hx hi=>?_⟩
  ·obtain⟨ty',fz',h1⟩:=st.hr.fro c arr' hc
   exact⟨ty',fz',by rw[al.old c (Array.getElem?_eq_some_iff.1 h1).1];exact h1⟩
  ·by_cases e:b'=b
   ·subst e
    rw[upd_self]at hi;cases hi
    rw[hk]at hx;cases hx
    exact⟨acP st.hr (Nat.le_refl _),arr,ty,fz,al.new,al.fz,rfl,by simpa using al.fit,ajZ (akV hρ) al.el⟩
   ·rw[aay e]at hi
    obtain⟨g1,arr',ty',fz',g2,g3,g4,g5,g6⟩:=st.hr.own b' x inf hx hmx hi
    exact⟨g1,arr',ty',fz',by rw[al.old _ (Array.getElem?_eq_some_iff.1 g2).1];exact g2,g3,g4,g5,ajZ (akV hρ) g6⟩
  ·by_cases e1:b1=b
   ·by_cases e2:b2=b
    ·rw[e1,e2]
    ·subst e1
     rw[upd_self]at r1;cases r1
     rw[aay e2]at r2
     have:=ab4 st.hr l2 r2
     simp only at e
     omega
   ·by_cases e2:b2=b
    ·subst e2
     rw[upd_self]at r2;cases r2
     rw[aay e1]at r1
     have:=ab4 st.hr l1 r1
     simp only at e
     omega
    ·rw[aay e1]at r1
     rw[aay e2]at r2
     exact st.hr.inj b1 b2 k1 k2 i1 i2 l1 l2 r1 r2 e
  ·by_cases e:b'=b
   ·subst e
    rw[hk]at hx;cases hx;cases hm
   ·rw[aay e]at hi
    obtain⟨g1,l,q,g2,g3⟩:=st.hr.mps b' kk es inf hx hi
    exact⟨g1,l,q,by rw[al.old _ (Array.getElem?_eq_some_iff.1 g2).1];exact g2,g3⟩
 fr:=λc hc hf=>by rw[al.old c (Nat.lt_of_lt_of_le hc st.sz)];exact st.fr c hc hf
 ft:=by
  rintro c ⟨b',x,inf,hx,hi,rfl⟩
  by_cases e:b'=b
  ·subst e
   rw[upd_self]at hi;cases hi
   exact .inr st.sz
  ·rw[aay e]at hi
   exact st.ft _ ⟨b',x,inf,hx,hi,rfl⟩
 fz:=st.fz
 sz:=Nat.le_trans st.sz al.sz
 io:=st.io.trans al.io
section
variable{cf:aaj}{ops:Array Oper}{es:List En}{st st':St}
theorem adW{e:En}(h:EnOk P cf ops e)(he:effAt P ops e.i=false):e.h'=e.h ∨ ∃ k,e.h'=e.h++[some k]:=by
 obtain⟨o,ho,h⟩:=h.op
 rcases h with⟨_,_,h⟩ | ⟨_,_,_,h⟩
 ·simp only[effAt,ho,Option.map_some,Option.getD_some,isEff,beq_eq_false_iff_ne,ne_eq]at he
  unfold evOp at h
  split at h
  ·simp only[Option.map_eq_some_iff,Prod.mk.injEq]at h
   obtain⟨_,_,_,h⟩:=h
   exact .inl h.symm
  ·simp only[Option.map_eq_some_iff,Prod.mk.injEq]at h
   obtain⟨_,_,_,h⟩:=h
   exact .inl h.symm
  ·simp only[Option.map_eq_some_iff,Prod.mk.injEq]at h
   obtain⟨⟨x,k⟩,_,_,h⟩:=h
   exact .inr ⟨k,h.symm⟩
  ·rename_i hc;exact absurd hc he
  ·rename_i hc;exact .inl (aeU (H':=e.h) hc h (λ_ _ _ h=>h)).1
 ·exact .inl h
theorem amH{e:En}(h:EnOk P cf ops e):e.h.length<=e.h'.length:=by
 obtain⟨o,ho,h⟩:=h.op
 rcases h with⟨_,_,h⟩ | ⟨_,_,_,h⟩
 ·exact ami h
 ·rw[h];exact Nat.le_refl _
theorem ae1(row:Row P cf ops es st st'){q:Nat}(hr:HR Φ ρ (hAt es st'.h q) w):∀ d,q+d<=es.length->(∀ m e,q<=m->m<q+d->es[m]?=some e->effAt P ops e.i=false) →
  ∃ ρ',Stp Φ ρ (hAt es st'.h q) w Φ ρ' (hAt es st'.h (q+d)) w/\∀ b,(hAt es st'.h q).length<=b->b<(hAt es st'.h (q+d)).length->ρ' b=none
 | 0,_,_=>⟨ρ,Stp.refl hr,λb h1 h2=>by simp only[Nat.add_zero]at h2;omega⟩
 | d+1,hl,hn=>by
  obtain⟨ρ1,s1,n1⟩:=ae1 row hr d (by omega) (λm e h1 h2 h3=>hn m e h1 (by omega) h3)
  have hlt:q+d<es.length:=by omega
  have he:es[q+d]?=some es[q+d]:=List.getElem?_eq_getElem hlt
  have hh:=row.next he
  have h0:=aa5 (H:=st'.h) he
  rw[show q+(d+1)=q+d+1 from by omega,hh]
  rcases adW (row.ok he) (hn _ _ (by omega) (by omega) he)with h | ⟨k,h⟩
  ·rw[h,<-h0];exact⟨ρ1,s1,n1⟩
  ·rw[h,<-h0]
   refine⟨_,s1.trans (aaZ s1.hr (Less.refl _)),λb g1 g2=>?_⟩
   by_cases e:b=(hAt es st'.h (q+d)).length
   ·rw[e,upd_self]
   ·rw[aay e]
    simp only[List.length_append,List.length_cons,List.length_nil]at g2
    exact n1 b g1 (by omega)
theorem acA(row:Row P cf ops es st st'){q:Nat}:∀ d,q+d<=es.length->(hAt es st'.h q).length<=(hAt es st'.h (q+d)).length
 | 0,_=>Nat.le_refl _
 | d+1,hl=>by
  have he:es[q+d]?=some es[q+d]:=List.getElem?_eq_getElem (by omega)
  have h1:=acA row d (by omega:q+d<=es.length)
  rw[aa5 he]at h1
  rw[show q+(d+1)=q+d+1 from by omega,row.next he]
  exact Nat.le_trans h1 (amH (row.ok he))
theorem ahV(row:Row P cf ops es st st'){q b:Nat}(hb:b<(hAt es st'.h q).length):∀ d,q+d<=es.length →
  (∀ m e,q<=m->m<q+d->es[m]?=some e->e.ran=true->effAt P ops e.i=true->∀ o,ops[e.i]?=some o->b ∉ touched P e.s e.h o.op)->live (hAt es st'.h (q+d)) b=live (hAt es st'.h q) b
 | 0,_,_=>rfl
 | d+1,hl,hn=>by
  have ih:=ahV row hb d (by omega) (λm e h1 h2=>hn m e h1 (by omega))
  have hlt:q+d<es.length:=by omega
  have he:es[q+d]?=some es[q+d]:=List.getElem?_eq_getElem hlt
  have hlen:=acA row d (by omega:q+d<=es.length)
  have h0:=aa5 (H:=st'.h) he
  rw[show q+(d+1)=q+d+1 from by omega,row.next he,<-ih,h0]
  rw[h0]at hlen
  have hok:=row.ok he
  by_cases hef:effAt P ops es[q+d].i=true
  ·obtain⟨o,ho,h⟩:=hok.op
   rcases h with⟨h1,_,h⟩ | ⟨_,_,_,h⟩
   ·have hc:cls P o.op = .eff:=by simpa[effAt,ho,isEff]using hef
    have hx:effC P cf es[q+d].s es[q+d].h o.op=some (es[q+d].out,es[q+d].h'):=by
     unfold evOp at h
     rw[hc]at h
     exact h
    exact ak2 hc hx (by omega) (hn _ _ (by omega) (by omega) he h1 hef o ho)
   ·rw[h]
  ·rcases adW hok (by simpa using hef)with h | ⟨k,h⟩
   ·rw[h]
   ·rw[h,aar (by omega)]
theorem aeV(P:Program)(ops:Array Oper)(es:List En):∀ n q,es.length-q<=n->q<=es.length->∃ d,q+d<=es.length/\(∀ m e,q<=m->m<q+d->es[m]?=some e->effAt P ops e.i=false)/\∀ e,es[q+d]?=some e->effAt P ops e.i=true
 | 0,q,h1,h2=>⟨0,by omega,λm e _ _ _=>by omega,λe he=>by
  have:=(List.getElem?_eq_some_iff.1 he).1
  omega⟩
 | n+1,q,h1,h2=>by
  by_cases hq:q<es.length
  ·by_cases he:effAt P ops es[q].i=true
   ·refine⟨0,by omega,λm e _ _ _=>by omega,λe he'=>?_⟩
    rw[Nat.add_zero,List.getElem?_eq_getElem hq]at he'
    cases he'
    exact he
   ·obtain⟨d,g1,g2,g3⟩:=aeV P ops es n (q+1) (by omega) (by omega)
    refine⟨d+1,by omega,λm e m1 m2 me=>?_,λe hee=>g3 e (by rw[show q+1+d=q+(d+1)from by omega];exact hee)⟩
    by_cases hm:m=q
    ·subst hm
     rw[List.getElem?_eq_getElem hq]at me
     cases me
     simpa using he
    ·exact g2 m e (by omega) (by omega) me
  ·exact⟨0,by omega,λm e _ _ _=>by omega,λe he=>by
    have:=(List.getElem?_eq_some_iff.1 he).1
    omega⟩
end
def abH(ops:Array Oper)(es:List En)(L:Nat->Bool)(s:List A):List A:=(es.filter λe=>L e.i).foldl (enPut ops) s
theorem afF{ops:Array Oper}{es:List En}{L:Nat->Bool}:(abH ops es L s).length=s.length:=fold_len
theorem foldL_get{ops:Array Oper}{es:List En}{L:Nat->Bool}{t:Nat}:(abH ops es L s)[t]?=((es.filter λe=>L e.i&&dstOf ops e.i == some t).foldl (enPut ops) s)[t]?:=by
 unfold abH
 rw[fold_filter,List.filter_filter]
 congr 3
 funext e
 rw[Bool.and_comm]
theorem aml{es:List En}{m:Nat}{e:En}(h:es[m]?=some e):es=es.take m++e::es.drop (m+1):=by
 obtain⟨hlt,rfl⟩:=List.getElem?_eq_some_iff.1 h
 rw[<-List.drop_eq_getElem_cons hlt,List.take_append_drop]
theorem ahB{es:List En}{m:Nat}{e:En}(h:e∈es.take m):∃ m',m'<m/\es[m']?=some e:=by
 obtain⟨i,hi,h⟩:=List.mem_iff_getElem.1 h
 simp only[List.length_take]at hi
 refine⟨i,by omega,?_⟩
 rw[List.getElem_take]at h
 rw[List.getElem?_eq_getElem (by omega),h]
theorem ah1{es:List En}{m:Nat}{e:En}(h:e∈es.drop m):∃ m',m<=m'/\es[m']?=some e:=by
 obtain⟨i,hi,h⟩:=List.mem_iff_getElem.1 h
 simp only[List.length_drop]at hi
 refine⟨m+i,by omega,?_⟩
 rw[List.getElem_drop]at h
 rw[List.getElem?_eq_getElem (by omega),h]
theorem ai2{ops:Array Oper}{es:List En}{L:Nat->Bool}{m t:Nat}(h1:∀ m' e',m'<m->es[m']?=some e'->dstOf ops e'.i=some t->L e'.i=true)
  (h2:∀ m' e',m<=m'->es[m']?=some e'->dstOf ops e'.i=some t->L e'.i=false):(abH ops es L s)[t]?=((es.take m).foldl (enPut ops) s)[t]?:=by
 rw[foldL_get,fold_filter (es:=es.take m)]
 congr 2
 have hs:es=es.take m++es.drop m:=(List.take_append_drop m es).symm
 generalize hx:es.take m=x at *
 generalize hy:es.drop m=y at *
 rw[hs,List.filter_append]
 have e2:(y.filter λe=>L e.i&&dstOf ops e.i == some t)=[]:=by
  rw[List.filter_eq_nil_iff]
  intro e he
  rw[<-hy]at he
  obtain⟨m',hm,hg⟩:=ah1 he
  intro hc
  simp only[Bool.and_eq_true,beq_iff_eq]at hc
  rw[h2 m' e hm hg hc.2]at hc
  cases hc.1
 rw[e2,List.append_nil]
 refine List.filter_congr λe he=>?_
 rw[<-hx]at he
 obtain⟨m',hm,hg⟩:=ahB he
 by_cases hc:dstOf ops e.i=some t
 ·simp[hc,h1 m' e hm hg hc]
 ·have:(dstOf ops e.i == some t)=false:=by simpa using hc
  simp[this]
theorem ajF{ops:Array Oper}{es:List En}{L L':Nat->Bool}{m:Nat}{e:En}(he:es[m]?=some e)(hL:L e.i=false)(hL':∀ i,L' i=(L i||i == e.i))(h3:∀ m' e',es[m']?=some e'->e'.i=e.i->m'=m)
  (h2:∀ m' e' t,m<m'->es[m']?=some e'->dstOf ops e.i=some t->dstOf ops e'.i=some t->L e'.i=false) (t:Nat):(abH ops es L' s)[t]?=(enPut ops (abH ops es L s) e)[t]?:=by
 by_cases ht:dstOf ops e.i=some t
 ·have hs:=aml he
  have key:∀ M:Nat->Bool,(∀ i,M i=L i∨i=e.i)->(es.filter λe=>M e.i&&dstOf ops e.i == some t)=((es.take m).filter λe=>L e.i&&dstOf ops e.i == some t)++([e].filter λe=>M e.i):=by
   intro M hM
   have ed:((es.drop (m+1)).filter λe=>M e.i&&dstOf ops e.i == some t)=[]:=by
    rw[List.filter_eq_nil_iff]
    intro e' he'
    obtain⟨m',hm,hg⟩:=ah1 he'
    intro hc
    simp only[Bool.and_eq_true,beq_iff_eq]at hc
    rcases hM e'.i with h | h
    ·rw[h,h2 m' e' t (by omega) hg ht hc.2]at hc
     cases hc.1
    ·have:=h3 m' e' hg h
     omega
   have et:((es.take m).filter λe=>M e.i&&dstOf ops e.i == some t)=(es.take m).filter λe=>L e.i&&dstOf ops e.i == some t:=by
    refine List.filter_congr λe' he'=>?_
    obtain⟨m',hm,hg⟩:=ahB he'
    rcases hM e'.i with h | h
    ·rw[h]
    ·have:=h3 m' e' hg h
     omega
   conv=>lhs;rw[hs]
   rw[List.filter_append,List.filter_cons,ed,et]
   simp only[ht,beq_self_eq_true,Bool.and_true,List.filter_cons,List.filter_nil]
  rw[foldL_get,key L' (λi=>by rw[hL' i];by_cases h:i=e.i <;> simp[h])]
  have e1:([e].filter λe=>L' e.i)=[e]:=by simp[hL']
  rw[e1,List.foldl_append,List.foldl_cons,List.foldl_nil]
  refine aet ?_
  rw[foldL_get,key L (λi=>.inl rfl)]
  have e2:([e].filter λe=>L e.i)=[]:=by simp[hL]
  rw[e2,List.append_nil]
 ·rw[afO ht,foldL_get,foldL_get]
  congr 2
  refine List.filter_congr λe' he'=>?_
  rw[hL']
  by_cases h:e'.i=e.i
  ·have:(dstOf ops e'.i == some t)=false:=by rw[h];simpa using ht
   simp[this]
  ·have:(e'.i == e.i)=false:=by simpa using h
   rw[this,Bool.or_false]
end Go.Ev
namespace Go.Ev
variable[Glo]
set_option linter.unusedSimpArgs false
variable{P:Program}{Φ Φ':Phi}{ρ ρ':Rho}{H H':Heap}{s:List A}{a:Act}{w w':World}
theorem aba{ops:Array Oper}{anc:Array Nat}:∀ {l pre:List Nat},ordOk P ops anc pre l=true->∀ {m i:Nat},l[m]?=some i →
  (∀ j,j<ops.size->bit anc i j=true->j∈pre∨j∈l.take m)/\i ∉ pre/\i ∉ l.take m/\∀ q,q∈pre∨q∈l.take m->effAt P ops q=true->bit anc i q=true
 | [],_,_,m,i,h=>by simp at h
 | x::l,pre,h,m,i,hm=>by
  simp only[ordOk,Bool.and_eq_true,List.all_eq_true,List.mem_range,Bool.or_eq_true,Bool.not_eq_true',List.contains_eq_mem,decide_eq_true_eq,decide_eq_false_iff_not]at h
  obtain⟨⟨⟨h1,h2⟩,h3⟩,h4⟩:=h
  cases m with
  | zero=>
   simp only[List.getElem?_cons_zero,Option.some.injEq]at hm
   subst hm
   refine⟨λj hj hb=>?_,h2,by simp,λq hq he=>?_⟩
   ·rcases h1 j hj with h | h
    ·rw[hb]at h;cases h
    ·exact .inl h
   ·rcases hq with hq | hq
    ·rcases h3 q hq with h | h
     ·unfold effAt at he;rw[he]at h;cases h
     ·exact h
    ·simp at hq
  | succ m=>
   simp only[List.getElem?_cons_succ]at hm
   obtain⟨g1,g2,g3,g4⟩:=aba h4 hm
   simp only[List.mem_cons,not_or]at g1 g2 g4
   simp only[List.take_succ_cons,List.mem_cons,not_or]
   refine⟨λj hj hb=>?_,g2.2,⟨g2.1,g3⟩,λq hq he=>?_⟩
   ·rcases g1 j hj hb with(h | h) | h
    ·exact .inr (.inl h)
    ·exact .inl h
    ·exact .inr (.inr h)
   ·refine g4 q ?_ he
    rcases hq with h | h | h
    ·exact .inl (.inr h)
    ·exact .inl (.inl h)
    ·exact .inr h
structure Ctx(P:Program)(cf:aaj)(ops:Array Oper)(es:List En)(st st':St):Prop where
 row:Row P cf ops es st st'
 o1:∀ {m m':Nat}{e e':En},es[m]?=some e->es[m']?=some e'->bit (ancs ops) e.i e'.i=true->m'<m
 o2:∀ {m m':Nat}{e e':En},es[m]?=some e->es[m']?=some e'->m<m'->effAt P ops e.i=true->bit (ancs ops) e'.i e.i=true
 o3:∀ {m m':Nat}{e e':En},es[m]?=some e->es[m']?=some e'->e.i=e'.i->m=m'
 all:∀ i,i<ops.size->∃ (m:Nat) (e:En),es[m]?=some e/\e.i=i
 sl:∀ {i j:Nat}{o o':Oper}{d:Tmp},ops[i]?=some o->ops[j]?=some o'->i≠j->o.dst=some d->d∈namesOf ops o'->bit (ancs ops) i j=true∨bit (ancs ops) j i=true
 ed:∀ {i:Nat}{o:Oper},ops[i]?=some o->∀ e∈o.after,e.on<ops.size
theorem apc{cf:aaj}{ops:Array Oper}{st st':St}(h:evDraw P cf ops st=some st'):∃ es,Ctx P cf ops es st st':=by
 unfold evDraw at h
 simp only at h
 split at h
 ·rename_i hd
  generalize air P ops (ancs ops) ops.size 0=ord at h hd
  simp only[drawOk,Bool.and_eq_true]at hd
  obtain⟨⟨⟨⟨h1,h2⟩,h3⟩,h4⟩,h5⟩:=hd
  obtain⟨es,e1,e2,_⟩:=ac5 h
  have hm:∀ {m:Nat}{e:En},es[m]?=some e->ord[m]?=some e.i:=λhe=>by rw[<-e1,List.getElem?_map,he];rfl
  have hback:∀ {m m':Nat}{i:Nat},i∈ord.take m->ord[m']?=some i->m'<m:=by
   intro m m' i hi hg
   obtain⟨k,hk,hh⟩:=List.mem_iff_getElem.1 hi
   simp only[List.length_take]at hk
   rw[List.getElem_take]at hh
   apply Classical.byContradiction
   intro hn
   have:=(aba h2 hg).2.2.1
   apply this
   rw[<-hh]
   exact List.mem_iff_getElem.2 ⟨k,by simp only[List.length_take];have:=(List.getElem?_eq_some_iff.1 hg).1;omega,by rw[List.getElem_take]⟩
  refine⟨es,e2,?_,?_,?_,?_,?_,?_⟩
  ·intro m m' e e' he he' hb
   have hj:e'.i<ops.size:=by
    simp only[List.all_eq_true,decide_eq_true_eq]at h3
    exact h3 _ (List.mem_of_getElem? (hm he'))
   rcases(aba h2 (hm he)).1 _ hj hb with h | h
   ·simp at h
   ·exact hback h (hm he')
  ·intro m m' e e' he he' hlt hf
   refine(aba h2 (hm he')).2.2.2 _ (.inr ?_) hf
   have:=hm he
   obtain⟨hl,hh⟩:=List.getElem?_eq_some_iff.1 this
   exact List.mem_iff_getElem.2 ⟨m,by simp only[List.length_take];omega,by rw[List.getElem_take];exact hh⟩
  ·intro m m' e e' he he' hi
   have k1:=hm he
   have k2:=hm he'
   rw[hi]at k1
   obtain⟨l1,q1⟩:=List.getElem?_eq_some_iff.1 k1
   obtain⟨l2,q2⟩:=List.getElem?_eq_some_iff.1 k2
   rcases Nat.lt_trichotomy m m' with hlt | rfl | hlt
   ·exact absurd (List.mem_iff_getElem.2 ⟨m,by simp only[List.length_take];omega,by rw[List.getElem_take];exact q1⟩) (aba h2 k2).2.2.1
   ·rfl
   ·exact absurd (List.mem_iff_getElem.2 ⟨m',by simp only[List.length_take];omega,by rw[List.getElem_take];exact q2⟩) (aba h2 k1).2.2.1
  ·intro i hi
   simp only[List.all_eq_true,List.mem_range,List.contains_eq_mem,decide_eq_true_eq]at h4
   have:=h4 i hi
   rw[<-e1]at this
   obtain⟨e,he,rfl⟩:=List.mem_map.1 this
   obtain⟨m,hm⟩:=List.mem_iff_getElem?.1 he
   exact⟨m,e,hm,rfl⟩
  ·intro i j o o' d ho ho' hne hd hn
   simp only[slotsOk,List.all_eq_true,Bool.or_eq_true,beq_iff_eq]at h1
   have z1:(o,i)∈ops.toList.zipIdx:=by rw[List.mem_zipIdx_iff_getElem?];simpa using ho
   have z2:(o',j)∈ops.toList.zipIdx:=by rw[List.mem_zipIdx_iff_getElem?];simpa using ho'
   have:=h1 (o,i) z1 (o',j) z2
   simp only[hd]at this
   rcases this with((h | h) | h) | h
   ·exact absurd h hne
   ·exact .inl h
   ·exact .inr h
   ·simp[hn]at h
  ·intro i o ho e he
   simp only[List.all_eq_true,decide_eq_true_eq]at h5
   exact h5 o (by simpa using Array.mem_of_getElem? ho) e (by simpa using he)
 ·cases h
structure Inv(P:Program)(ops:Array Oper)(es:List En)(st st':St)(Φ0:Phi)(ρ0:Rho)(w0:World)(a0:Act)(L:Nat->Bool)(p:Nat)(Φ:Phi)(ρ:Rho)(a:Act)(w:World):Prop where
 pl:p<=es.length
 hi:∀ {m:Nat}{e:En},es[m]?=some e->p<=m->L e.i=false
 lo:∀ {m:Nat}{e:En},es[m]?=some e->m<p->effAt P ops e.i=true->L e.i=true
 ef:∀ {e:En},es[p]?=some e->effAt P ops e.i=true
 cl:∀ {i j:Nat},L i=true->bit (ancs ops) i j=true->L j=true
 stp:Stp Φ0 ρ0 st.h w0 Φ ρ (hAt es st'.h p) w
 un:∀ {m:Nat}{e:En},es[m]?=some e->m<p->L e.i=false->e.ran=true->∀ o,ops[e.i]?=some o->cls P o.op = .alo->ρ e.h.length=none
 sr:SR Φ ρ (hAt es st'.h p) (abH ops es L st.s) a.tmps
 df:a.defers=a0.defers
theorem aj5{ops:Array Oper}{o:Oper}{d:Tmp}(h:o.dst=some d):d∈namesOf ops o:=by simp[namesOf,h]
theorem alw{ops:Array Oper}{o:Oper}{d:Tmp}(h:Operand.tmp d∈o.op.operands.toList):d∈namesOf ops o:=by
 unfold namesOf
 rw[List.append_assoc,List.mem_append]
 right
 rw[List.mem_append]
 left
 rw[List.mem_filterMap]
 exact⟨_,h,rfl⟩
theorem ag8{ops:Array Oper}{o:Oper}{j:Nat}{b:Bool}{d:Tmp}(h:o.guard=some (j,b))(hd:(ops[j]?).bind (·.dst)=some d):d∈namesOf ops o:=by
 unfold namesOf
 rw[List.mem_append]
 right
 simp[h,hd]
section
variable{cf:aaj}{ops:Array Oper}{es:List En}{st st':St}{Φ0:Phi}{ρ0:Rho}{w0:World}{a0:Act}{L:Nat->Bool}{p:Nat}
theorem ao8{s s':List A}{t:Array Value}(h:SR Φ ρ H s t)(hl:s'.length=s.length)(he:∀ i:Nat,s'[i]?=s[i]?):SR Φ ρ H s' t:=
 ⟨by rw[hl];exact h.1,λi x hx=>h.2 i x (by rw[<-he];exact hx)⟩
theorem apm(cx:Ctx P cf ops es st st')(iv:Inv P ops es st st' Φ0 ρ0 w0 a0 L p Φ ρ a w){m:Nat}{e:En}{o:Oper}(he:es[m]?=some e)(ho:ops[e.i]?=some o)(hL:L e.i=false)
  (hr:∀ j,bit (ancs ops) e.i j=true->L j=true):∀ t∈namesOf ops o,(abH ops es L st.s)[t]?=e.s[t]?:=by
 intro t ht
 rw[cx.row.slots he]
 refine ai2 (λm' e' hm he' hd=>?_) (λm' e' hm he' hd=>?_)
 ·cases ho':ops[e'.i]? with
  | none=>simp[dstOf,ho']at hd
  | some o'=>
   simp only[dstOf,ho',Option.bind_some]at hd
   have hne:e'.i≠e.i:=λh=>by have:=cx.o3 he' he h;omega
   rcases cx.sl ho' ho hne hd ht with h | h
   ·have:=cx.o1 he' he h;omega
   ·exact hr _ h
 ·by_cases hne:e'.i=e.i
  ·rw[hne];exact hL
  ·cases ho':ops[e'.i]? with
   | none=>simp[dstOf,ho']at hd
   | some o'=>
    simp only[dstOf,ho',Option.bind_some]at hd
    rcases cx.sl ho' ho hne hd ht with h | h
    ·cases hx:L e'.i with
     | false=>rfl
     | true=>rw[iv.cl hx h]at hL;cases hL
    ·have:=cx.o1 he he' h;omega
theorem aa8(cx:Ctx P cf ops es st st')(iv:Inv P ops es st st' Φ0 ρ0 w0 a0 L p Φ ρ a w){m:Nat}{e:En}{o:Oper}(he:es[m]?=some e)(ho:ops[e.i]?=some o)(hL:L e.i=false){z:Value}{Φ1:Phi}{ρ1:Rho}{H1:Heap}
  {L':Nat->Bool} (hL':∀ i,L' i=(L i||i == e.i)) (hs:SR Φ1 ρ1 H1 (abH ops es L st.s) a.tmps) (hz:AR Φ1 ρ1 H1 e.out z):SR Φ1 ρ1 H1 (abH ops es L' st.s) (a.put o.dst z).tmps:=by
 have hd:dstOf ops e.i=o.dst:=by simp[dstOf,ho]
 refine ao8 (adA (d:=o.dst) hs hz) ?_ (λt=>?_)
 ·rw[afF]
  have:=afT (ops:=ops) (s:=abH ops es L st.s) (e:=e)
  rw[enPut,hd,afF]at this
  exact this.symm
 ·have:=ajF (ops:=ops) (s:=st.s) he hL hL' (λm' e' h1 h2=>cx.o3 h1 he h2) (λm' e' t hm he' h1 h2=>?_) t
  ·rw[this,enPut,hd]
  ·cases ho':ops[e'.i]? with
   | none=>simp[dstOf,ho']at h2
   | some o'=>
    simp only[dstOf,ho',Option.bind_some]at h2
    simp only[dstOf,ho,Option.bind_some]at h1
    have hne:e'.i≠e.i:=λh=>by have:=cx.o3 he' he h;omega
    rcases cx.sl ho' ho hne h2 (aj5 h1)with h | h
    ·cases hx:L e'.i with
     | false=>rfl
     | true=>rw[iv.cl hx h]at hL;cases hL
    ·have:=cx.o1 he he' h;omega
end
end Go.Ev
namespace Go.Ev
variable[Glo]
set_option linter.unusedSimpArgs false
variable{P:Program}{Φ Φ':Phi}{ρ ρ':Rho}{H H':Heap}{s:List A}{a:Act}{w w':World}
section
variable{cf:aaj}{ops:Array Oper}{es:List En}{st st':St}{Φ0:Phi}{ρ0:Rho}{w0:World}{a0:Act}{L L':Nat->Bool}{p:Nat}
theorem alp(cx:Ctx P cf ops es st st'){m m':Nat}{e e':En}(he:es[m]?=some e)(he':es[m']?=some e')(hlt:m<m'):e.h'.length<=e'.h.length:=by
 have g1:=cx.row.next he
 have hl:=(List.getElem?_eq_some_iff.1 he').1
 have g2:=acA cx.row (q:=m+1) (m'-(m+1)) (by omega)
 rw[show m+1+(m'-(m+1))=m' from by omega,g1,aa5 he']at g2
 exact g2
theorem afe{e:En}(h:EnOk P cf ops e){o:Oper}(ho:ops[e.i]?=some o)(hr:e.ran=true)(hc:cls P o.op = .alo):∃ k,e.h'=e.h++[some k]/\alo P e.s e.h.length o.op=some (e.out,k):=by
 obtain⟨o2,ho2,hx⟩:=h.op
 rw[ho]at ho2;cases ho2
 rcases hx with⟨_,_,hx⟩ | ⟨hx,_⟩
 ·unfold evOp at hx
  rw[hc]at hx
  simp only[Option.map_eq_some_iff,Prod.mk.injEq]at hx
  obtain⟨⟨x,k⟩,h1,h2,hx⟩:=hx
  exact⟨k,hx.symm,by rw[h1];simp only at h2;rw[h2]⟩
 ·rw[hr]at hx;cases hx
theorem Inv.late(cx:Ctx P cf ops es st st')(iv:Inv P ops es st st' Φ0 ρ0 w0 a0 L p Φ ρ a w){m:Nat}{e:En}(he:es[m]?=some e)(hm:m<p)(hr:∀ j,bit (ancs ops) e.i j=true->L j=true)
  (hL':∀ i,L' i=(L i||i == e.i)) {ρ1:Rho}{a1:Act}{w1:World} (stp:Stp Φ0 ρ0 st.h w0 Φ ρ1 (hAt es st'.h p) w1) (sr:SR Φ ρ1 (hAt es st'.h p) (abH ops es L' st.s) a1.tmps) (df:a1.defers=a.defers)
  (hρ:∀ b,ρ b=none->ρ1 b=none∨(b=e.h.length/\e.h.length<e.h'.length)):Inv P ops es st st' Φ0 ρ0 w0 a0 L' p Φ ρ1 a1 w1 where
 pl:=iv.pl
 hi:=fun {m' e'} he' hp=>by
  rw[hL',iv.hi he' hp,Bool.false_or]
  apply Classical.byContradiction
  intro hc
  simp only[Bool.not_eq_false,beq_iff_eq]at hc
  have:=cx.o3 he' he hc
  omega
 lo:=λhe' hp hf=>by rw[hL',iv.lo he' hp hf];rfl
 ef:=iv.ef
 cl:=fun {i j} hi hb=>by
  rw[hL']at hi ⊢
  simp only[Bool.or_eq_true,beq_iff_eq]at hi
  rcases hi with hi | rfl
  ·rw[iv.cl hi hb];rfl
  ·rw[hr j hb];rfl
 stp:=stp
 un:=fun {m' e'} he' hp hu hran o ho hc=>by
  rw[hL',Bool.or_eq_false_iff]at hu
  rcases hρ _ (iv.un he' hp hu.1 hran o ho hc)with h | ⟨h1,h2⟩
  ·exact h
  ·exfalso
   obtain⟨k,hk,_⟩:=afe (cx.row.ok he') ho hran hc
   have hk':e'.h'.length=e'.h.length+1:=by rw[hk];simp
   rcases Nat.lt_trichotomy m' m with hlt | rfl | hlt
   ·have:=alp cx he' he hlt
    omega
   ·rw[he]at he';cases he'
    simp at hu
   ·have:=alp cx he he' hlt
    omega
 sr:=sr
 df:=df.trans iv.df
theorem Inv.eff(cx:Ctx P cf ops es st st')(iv:Inv P ops es st st' Φ0 ρ0 w0 a0 L p Φ ρ a w){e:En}(he:es[p]?=some e)(hr:∀ j,bit (ancs ops) e.i j=true->L j=true)
  (hL':∀ i,L' i=(L i||i == e.i)) {Φ1:Phi}{ρ1:Rho}{a1:Act}{w1:World} (stp:Stp Φ ρ (hAt es st'.h p) w Φ1 ρ1 (hAt es st'.h (p+1)) w1) (sr:SR Φ1 ρ1 (hAt es st'.h (p+1)) (abH ops es L' st.s) a1.tmps) (df:a1.defers=a.defers) :
  ∃ p' ρ2,Inv P ops es st st' Φ0 ρ0 w0 a0 L' p' Φ1 ρ2 a1 w1:=by
 have hp:=(List.getElem?_eq_some_iff.1 he).1
 obtain⟨d,d1,d2,d3⟩:=aeV P ops es (es.length-(p+1)) (p+1) (Nat.le_refl _) (by omega)
 obtain⟨ρ2,s2,n2⟩:=ae1 cx.row stp.hr d d1 d2
 have full:=(iv.stp.trans stp).trans s2
 refine⟨p+1+d,ρ2,d1,?_,?_,fun {e'} he'=>d3 e' he',?_,full,?_,aaW s2.ext sr,df.trans iv.df⟩
 ·intro m' e' he' hp'
  rw[hL',iv.hi he' (by omega),Bool.false_or]
  apply Classical.byContradiction
  intro hc
  simp only[Bool.not_eq_false,beq_iff_eq]at hc
  have:=cx.o3 he' he hc
  omega
 ·intro m' e' he' hp' hf
  rw[hL']
  rcases Nat.lt_trichotomy m' p with hlt | rfl | hlt
  ·rw[iv.lo he' hlt hf];rfl
  ·rw[he]at he';cases he';simp
  ·rw[d2 m' e' (by omega) hp' he']at hf;cases hf
 ·intro i j hi hb
  rw[hL']at hi ⊢
  simp only[Bool.or_eq_true,beq_iff_eq]at hi
  rcases hi with hi | rfl
  ·rw[iv.cl hi hb];rfl
  ·rw[hr j hb];rfl
 ·intro m' e' he' hp' hu hran o ho hc
  rw[hL',Bool.or_eq_false_iff]at hu
  obtain⟨k,hk,_⟩:=afe (cx.row.ok he') ho hran hc
  have hk':e'.h'.length=e'.h.length+1:=by rw[hk];simp
  rcases Nat.lt_trichotomy m' p with hlt | rfl | hlt
  ·have h0:=iv.un he' hlt hu.1 hran o ho hc
   have hg:=alp cx he' he hlt
   have h1:hAt es st'.h p=e.h:=aa5 he
   rw[s2.ext.rho _ (Nat.lt_of_lt_of_le (by rw[h1];omega) stp.ext.len),stp.ext.rho _ (by rw[h1];omega)]
   exact h0
  ·rw[he]at he';cases he';simp at hu
  ·refine n2 _ ?_ ?_
   ·rw[cx.row.next he]
    exact alp cx he he' hlt
   ·have g1:=cx.row.next he'
    have g2:=acA cx.row (q:=m'+1) (p+1+d-(m'+1)) (by omega)
    rw[show m'+1+(p+1+d-(m'+1))=p+1+d from by omega,g1]at g2
    omega
theorem Inv.step(hcf:aa7 P cf)(cx:Ctx P cf ops es st st')(iv:Inv P ops es st st' Φ0 ρ0 w0 a0 L p Φ ρ a w){i:Nat}{o:Oper}(ho:ops[i]?=some o)(hu:L i=false)(hr:∀ j,bit (ancs ops) i j=true->L j=true)
  (hL':∀ j,L' j=(L j||j == i)) {Q:Exit->Act->World->Prop}{K:Act->World->Prop} (hK:∀ p' Φ' ρ' a' w',Inv P ops es st st' Φ0 ρ0 w0 a0 L' p' Φ' ρ' a' w'->K a' w'):wpOp P ops Q i K a w:=by
 obtain⟨m,e,he,rfl⟩:=cx.all i (Array.getElem?_eq_some_iff.1 ho).1
 have hmp:m<=p:=by
  apply Classical.byContradiction
  intro hn
  have hlt:p<es.length:=by have:=(List.getElem?_eq_some_iff.1 he).1;omega
  have hp:es[p]?=some es[p]:=List.getElem?_eq_getElem hlt
  have h1:=hr _ (cx.o2 hp he (by omega) (iv.ef hp))
  rw[iv.hi hp (Nat.le_refl _)]at h1
  cases h1
 have hfnd:=apm cx iv he ho hu hr
 have hop:∀ x∈o.op.operands.toList,opd (abH ops es L st.s) x=opd e.s x:=by
  intro x hx
  cases x with
  | tmp t=>
   simp only[opd,List.getD_eq_getElem?_getD]
   rw[hfnd t (alw hx)]
  | const v=>rfl
  | func f=>rfl
  | global g=>rfl
 have hwa:acl ops (abH ops es L st.s) o=acl ops e.s o:=agU λj wt d hg hd=>hfnd d (ag8 hg hd)
 have hput:∀ (z:Value) (d:Option Tmp),(a.put d z).defers=a.defers:=λz d=>aa9 a d z
 have hmh:∀ {e0:En},es[p]?=some e0->hAt es st'.h p=e0.h:=λh=>aa5 h
 obtain⟨o',ho',hcase⟩:=(cx.row.ok he).op
 rw[ho]at ho';cases ho'
 unfold wpOp
 simp only[ho]
 rcases hcase with⟨hran,hw,hev⟩ | ⟨hran,hw,hout,hh⟩
 ·have hw':=abR (hwa.trans hw) iv.sr
  rw[if_pos hw']
  left
  rcases Nat.lt_or_eq_of_le hmp with hlt | heq
  ·-- late
   have hne:effAt P ops e.i=false:=by
    cases hx:effAt P ops e.i with
    | false=>rfl
    | true=>rw[iv.lo he hlt hx]at hu;cases hu
   have hkeep:∀ b,b<e.h'.length->(∀ o,ops[e.i]?=some o->b∈pinned P e.s e.h o.op)->live (hAt es st'.h p) b=live e.h' b:=by
    intro b hb hpin
    have hn:=cx.row.next he
    have:=ahV cx.row (q:=m+1) (b:=b) (by rw[hn];exact hb) (p-(m+1)) (by have:=iv.pl;omega) (λm' e' h1 h2 he' hran' hf' o' ho'=>?_)
    ·rw[show m+1+(p-(m+1))=p from by omega,hn]at this
     exact this
    ·rcases cx.row.pins he he' (by omega) hran hne o ho hran' hf' with h | h
     ·exfalso
      have:=iv.cl (iv.lo he' (by omega) hf') h
      rw[hu]at this;cases this
     ·exact h o' ho' b (hpin o ho)
   have hlen:=amH (cx.row.ok he)
   have hop':∀ x∈o.op.operands.toList,opd e.s x=opd (abH ops es L st.s) x:=λx hx=>(hop x hx).symm
   cases hc:cls P o.op with
   | eff=>simp[effAt,ho,isEff,hc]at hne
   | sil=>
    unfold evOp at hev
    rw[hc]at hev
    simp only[Option.map_eq_some_iff,Prod.mk.injEq]at hev
    obtain⟨x,hx,rfl,_⟩:=hev
    rw[ai1 hop']at hx
    obtain⟨z,h1,h2⟩:=amU hx iv.sr w
    unfold Oper.wp
    rw[h1]
    refine hK p Φ ρ _ _ (iv.late cx he hlt hr hL' iv.stp (aa8 cx iv he ho hu hL' iv.sr h2) (hput _ _) (λb hb=>.inl hb))
   | rdo=>
    unfold evOp at hev
    rw[hc]at hev
    simp only[Option.map_eq_some_iff,Prod.mk.injEq]at hev
    obtain⟨x,hx,rfl,hh⟩:=hev
    have hx':=amt (H':=hAt es st'.h p) (n:=0) hc hx (λb hb k hk=>by
     have hbl:=aaK hk
     rw[hkeep b (by omega) (λo2 ho2=>by rw[ho]at ho2;cases ho2;exact hb),<-hh]
     exact hk)
    rw[akG hop']at hx'
    obtain⟨z,h1,h2⟩:=am7 hx' iv.sr iv.stp.hr
    unfold Oper.wp
    rw[h1]
    refine hK p Φ ρ _ _ (iv.late cx he hlt hr hL' iv.stp (aa8 cx iv he ho hu hL' iv.sr h2) (hput _ _) (λb hb=>.inl hb))
   | cnv=>
    unfold evOp at hev
    rw[hc]at hev
    simp only at hev
    obtain⟨hh,hx'⟩:=aeU (H':=hAt es st'.h p) hc hev (λb hb k hk=>by
     have hbl:=aaK hk
     have hh:=(aeU (H':=e.h) hc hev (λ_ _ _ h=>h)).1
     rw[hkeep b (by rw[hh];exact hbl) (λo2 ho2=>by rw[ho]at ho2;cases ho2;exact hb),hh]
     exact hk)
    rw[af3 hop']at hx'
    obtain⟨src,dst,x,hox⟩:=ajz hc
    obtain⟨_,w1,z,h1,h2,h3⟩:=amT hox hx' iv.sr iv.stp.hr
    unfold Oper.wp
    rw[h1]
    refine hK p Φ ρ _ _ (iv.late cx he hlt hr hL' (iv.stp.trans h2) (aa8 cx iv he ho hu hL' iv.sr h3) (hput _ _) (λb hb=>.inl hb))
   | alo=>
    obtain⟨k,hk,hal⟩:=afe (cx.row.ok he) ho hran hc
    rw[akj hop']at hal
    obtain⟨z,w',arr,ty,fz,h1,al⟩:=ahk (Φ:=Φ) (ρ:=ρ) (H:=hAt es st'.h p) (w:=w) hal iv.sr
    have hρ:=iv.un he hlt hu hran o ho hc
    have hk':live (hAt es st'.h p) e.h.length=some k:=by
     rw[hkeep e.h.length (by rw[hk];simp) (λo2 ho2=>by rw[ho]at ho2;cases ho2;simp[pinned,hc]),hk]
     exact aal
    have hb0:st.h.length<=e.h.length:=by
     have:=acA cx.row (q:=0) m (by have:=iv.pl;omega)
     rw[cx.row.start,Nat.zero_add,aa5 he]at this
     exact this
    unfold Oper.wp
    rw[h1]
    refine hK p Φ _ _ _ (iv.late cx he hlt hr hL' (al3 iv.stp hb0 hk' hρ (aiQ hal) al) (aa8 cx iv he ho hu hL' (aoL (akV hρ) iv.sr) (al.res _ _ (aaK hk') hk' upd_self)) (hput _ _) (λb hb=>?_))
    by_cases hbe:b=e.h.length
    ·exact .inr ⟨hbe,by rw[hk];simp⟩
    ·exact .inl (by rw[aay hbe];exact hb)
  ·subst heq
   have hef:=iv.ef he
   have hc:cls P o.op = .eff:=by simpa[effAt,ho,isEff]using hef
   have hev':evOp P cf (abH ops es L st.s) (hAt es st'.h m) o.op=some (e.out,e.h'):=by
    rw[aa5 he]
    unfold evOp at hev ⊢
    rw[hc]at hev ⊢
    simp only at hev ⊢
    rw[ail hop]
    exact hev
   refine agO hcf hev' iv.sr iv.stp.hr (λz w' Φ' ρ' stp hz=>?_)
   rw[<-cx.row.next he]at stp hz
   obtain⟨p',ρ2,iv'⟩:=iv.eff cx he hr hL' stp (aa8 cx iv he ho hu hL' (aaW stp.ext iv.sr) hz) (hput _ _)
   exact hK _ _ _ _ _ iv'
 ·have hw':=abR (hwa.trans hw) iv.sr
  rw[if_neg (by simp[hw'])]
  have hz:∀ (Φ:Phi) (ρ:Rho) (H:Heap),AR Φ ρ H e.out undef:=λΦ ρ H=>by rw[hout];simp only[undA,AR];exact⟨#[],rfl,by simp[ARs]⟩
  rcases Nat.lt_or_eq_of_le hmp with hlt | heq
  ·refine hK p Φ ρ _ _ (iv.late cx he hlt hr hL' iv.stp (aa8 cx iv he ho hu hL' iv.sr (hz _ _ _)) (hput _ _) (λb hb=>.inl hb))
  ·subst heq
   have hn:=cx.row.next he
   rw[hh,<-aa5 (H:=st'.h) he]at hn
   obtain⟨p',ρ2,iv'⟩:=iv.eff cx he hr hL' (Φ1:=Φ) (ρ1:=ρ) (w1:=w) (by rw[hn];exact Stp.refl iv.stp.hr) (by rw[hn];exact aa8 cx iv he ho hu hL' iv.sr (hz _ _ _)) (hput _ _)
   exact hK _ _ _ _ _ iv'
end
theorem aer{f g:Nat->Bool}:∀ {l:List Nat}{i:Nat},i∈l->f i=true->g i=false->(∀ j,g j=true->f j=true)->l.countP g<l.countP f
 | x::l,i,hi,h1,h2,h3=>by
  have mono:l.countP g<=l.countP f:=List.countP_mono_left λj _ h=>h3 j h
  rw[List.countP_cons,List.countP_cons]
  rcases List.mem_cons.1 hi with rfl | hi
  ·rw[h1,h2];simp only[if_true];split
   ·rename_i h;cases h
   ·omega
  ·have:=aer hi h1 h2 h3
   split
   ·rename_i h;rw[if_pos (h3 x h)];omega
   ·split <;> omega
theorem aoO{cf:aaj}{ops:Array Oper}{es:List En}{st st':St}{Φ0:Phi}{ρ0:Rho}{w0:World}{a0:Act}{Q:Exit->Act->World->Prop}(hcf:aa7 P cf)(cx:Ctx P cf ops es st st')
  (hQ:∀ a' w',Goes Φ0 ρ0 st.h a0 w0 st' a' w'->Q .normal a' w'):∀ (fuel:Nat) (listed:Array Bool) (p:Nat) (Φ:Phi) (ρ:Rho) (a:Act) (w:World),listed.size=ops.size →
  (List.range ops.size).countP (λi=>!listed.getD i false)<=fuel->Inv P ops es st st' Φ0 ρ0 w0 a0 (λi=>listed.getD i false) p Φ ρ a w->wpAny P .any ops Q fuel listed a w:=by
 intro fuel
 have done:∀ (listed:Array Bool) (p:Nat) (Φ:Phi) (ρ:Rho) (a:Act) (w:World),(∀ i,i<ops.size->listed.getD i false=true)->Inv P ops es st st' Φ0 ρ0 w0 a0 (λi=>listed.getD i false) p Φ ρ a w->Q .normal a w:=by
  intro listed p Φ ρ a w hall iv
  have allL:∀ (m:Nat) (e:En),es[m]?=some e->listed.getD e.i false=true:=by
   intro m e he
   obtain⟨o,ho,_⟩:=(cx.row.ok he).op
   exact hall _ (Array.getElem?_eq_some_iff.1 ho).1
  have hp:p=es.length:=by
   apply Classical.byContradiction
   intro hn
   have hlt:p<es.length:=by have:=iv.pl;omega
   have he:es[p]?=some es[p]:=List.getElem?_eq_getElem hlt
   have:=iv.hi he (Nat.le_refl _)
   rw[allL _ _ he]at this;cases this
  subst hp
  have e1:=iv.stp
  have e2:=iv.sr
  rw[ajK]at e1 e2
  have e3:abH ops es (λi=>listed.getD i false) st.s=st'.s:=by
   rw[cx.row.last,abH]
   congr 1
   rw[List.filter_eq_self]
   intro e he
   obtain⟨m,hm⟩:=List.mem_iff_getElem?.1 he
   exact allL m e hm
  rw[e3]at e2
  exact hQ a w ⟨Φ,ρ,e1,e2,iv.df⟩
 have stuck:∀ (listed:Array Bool) (p:Nat) (Φ:Phi) (ρ:Rho) (a:Act) (w:World),listed.size=ops.size->Inv P ops es st st' Φ0 ρ0 w0 a0 (λi=>listed.getD i false) p Φ ρ a w->Region.ready .any ops listed=[]->∀ i,i<ops.size->listed.getD i false=true:=by
  intro listed p Φ ρ a w hsz iv hr
  -- by the place in the row
  have key:∀ n m:Nat,m<=n->∀ e,es[m]?=some e->listed.getD e.i false=true:=by
   intro n
   induction n with
   | zero=>
    intro m hm e he
    apply Classical.byContradiction
    intro hn
    obtain⟨o,ho,_⟩:=(cx.row.ok he).op
    have hlt:=(Array.getElem?_eq_some_iff.1 ho).1
    have hmem:e.i∈Region.ready .any ops listed:=by
     rw[mem_ready]
     refine⟨?_,o,ho,λd hd hb=>?_⟩
     ·simp only[Array.getD_eq_getD_getElem?]at hn ⊢
      rw[Array.getElem?_eq_getElem (by omega)]at hn ⊢
      simpa using hn
     ·exfalso
      have hbit:=ahx ho hd hb
      obtain⟨m',e',he',hi'⟩:=cx.all _ (cx.ed ho d hd)
      rw[<-hi']at hbit
      have:=cx.o1 he he' hbit
      omega
    rw[hr]at hmem
    simp at hmem
   | succ n ih=>
    intro m hm e he
    apply Classical.byContradiction
    intro hn
    obtain⟨o,ho,_⟩:=(cx.row.ok he).op
    have hlt:=(Array.getElem?_eq_some_iff.1 ho).1
    have hmem:e.i∈Region.ready .any ops listed:=by
     rw[mem_ready]
     refine⟨?_,o,ho,λd hd hb=>?_⟩
     ·simp only[Array.getD_eq_getD_getElem?]at hn ⊢
      rw[Array.getElem?_eq_getElem (by omega)]at hn ⊢
      simpa using hn
     ·have hbit:=ahx ho hd hb
      obtain⟨m',e',he',hi'⟩:=cx.all _ (cx.ed ho d hd)
      rw[<-hi']at hbit
      have:=cx.o1 he he' hbit
      have:=ih m' (by omega) e' he'
      rw[hi']at this
      exact this
    rw[hr]at hmem
    simp at hmem
  intro i hi
  obtain⟨m,e,he,rfl⟩:=cx.all i hi
  exact key m m (Nat.le_refl _) e he
 induction fuel with
 | zero=>
  intro listed p Φ ρ a w hsz hc iv
  have hall:∀ i,i<ops.size->listed.getD i false=true:=by
   intro i hi
   have h0:(List.range ops.size).countP (λi=>!listed.getD i false)=0:=by omega
   rw[List.countP_eq_zero]at h0
   have:=h0 i (by simpa using hi)
   simpa using this
  refine⟨?_,done listed p Φ ρ a w hall iv⟩
  cases hx:Region.ready .any ops listed with
  | nil=>rfl
  | cons x l=>
   have hm:x∈Region.ready .any ops listed:=by rw[hx];simp
   rw[mem_ready]at hm
   obtain⟨h1,o,ho,_⟩:=hm
   have hlt:=(Array.getElem?_eq_some_iff.1 ho).1
   have:=hall x hlt
   simp only[Array.getD_eq_getD_getElem?]at h1 this
   rw[Array.getElem?_eq_getElem (by omega)]at h1 this
   simp only[Option.getD_some]at h1 this
   rw[h1]at this;cases this
 | succ fuel ih=>
  intro listed p Φ ρ a w hsz hc iv
  refine⟨λhr=>done listed p Φ ρ a w (stuck listed p Φ ρ a w hsz iv hr) iv,λi hi=>?_⟩
  rw[mem_ready]at hi
  obtain⟨h1,o,ho,h2⟩:=hi
  have hlt:=(Array.getElem?_eq_some_iff.1 ho).1
  have hu:listed.getD i false=false:=by
   simp only[Array.getD_eq_getD_getElem?]at h1 ⊢
   rw[Array.getElem?_eq_getElem (by omega)]at h1 ⊢
   exact h1
  have hset:∀ j,(listed.setIfInBounds i true).getD j false=(listed.getD j false||j == i):=by
   intro j
   simp only[Array.getD_eq_getD_getElem?,Array.getElem?_setIfInBounds]
   by_cases hj:i=j
   ·subst hj
    rw[if_pos rfl,if_pos (by omega)]
    simp
   ·rw[if_neg hj]
    have:(j == i)=false:=by simpa using λh:j=i=>hj h.symm
    rw[this,Bool.or_false]
  refine iv.step hcf cx ho hu (λj hj=>?_) (L':=λj=>(listed.setIfInBounds i true).getD j false) hset (λp' Φ' ρ' a' w' iv'=>ih _ p' Φ' ρ' a' w' (by simpa using hsz) ?_ iv')
  ·obtain⟨e,he,hb,hj⟩:=aoB ho j hj
   rcases hj with rfl | hj
   ·exact h2 e he hb
   ·exact iv.cl (h2 e he hb) hj
  ·have:(List.range ops.size).countP (λj=>!(listed.setIfInBounds i true).getD j false)<(List.range ops.size).countP (λj=>!listed.getD j false):=
    aer (i:=i) (by simpa using hlt) (by simp[hu]) (by rw[hset];simp) (λj hj=>by
     rw[hset]at hj
     simp only[Bool.not_or,Bool.and_eq_true]at hj
     exact hj.1)
   omega
theorem ajT(hm:P.follows .mixedOrders=true):ahv P:=by
 refine⟨hm,?_⟩
 intro cf hcf ops Q st st' Φ ρ a w h hs hr hQ
 obtain⟨es,cx⟩:=apc h
 have hr':HR Φ ρ st.h { w with drawn:=w.drawn+1 }:=⟨hr.fro,hr.own,hr.inj,hr.glo,hr.mps⟩
 have hQ':∀ a' w',Goes Φ ρ st.h a { w with drawn:=w.drawn+1 } st' a' w'->Q .normal a' w':=by
  rintro a' w' ⟨Φ',ρ',g1,g2,g3⟩
  exact hQ a' w' ⟨Φ',ρ',⟨g1.ext,g1.hr,g1.fr,g1.ft,g1.fz,g1.sz,⟨g1.io.os,g1.io.tape,g1.io.output⟩⟩,g2,g3⟩
 obtain⟨d,d1,d2,d3⟩:=aeV P ops es es.length 0 (by omega) (by omega)
 have hst:=cx.row.start
 have hr'':HR Φ ρ (hAt es st'.h 0) { w with drawn:=w.drawn+1 }:=by rw[hst];exact hr'
 obtain⟨ρ2,s2,n2⟩:=ae1 cx.row hr'' d d1 d2
 have hL:∀ i,(Array.replicate ops.size false).getD i false=false:=by
  intro i
  simp only[Array.getD_eq_getD_getElem?,Array.getElem?_replicate]
  split <;> rfl
 have e0:(es.filter λe=>(Array.replicate ops.size false).getD e.i false)=[]:=by
  rw[List.filter_eq_nil_iff]
  intro e _
  rw[hL];simp
 refine aoO (Φ0:=Φ) (ρ0:=ρ) (w0:={ w with drawn:=w.drawn+1 }) (a0:=a) hcf cx hQ' ops.size (Array.replicate ops.size false) (0+d) Φ ρ2 a { w with drawn:=w.drawn+1 } (by simp) ?_ ?_
 ·exact Nat.le_trans List.countP_le_length (by simp)
 ·refine⟨d1,λ_ _=>hL _,fun {m e} he hlt hf=>?_,fun {e} he=>d3 e he,fun {i j} h _=>?_,?_,?_,?_,rfl⟩
  ·rw[d2 m e (by omega) hlt he]at hf;cases hf
  ·rw[hL]at h;cases h
  ·rw[<-hst];exact s2
  ·intro m e he hlt _ hran o ho hc
   obtain⟨k,hk,_⟩:=afe (cx.row.ok he) ho hran hc
   refine n2 _ ?_ ?_
   ·have:=acA cx.row (q:=0) m (by omega)
    rw[Nat.zero_add,aa5 he]at this
    exact this
   ·have g1:=cx.row.next he
    have g2:=acA cx.row (q:=m+1) (0+d-(m+1)) (by omega)
    rw[show m+1+(0+d-(m+1))=0+d from by omega,g1,hk]at g2
    simp only[List.length_append,List.length_cons,List.length_nil]at g2
    omega
  ·have:abH ops es (λi=>(Array.replicate ops.size false).getD i false) st.s=st.s:=by
    unfold abH
    rw[e0];rfl
   rw[this]
   refine aaW s2.ext ?_
   rw[hst];exact hs
end Go.Ev
