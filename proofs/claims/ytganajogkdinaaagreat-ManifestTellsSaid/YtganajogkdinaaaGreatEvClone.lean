import Derived.Test.YtganajogkdinaaaGreatEvRd
import Derived.Test.YtganajogkdinaaaGreatEvDraw3
set_option linter.all false
namespace Go.Ev
variable[Glo]
abbrev agv:FuncId->Option (List A->Heap->Option (A×Heap)):=λ_=>none
structure CloneRun(P:Program)(cfg:Cfg)(f sz by_:Nat):Prop where
 pos:0<sz
 nil:∀ c,∃ k,evCall P cfg agv k f [.c (.v (.sl 0 [] (some c)))] []=some (.c (.v (.sl 0 [] (some 0))),[])
 fro:∀ (l:List (List FV)) c,room l.length by_=true->∃ k,evCall P cfg agv k f [.c (.v (.sl sz l (some c)))] []=some (.c (.slw 0 sz l.length),[some (.pur sz l)])
 own:∀ (l:List (List FV)),0<l.length->room l.length by_=true->∃ k,evCall P cfg agv k f [.c (.slw 0 sz l.length)] [some (.pur sz l)]=some (.c (.slw 1 sz l.length),[some (.pur sz l),some (.pur sz l)])
 sub:∀ (l:List (List FV)) (i n:Nat) cap,0<n->i+n<=l.length->room n by_=true->∃ k,evCall P cfg agv k f [.c (.sl 0 sz i n cap)] [some (.pur sz l)]=some (.c (.slw 1 sz n),[some (.pur sz l),some (.pur sz ((l.drop i).take n))])
variable{P:Program}{cfg:Cfg}{f sz by_:Nat}{Φ:Phi}{ρ:Rho}{w:World}
theorem ac2(P:Program):afY P agv:=λf p h=>by cases h
theorem ads{Φ:Phi}{ρ:Rho}{H:Heap}{x:A}{vals:List Value}(h:ARs Φ ρ H [x] vals):∃ v,vals=[v]/\AR Φ ρ H x v:=by
 simp only[ARs]at h
 obtain⟨v,l,rfl,h1,rfl⟩:=h
 exact⟨v,rfl,h1⟩
theorem aeo(hm:P.follows .mixedOrders=true)(c:CloneRun P cfg f sz by_){z:Nat}{l:List (List FV)}{cap:Option Nat}{v:Value}(hz:z=sz∨z=0)(hroom:room l.length by_=true)(hr:HR Φ ρ [] w)(hv:AR Φ ρ [] (.c (.v (.sl z l cap))) v) :
  Calls P f #[v] w λe w'=>∃ v' Φ' ρ',e = .returned v'/\Stp Φ ρ [] w Φ' ρ' [some (.pur sz l)] w'/\AR Φ' ρ' [some (.pur sz l)] (.c (.slw 0 sz l.length)) v':=by
 have hv0:=hv
 simp only[AR,CR,FVR]at hv
 obtain⟨p,k,rfl,h1,⟨h2,h3⟩,h4⟩:=hv
 cases p with
 | none=>
  have hl:l=[]:=by
   rcases h4 with h4 | ⟨c,off,arr,h4,_⟩
   ·exact h4
   ·cases h4
  subst hl
  obtain⟨fu,hc⟩:=c.nil k
  have ha:ARs Φ ρ [] [.c (.v (.sl 0 [] (some k)))] [.slice none 0 k]:=by
   simp only[ARs,AR,CR,FVR]
   exact⟨_,_,rfl,⟨none,k,rfl,⟨by simp,by simp⟩,by simp,by simp⟩,rfl⟩
  refine(abC (adl hm) (ac2 P) fu f _ [] _ [] hc Φ ρ w _ hr ha).mono ?_
  rintro e w' ⟨v',Φ',ρ',rfl,st,hv'⟩
  simp only[AR,CR,FVR]at hv'
  obtain⟨p',k',rfl,q1,_⟩:=hv'
  have hk':k'=0:=q1.2 0 rfl
  subst hk'
  have st2:=aaO (k:=.pur sz []) st.hr (Less.refl [])
  refine⟨_,Φ',_,rfl,st.trans st2,?_⟩
  simp only[AR,CR]
  refine⟨p',0,rfl,by simp,by simp,by simp,λx hx=>?_⟩
  have hx':some (Blk.pur sz [])=some x:=hx
  cases hx'
  exact⟨rfl,by simp[Blk.len],.inl (by simp)⟩
 | some a=>
  obtain⟨fu,hc⟩:=c.fro l k hroom
  have hpos:=c.pos
  have ha:ARs Φ ρ [] [.c (.v (.sl sz l (some k)))] [.slice (some a) l.length k]:=by
   simp only[ARs,AR,CR,FVR]
   refine⟨_,_,rfl,⟨some a,k,rfl,⟨h1.1,by simp⟩,⟨by omega,by simp;omega⟩,?_⟩,rfl⟩
   rcases h4 with h4 | ⟨c',off,arr,g1,g2,g3⟩
   ·exact .inl h4
   ·rcases hz with rfl | rfl
    ·exact .inr ⟨c',off,arr,g1,g2,g3⟩
    ·exact .inl (h2 rfl)
  refine(abC (adl hm) (ac2 P) fu f _ [] _ _ hc Φ ρ w _ hr ha).mono ?_
  rintro e w' ⟨v',Φ',ρ',rfl,st,hv'⟩
  exact⟨v',Φ',ρ',rfl,st,hv'⟩
theorem acn(hm:P.follows .mixedOrders=true)(c:CloneRun P cfg f sz by_){x:A}{l m:List (List FV)}{v:Value}(hr:HR Φ ρ [some (.pur sz l)] w)(hv:AR Φ ρ [some (.pur sz l)] x v)
  (hcase:(∃ n cap,x = .c (.sl 0 sz 0 n cap)/\False)∨(x = .c (.slw 0 sz l.length)/\m=l/\room l.length by_=true) ∨ ∃ i n cap,x = .c (.sl 0 sz i n cap)/\m=(l.drop i).take n/\room n by_=true) :
  Calls P f #[v] w λe w'=>∃ v' Φ' ρ',e = .returned v'/\Stp Φ ρ [some (.pur sz l)] w Φ' ρ' [some (.pur sz l),some (.pur sz m)] w'/\AR Φ' ρ' [some (.pur sz l),some (.pur sz m)] (.c (.slw 1 sz m.length)) v':=by
 -- an empty slice,as one that nobody writes
 have empty:∀ {p:Option Addr}{k:Nat},v = .slice p 0 k->m=[]->Calls P f #[v] w λe w'=>∃ v' Φ' ρ',e = .returned v'/\Stp Φ ρ [some (.pur sz l)] w Φ' ρ' [some (.pur sz l),some (.pur sz m)] w'/\AR Φ' ρ' [some (.pur sz l),some (.pur sz m)] (.c (.slw 1 sz m.length)) v':=by
  rintro p k rfl rfl
  have hr0:HR Φ noRho [] w:=⟨hr.fro,λb k inf h=>by simp[live]at h,λb b' k k' inf inf' h=>by simp[live]at h,hr.glo,λb kk es inf h=>by simp[live]at h⟩
  have ha:AR Φ noRho [] (.c (.v (.sl sz [] none))) (.slice p 0 k):=by
   simp only[AR,CR,FVR]
   have:=c.pos
   exact⟨p,k,rfl,⟨by simp,by simp⟩,by simp,by simp⟩
  have hroom:room ([]:List (List FV)).length by_=true:=by simp[room]
  refine(aeo hm c (.inl rfl) hroom hr0 ha).mono ?_
  rintro e w' ⟨v',Φ',ρ',rfl,st,hv'⟩
  simp only[AR,CR]at hv'
  obtain⟨p',k',rfl,q1,q2,q3,q4⟩:=hv'
  have same:∀ c,c<w.heap.size->w'.heap[c]?=w.heap[c]?:=λc hc=>st.fr c hc (by rintro ⟨b,k,inf,hk,_⟩;simp[live]at hk)
  have lt:∀ {c arr ty fz},w.heap[c]?=some (.cells arr ty fz)->c<w.heap.size:=λhx=>(Array.getElem?_eq_some_iff.1 hx).1
  have base:Stp Φ ρ [some (.pur sz l)] w Φ ρ [some (.pur sz l)] w':=by
   refine⟨⟨λ_ _ h=>h,Nat.le_refl _,λ_ _=>rfl,λb k' _ hk=>⟨k',hk,rfl,rfl⟩⟩,⟨?_,?_,hr.inj,hr.glo,λb kk es inf hk=>by cases ahN hk⟩,λc hc _=>same c hc,λc hc=>.inl hc,λc arr hx=>.inl hx,st.sz,st.io⟩
   ·intro c arr hx
    obtain⟨ty,fz,hw⟩:=hr.fro c arr hx
    exact⟨ty,fz,by rw[same c (lt hw)];exact hw⟩
   ·intro b k inf hk hm hi
    obtain⟨q1,arr,ty,fz,q2,q3⟩:=hr.own b k inf hk hm hi
    exact⟨q1,arr,ty,fz,by rw[same _ (lt q2)];exact q2,q3⟩
  -- the new block: its cell,if it has one,is new
  obtain⟨g1,g2,g3⟩:=q4 (.pur sz []) rfl
  rcases g3 with⟨g3,g4⟩ | ⟨inf,g3,g4,g5⟩
  ·subst g4
   have st2:=aaO (k:=.pur sz []) base.hr (Less.refl [some (.pur sz l)])
   refine⟨_,Φ,_,rfl,base.trans st2,?_⟩
   simp only[AR,CR]
   refine⟨p',0,rfl,by simp,by simp,by simp,λx hx=>?_⟩
   have:live ([some (Blk.pur sz l)]++[some (Blk.pur sz [])]) 1=some (.pur sz []):=rfl
   have hx':live ([some (Blk.pur sz l)]++[some (Blk.pur sz [])]) 1=some x:=hx
   rw[this]at hx';cases hx'
   exact⟨rfl,by simp[Blk.len],.inl (by simp)⟩
  ·have hlive:live [some (Blk.pur sz [])] 0=some (.pur sz []):=rfl
   obtain⟨s1,arr,ty,fz,s2,s3,s4,s5,s6⟩:=st.hr.own 0 _ inf hlive rfl g3
   have hnew:w.heap.size<=inf.c:=by
    rcases st.ft inf.c ⟨0,_,inf,hlive,g3,rfl⟩with⟨b,k,inf',hk,_⟩ | h
    ·simp[live]at hk
    ·exact h
   have st2:Stp Φ ρ [some (.pur sz l)] w Φ (upd ρ 1 (some inf)) ([some (.pur sz l)]++[some (.pur sz [])]) w':=by
    have ext:=abq (Φ:=Φ) (ρ:=ρ) (k:=.pur sz []) (x:=some inf) (Less.refl [some (.pur sz l)])
    refine⟨ext,⟨base.hr.fro,?_,?_,base.hr.glo,λb kk es inf hk=>by
     rcases aat hk with⟨_,hk⟩ | ⟨_,hk⟩
     ·cases ahN hk
     ·cases hk⟩,λc hc hn=>same c hc,?_,λc arr hx=>.inl hx,st.sz,st.io⟩
    ·intro b x inf' hx hmx hρ
     rcases aat hx with⟨hb,hx⟩ | ⟨rfl,rfl⟩
     ·rw[aar (by simp at hb;omega)]at hρ
      obtain⟨q1,arr',ty',fz',q2,q3,q4,q5,q6⟩:=base.hr.own b x inf' hx hmx hρ
      exact⟨q1,arr',ty',fz',q2,q3,q4,q5,aau ext q6⟩
     ·have:upd ρ 1 (some inf) [some (Blk.pur sz l)].length=some inf:=upd_self
      rw[this]at hρ;cases hρ
      refine⟨?_,arr,ty,fz,s2,s3,s4,s5,by simp[ELR,FVRe,Blk.el]⟩
      cases hp:Φ inf.c with
      | none=>rfl
      | some a=>
       obtain⟨_,_,hw⟩:=hr.fro _ _ hp
       exact absurd (lt hw) (by omega)
    ·intro b1 b2 k1 k2 i1 i2 l1 l2 r1 r2 e
     rcases aat l1 with⟨c1,l1⟩ | ⟨rfl,rfl⟩
     ·rcases aat l2 with⟨c2,l2⟩ | ⟨rfl,rfl⟩
      ·rw[aar (by simp at c1;omega)]at r1
       rw[aar (by simp at c2;omega)]at r2
       exact hr.inj b1 b2 k1 k2 i1 i2 l1 l2 r1 r2 e
      ·rw[aar (by simp at c1;omega)]at r1
       have:upd ρ 1 (some inf) [some (Blk.pur sz l)].length=some inf:=upd_self
       rw[this]at r2;cases r2
       have:=(hr.fresh l1 r1).2
       omega
     ·have hself:upd ρ 1 (some inf) [some (Blk.pur sz l)].length=some inf:=upd_self
      rw[hself]at r1;cases r1
      rcases aat l2 with⟨c2,l2⟩ | ⟨rfl,rfl⟩
      ·rw[aar (by simp at c2;omega)]at r2
       have:=(hr.fresh l2 r2).2
       omega
      ·rfl
    ·rintro c ⟨b,x,inf',hx,hρ,rfl⟩
     rcases aat hx with⟨hb,hx⟩ | ⟨rfl,rfl⟩
     ·rw[aar (by simp at hb;omega)]at hρ
      exact .inl ⟨b,x,inf',hx,hρ,rfl⟩
     ·have hself:upd ρ 1 (some inf) [some (Blk.pur sz l)].length=some inf:=upd_self
      rw[hself]at hρ;cases hρ
      exact .inr hnew
   refine⟨_,Φ,_,rfl,st2,?_⟩
   simp only[AR,CR]
   refine⟨p',k',rfl,by simp,by simp,by simp,λx hx=>?_⟩
   have:live ([some (Blk.pur sz l)]++[some (Blk.pur sz [])]) 1=some (.pur sz []):=rfl
   have hx':live ([some (Blk.pur sz l)]++[some (Blk.pur sz [])]) 1=some x:=hx
   rw[this]at hx';cases hx'
   exact⟨rfl,by simp[Blk.len],.inr ⟨inf,upd_self,g4,g5⟩⟩
 rcases hcase with⟨_,_,_,h⟩ | ⟨rfl,rfl,hroom⟩ | ⟨i,n,cap,rfl,rfl,hroom⟩
 ·exact h.elim
 ·have hv0:=hv
  by_cases h0:m.length=0
  ·simp only[AR,CR]at hv
   obtain⟨p,k,rfl,_⟩:=hv
   exact empty (by rw[h0]) (List.eq_nil_of_length_eq_zero h0)
  ·obtain⟨fu,hc⟩:=c.own m (by omega) hroom
   refine(abC (adl hm) (ac2 P) fu f _ _ _ _ hc Φ ρ w [v] hr ?_).mono ?_
   ·simp only[ARs];exact⟨v,[],rfl,hv0,rfl⟩
   ·rintro e w' ⟨v',Φ',ρ',rfl,st,hv'⟩
    exact⟨v',Φ',ρ',rfl,st,hv'⟩
 ·have hv0:=hv
  simp only[AR,CR]at hv
  obtain⟨p,k,rfl,_,_,_,h5⟩:=hv
  obtain⟨_,h6,_⟩:=h5 (.pur sz l) rfl
  by_cases h0:n=0
  ·exact empty (by rw[h0]) (by rw[h0];rfl)
  ·have hin:i+n<=l.length:=by simpa[Blk.len]using h6
   have hlen:((l.drop i).take n).length=n:=by rw[List.length_take,List.length_drop];omega
   rw[hlen]
   obtain⟨fu,hc⟩:=c.sub l i n cap (by omega) hin hroom
   refine(abC (adl hm) (ac2 P) fu f _ _ _ _ hc Φ ρ w [_] hr ?_).mono ?_
   ·simp only[ARs];exact⟨_,[],rfl,hv0,rfl⟩
   ·rintro e w' ⟨v',Φ',ρ',rfl,st,hv'⟩
    exact⟨v',Φ',ρ',rfl,st,hv'⟩
theorem aeZ{sz:Nat}(hpos:0<sz){H:Heap}(hH:H=[] ∨ ∃ y l,H=[some (.pur y l)]){m:List (List FV)}{v:Value}(hr:HR Φ ρ H w){w':World}{Φ':Phi}{ρ':Rho}(st:Stp Φ ρ H w Φ' ρ' (H++[some (.pur sz m)]) w')
  (hv:AR Φ' ρ' (H++[some (.pur sz m)]) (.c (.slw H.length sz m.length)) v):∃ Φ2 ρ2,Stp Φ ρ H w Φ2 ρ2 H w'/\AR Φ2 ρ2 H (.c (.v (.sl sz m none))) v:=by
 have hz:¬sz=0:=by omega
 have hf:frzA (H++[some (.pur sz m)]) (.c (.slw H.length sz m.length))=some (.c (.v (.sl sz m none)),[H.length]):=by
  simp only[frzA,deep,frzC,aak,if_neg hz]
  rfl
 have s2:=adk st.hr [H.length]
 have a2:=aiY st.hr hf hv
 have hk:aaN (H++[some (Blk.pur sz m)]) [H.length]=H++[none]:=by
  simp[aaN]
 rw[hk]at s2 a2
 have s12:=(st.trans s2).toN (Nat.le_refl H.length)
 have s3:StpN H.length _ _ (H++[none]) w' _ _ (aaJ (H++[none]) (List.range H.length)) w':=adT (R:=List.range H.length) s2.hr (by simp) List.nodup_range (λb hb=>by simp[hb]) (by simp)
 have hs:aaJ (H++[none]) (List.range H.length)=H:=by
  rcases hH with rfl | ⟨y,l,rfl⟩
  ·rfl
  ·rfl
 rw[hs]at s3
 refine⟨_,_,(s12.trans s3).toS,?_⟩
 simp only[AR,CR]at a2 ⊢
 exact a2
theorem aj7(hm:P.follows .mixedOrders=true)(c:CloneRun P cfg f sz by_):aba P (λg args h=>if g=f then cloneO sz by_ args h else none):=by
 intro g args h r h' hc Φ ρ w vals hr ha
 simp only at hc
 split at hc
 ·rename_i hg
  subst hg
  unfold cloneO at hc
  split at hc
  ·rename_i z l cap
   split at hc
   ·rename_i hcc
    simp only[Option.some.injEq,Prod.mk.injEq]at hc
    obtain⟨rfl,rfl⟩:=hc
    obtain⟨v,rfl,hv⟩:=ads ha
    exact aeo hm c hcc.1 hcc.2 hr hv
   ·cases hc
  ·rename_i z n y l
   split at hc
   ·rename_i hcc
    obtain⟨rfl,rfl,hroom⟩:=hcc
    simp only[Option.some.injEq,Prod.mk.injEq]at hc
    obtain⟨rfl,rfl⟩:=hc
    obtain⟨v,rfl,hv⟩:=ads ha
    have hn:n=l.length:=by
     simp only[AR,CR]at hv
     obtain⟨_,_,_,_,_,_,h5⟩:=hv
     exact(h5 _ rfl).2.1
    subst hn
    exact acn hm c hr hv (.inr (.inl ⟨rfl,rfl,hroom⟩))
   ·cases hc
  ·rename_i z i n cap y l
   split at hc
   ·rename_i hcc
    obtain⟨rfl,rfl,hroom⟩:=hcc
    simp only[Option.some.injEq,Prod.mk.injEq]at hc
    obtain⟨rfl,rfl⟩:=hc
    obtain⟨v,rfl,hv⟩:=ads ha
    exact acn hm c hr hv (.inr (.inr ⟨i,n,cap,rfl,rfl,hroom⟩))
   ·cases hc
  ·cases hc
 ·cases hc
theorem abO(hm:P.follows .mixedOrders=true)(c:CloneRun P cfg f sz by_):aba P (λg args h=>if g=f then cloneP sz by_ args h else none):=by
 intro g args h r h' hc Φ ρ w vals hr ha
 simp only at hc
 split at hc
 ·rename_i hg
  subst hg
  unfold cloneP at hc
  split at hc
  ·rename_i z l cap
   split at hc
   ·rename_i hcc
    simp only[Option.some.injEq,Prod.mk.injEq]at hc
    obtain⟨rfl,rfl⟩:=hc
    obtain⟨v,rfl,hv⟩:=ads ha
    refine(aeo hm c hcc.1 hcc.2 hr hv).mono ?_
    rintro e w' ⟨v',Φ',ρ',rfl,st,hv'⟩
    obtain⟨Φ2,ρ2,q1,q2⟩:=aeZ (H:=[]) c.pos (.inl rfl) hr st hv'
    exact⟨v',Φ2,ρ2,rfl,q1,q2⟩
   ·cases hc
  ·rename_i z n y l
   split at hc
   ·rename_i hcc
    obtain⟨rfl,rfl,hroom⟩:=hcc
    simp only[Option.some.injEq,Prod.mk.injEq]at hc
    obtain⟨rfl,rfl⟩:=hc
    obtain⟨v,rfl,hv⟩:=ads ha
    have hn:n=l.length:=by
     simp only[AR,CR]at hv
     obtain⟨_,_,_,_,_,_,h5⟩:=hv
     exact(h5 _ rfl).2.1
    subst hn
    refine(acn hm c hr hv (.inr (.inl ⟨rfl,rfl,hroom⟩))).mono ?_
    rintro e w' ⟨v',Φ',ρ',rfl,st,hv'⟩
    obtain⟨Φ2,ρ2,q1,q2⟩:=aeZ (H:=[some (.pur _ l)]) c.pos (.inr ⟨_,_,rfl⟩) hr st hv'
    exact⟨v',Φ2,ρ2,rfl,q1,q2⟩
   ·cases hc
  ·rename_i z i n cap y l
   split at hc
   ·rename_i hcc
    obtain⟨rfl,rfl,hroom⟩:=hcc
    simp only[Option.some.injEq,Prod.mk.injEq]at hc
    obtain⟨rfl,rfl⟩:=hc
    obtain⟨v,rfl,hv⟩:=ads ha
    refine(acn hm c hr hv (.inr (.inr ⟨i,n,cap,rfl,rfl,hroom⟩))).mono ?_
    rintro e w' ⟨v',Φ',ρ',rfl,st,hv'⟩
    obtain⟨Φ2,ρ2,q1,q2⟩:=aeZ (H:=[some (.pur _ l)]) c.pos (.inr ⟨_,_,rfl⟩) hr st hv'
    exact⟨v',Φ2,ρ2,rfl,q1,q2⟩
   ·cases hc
  ·cases hc
 ·cases hc
def Rd.nilF{x:C}(h:acz x=some false):Rd Unit:=⟨some (),λ_=>.fit false,λ_=>[acz x=some false],λ_ _=>⟨h,trivial⟩⟩
theorem aaQ(b sz n:Nat):A.c (.slw b sz (0+n))=A.c (.slw b sz n):=by rw[Nat.zero_add]
theorem acC(b sz:Nat){l:List (List FV)}{i n:Nat}(h:i+n<=l.length):A.c (.slw b sz (0+((l.drop i).take n).length))=A.c (.slw b sz n):=by
 rw[Nat.zero_add,List.length_take,List.length_drop,Nat.min_eq_left (by omega)]
theorem aaC{n by_:Nat}(h:room n by_=true):All [aac (0+n) by_]:=by
 simp only[room,Bool.and_eq_true,decide_eq_true_eq]at h
 rw[Nat.zero_add]
 exact⟨⟨h.1,h.2⟩,trivial⟩
theorem ab0{l:List (List FV)}{i n by_:Nat}(hl:i+n<=l.length)(h:room n by_=true):All [aac (0+((l.drop i).take n).length) by_]:=by
 rw[Nat.zero_add,List.length_take,List.length_drop,Nat.min_eq_left (by omega)]
 simp only[room,Bool.and_eq_true,decide_eq_true_eq]at h
 exact⟨⟨h.1,h.2⟩,trivial⟩
theorem acA(sz:Nat)(hs:sz≠0)(l:List (List FV))(c:Nat):acz (.v (.sl sz l (some c)))=some false:=by
 simp only[acz]
 split
 ·rfl
 ·simp[hs]
theorem abV(b sz:Nat){n:Nat}(h:0<n):acz (.slw b sz n)=some false:=by simp only[acz];rw[if_pos h]
theorem abW(b sz i:Nat){n:Nat}(cap:Option Nat)(h:0<n):acz (.sl b sz i n cap)=some false:=by simp only[acz];rw[if_pos h]
end Go.Ev
