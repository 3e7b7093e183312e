import Derived.Test.YtganajogkdinaaaGreatEvOps
set_option linter.all false
namespace Go.Ev
variable[Glo]
set_option linter.unusedSimpArgs false
variable{P:Program}{Φ Φ':Phi}{ρ ρ':Rho}{H H':Heap}{s:List A}{a:Act}{w w':World}
structure ExtN(np:Nat)(Φ:Phi)(ρ:Rho)(H:Heap)(Φ':Phi)(ρ':Rho)(H':Heap):Prop where
 phi:∀ c arr,Φ c=some arr->Φ' c=some arr
 len:np<=H.length/\np<=H'.length
 rho:∀ b,b<np->ρ' b=ρ b
 keep:∀ b k',b<np->live H' b=some k'->∃ k,live H b=some k/\k.sz=k'.sz/\k.len=k'.len
structure StpN(np:Nat)(Φ:Phi)(ρ:Rho)(H:Heap)(w:World)(Φ':Phi)(ρ':Rho)(H':Heap)(w':World):Prop where
 ext:ExtN np Φ ρ H Φ' ρ' H'
 hr:HR Φ' ρ' H' w'
 fr:∀ c,c<w.heap.size->¬Foot ρ H c->w'.heap[c]?=w.heap[c]?
 ft:∀ c,Foot ρ' H' c->Foot ρ H c∨w.heap.size<=c
 fz:∀ c arr,Φ' c=some arr->Φ c=some arr∨Foot ρ H c∨w.heap.size<=c
 sz:w.heap.size<=w'.heap.size
 io:Io w w'
theorem Stp.toN{np:Nat}(h:Stp Φ ρ H w Φ' ρ' H' w')(hn:np<=H.length):StpN np Φ ρ H w Φ' ρ' H' w':=
 ⟨⟨h.ext.phi,⟨hn,Nat.le_trans hn h.ext.len⟩,λb hb=>h.ext.rho b (Nat.lt_of_lt_of_le hb hn),λb k' hb hk=>h.ext.keep b k' (Nat.lt_of_lt_of_le hb hn) hk⟩,h.hr,h.fr,h.ft,h.fz,h.sz,h.io⟩
theorem StpN.toS(h:StpN H.length Φ ρ H w Φ' ρ' H' w'):Stp Φ ρ H w Φ' ρ' H' w':=
 ⟨⟨h.ext.phi,h.ext.len.2,h.ext.rho,h.ext.keep⟩,h.hr,h.fr,h.ft,h.fz,h.sz,h.io⟩
theorem StpN.refl{np:Nat}(hr:HR Φ ρ H w)(hn:np<=H.length):StpN np Φ ρ H w Φ ρ H w:=(Stp.refl hr).toN hn
theorem StpN.trans{np:Nat}{Φ'':Phi}{ρ'':Rho}{H'':Heap}{w'':World}(a:StpN np Φ ρ H w Φ' ρ' H' w')(b:StpN np Φ' ρ' H' w' Φ'' ρ'' H'' w''):StpN np Φ ρ H w Φ'' ρ'' H'' w'' where
 ext:=⟨λc x h=>b.ext.phi c x (a.ext.phi c x h),⟨a.ext.len.1,b.ext.len.2⟩,λc hc=>(b.ext.rho c hc).trans (a.ext.rho c hc),λc k'' hc hk=>by
  obtain⟨k',h1,h2,h3⟩:=b.ext.keep c k'' hc hk
  obtain⟨k,g1,g2,g3⟩:=a.ext.keep c k' hc h1
  exact⟨k,g1,g2.trans h2,g3.trans h3⟩⟩
 hr:=b.hr
 fr:=λc hc hn=>by
  rw[b.fr c (Nat.lt_of_lt_of_le hc a.sz) (λhf=>(a.ft c hf).elim hn (λh=>by omega)),a.fr c hc hn]
 ft:=λc hf=>by
  rcases b.ft c hf with h | h
  ·exact a.ft c h
  ·exact .inr (Nat.le_trans a.sz h)
 fz:=λc arr hf=>by
  rcases b.fz c arr hf with h | h | h
  ·exact a.fz c arr h
  ·exact .inr (a.ft c h)
  ·exact .inr (.inr (Nat.le_trans a.sz h))
 sz:=Nat.le_trans a.sz b.sz
 io:=a.io.trans b.io
theorem afu(np:Nat)(h:Heap)(r:List Nat)(hn:np<=h.length):(aep np h r).Nodup/\(∀ b∈aep np h r,b<h.length)/\∀ b,b<np->(aep np h r)[b]?=some b:=by
 obtain⟨h1,h2⟩:=acX h deep (List.range np++r) [] (by simp) (by simp)
 refine⟨?_,?_,?_⟩
 ·unfold aep
  rw[List.nodup_append]
  refine⟨List.nodup_range,h1.filter _,λx hx y hy=>?_⟩
  simp only[List.mem_range]at hx
  simp only[List.mem_filter,decide_eq_true_eq]at hy
  omega
 ·intro b hb
  unfold aep at hb
  rcases List.mem_append.1 hb with hb | hb
  ·simp only[List.mem_range]at hb;omega
  ·simp only[List.mem_filter]at hb
   exact h2 b hb.1
 ·intro b hb
  unfold aep
  rw[List.getElem?_append_left (by simpa using hb)]
  simp[hb]
theorem afh{np:Nat}{R:List Nat}(hr:HR Φ ρ H w)(hn:np<=H.length)(h1:R.Nodup)(h3:∀ b,b<np->R[b]?=some b)(hl:np<=R.length) :
  StpN np Φ ρ H w Φ (subRho ρ R) (aaQ H R) w where
 ext:=⟨λ_ _ h=>h,⟨hn,by rw[aa3];exact hl⟩,λb hb=>by simp[subRho,h3 b hb],λb k' hb hk=>by
  rw[adI (h3 b hb)]at hk
  obtain⟨k,h0,rfl⟩:=Option.map_eq_some_iff.1 hk
  exact⟨k,h0,(Blk.ren_sz _).symm,(Blk.ren_len _).symm⟩⟩
 hr:=amF h1 hr
 fr:=λ_ _ _=>rfl
 ft:=λc h=>by
  obtain⟨b,_,k,inf,g1,g2,g3⟩:=acG h
  exact .inl ⟨b,k,inf,g1,g2,g3⟩
 fz:=λ_ _ h=>.inl h
 sz:=Nat.le_refl _
 io:=.refl _
theorem adX(np:Nat)(h:Heap)(r:List Nat):np<=(aep np h r).length:=by simp[aep]
theorem ad5(ts:List Tmp):∀ (i:Nat) (s:List A),(keepS ts i s).length=s.length
 |_,[]=>rfl
 | i,a::r=>by simp[keepS,ad5 ts (i+1) r]
theorem afX(ts:List Tmp):∀ (i:Nat) (s:List A) (j:Nat) (x:A),(keepS ts i s)[j]?=some x->x = .und∨s[j]?=some x
 |_,[],_,_,h=>by simp[keepS]at h
 | i,a::r,0,x,h=>by
  simp only[keepS,List.getElem?_cons_zero,Option.some.injEq]at h
  split at h
  ·right;simp[h]
  ·left;exact h.symm
 | i,a::r,j+1,x,h=>by
  simp only[keepS,List.getElem?_cons_succ]at h
  simpa using afX ts (i+1) r j x h
theorem ajL{ts:List Tmp}{t:Array Value}(h:SR Φ ρ H s t):SR Φ ρ H (keepS ts 0 s) t:=
 ⟨by rw[ad5];exact h.1,λi x hx=>by
  have hlt:i<s.length:=by
   have:=(List.getElem?_eq_some_iff.1 hx).1
   rwa[ad5]at this
  rcases afX ts 0 s i x hx with rfl | hx
  ·have:i<t.size:=by rw[<-h.1];exact hlt
   exact⟨t[i],by simp[this],by simp[AR]⟩
  ·exact h.2 i x hx⟩
theorem afK{g:Nat->Option Nat}:∀ {l:List A}{i:Nat}{x:A},(renAs g l)[i]?=some x->∃ y,l[i]?=some y/\x=y.ren g
 | [],_,_,h=>by simp[renAs]at h
 | a::r,0,x,h=>by simp only[renAs,List.getElem?_cons_zero,Option.some.injEq]at h;exact⟨a,rfl,h.symm⟩
 | a::r,i+1,x,h=>by simp only[renAs,List.getElem?_cons_succ]at h;simpa using afK h
theorem agl{g:Nat->Option Nat}:∀ l:List A,(renAs g l).length=l.length
 | []=>rfl
 | a::r=>by simp[renAs,agl r]
theorem ao3{g:Nat->Option Nat}{t:Array Value}(e:Rn g ρ H ρ' H')(h:SR Φ ρ H s t):SR Φ ρ' H' (renAs g s) t:=
 ⟨by rw[agl];exact h.1,λi x hx=>by
  obtain⟨y,hy,rfl⟩:=afK hx
  obtain⟨v,hv,ha⟩:=h.2 i y hy
  exact⟨v,hv,ahY e y v ha⟩⟩
open Classical in
noncomputable def aaO(Φ:Phi)(ρ:Rho)(H:Heap)(w:World)(bs:List Nat):Phi:=λc=>
 if ∃ b∈bs,∃ k inf,live H b=some k/\ρ b=some inf/\inf.c=c then(match w.heap[c]? with
  | some (.cells arr _ _)=>some arr
  |_=>Φ c)else Φ c
theorem adg{bs:List Nat}(hr:HR Φ ρ H w){c:Nat}{arr:Array Value}(h:Φ c=some arr):aaO Φ ρ H w bs c=some arr:=by
 unfold aaO
 split
 ·rename_i hx
  obtain⟨b,_,k,inf,h1,h2,rfl⟩:=hx
  rw[(hr.fresh h1 h2).1]at h;cases h
 ·exact h
theorem ads{bs:List Nat}{b:Nat}{k:Blk}{inf:Inf}(hb:b∈bs)(hk:live H b=some k)(hi:ρ b=some inf){arr:Array Value}{ty:TypeId}{fz:Nat×Nat}
  (hw:w.heap[inf.c]?=some (.cells arr ty fz)):aaO Φ ρ H w bs inf.c=some arr:=by
 unfold aaO
 rw[if_pos ⟨b,hb,k,inf,hk,hi,rfl⟩,hw]
theorem afl:∀ (n:Nat) (l:List (List C)) (r:List (List FV)) (bs:List Nat),frzE H n l=some (r,bs)->l.length=r.length
 | 0,_,_,_,h=>by simp[frzE]at h
 | n+1,[],_,_,h=>by
  simp only[frzE,Option.some.injEq,Prod.mk.injEq]at h
  obtain⟨rfl,rfl⟩:=h
  rfl
 | n+1,x::l,r,bs,h=>by
  simp only[frzE]at h
  split at h
  ·rename_i y bs1 ys bs2 h1 h2
   simp only[Option.some.injEq,Prod.mk.injEq]at h
   obtain⟨rfl,rfl⟩:=h
   simp[afl n l ys bs2 h2]
  ·cases h
theorem aex(hr:HR Φ ρ H w){bs0:List Nat}:∀ n:Nat,
  (∀ (x:C) (y:FV) (bs:List Nat) (v:Value),frzC H n x=some (y,bs)->(∀ b∈bs,b∈bs0)->CR Φ ρ H x v->FVR (aaO Φ ρ H w bs0) y v) ∧
  (∀ (l:List C) (r:List FV) (bs:List Nat) (g:Nat->Option Value) (off:Nat),frzL H n l=some (r,bs)->(∀ b∈bs,b∈bs0)->CRs Φ ρ H l g off->l.length=r.length/\FVRs (aaO Φ ρ H w bs0) r g off) ∧
  (∀ (l:List (List C)) (r:List (List FV)) (bs:List Nat) (sz:Nat) (g:Nat->Option Value) (off:Nat),frzE H n l=some (r,bs)->(∀ b∈bs,b∈bs0)->CRe Φ ρ H l sz g off->l.length=r.length/\FVRe (aaO Φ ρ H w bs0) r sz g off):=by
 have old:=λc arr=>@adg _ Φ ρ H w bs0 hr c arr
 intro n
 induction n with
 | zero=>exact⟨λ_ _ _ _ h=>by simp[frzC]at h,λ_ _ _ _ _ h=>by simp[frzL]at h,λ_ _ _ _ _ _ h=>by simp[frzE]at h⟩
 | succ n ih=>
  obtain⟨ihC,ihL,ihE⟩:=ih
  refine⟨?_,?_,?_⟩
  ·intro x y bs v h hbs hx
   -- a slice's elements
   have slice:∀ {b sz i m k:Nat}{p:Option Addr}{blk:Blk}{els:List (List FV)},live H b=some blk->b∈bs0->blk.sz=sz->sz≠0->i+m<=blk.len->n=n →
     ((m=0/\k=0) ∨ ∃ inf,ρ b=some inf/\p=some ⟨inf.c,inf.base+i*sz,none⟩/\inf.base+(i+k)*sz<=inf.asz)->m<=k->els.length=m →
     (∀ (inf:Inf) (arr:Array Value),ρ b=some inf->ELR Φ ρ H blk.el blk.sz (arr[·]?) inf.base->FVRe (aaO Φ ρ H w bs0) els sz (arr[·]?) (inf.base+i*sz)) →
     FVR (aaO Φ ρ H w bs0) (.sl sz els none) (.slice p m k):=by
    intro b sz i m k p blk els hk hb hs hs0 hin _ hp hmk hlen hel
    simp only[FVR]
    refine⟨p,k,by rw[hlen],⟨by omega,by simp⟩,⟨λh0=>absurd h0 hs0,λhn=>absurd rfl hn⟩,?_⟩
    rcases hp with⟨h1,_⟩ | ⟨inf,h1,h2,h3⟩
    ·left;exact List.eq_nil_of_length_eq_zero (by omega)
    ·right
     obtain⟨g1,arr,ty,fz,g2,g3,g4,g5,g6⟩:=hr.own b blk inf hk (Blk.cel (by omega)) h1
     exact⟨inf.c,_,arr,h2,ads hb hk h1 g2,hel inf arr h1 g6⟩
   cases x with
   | und=>simp[frzC]at h
   | v x=>
    simp only[frzC,Option.some.injEq,Prod.mk.injEq]at h
    obtain⟨rfl,rfl⟩:=h
    simp only[CR]at hx
    exact adj old _ _ hx
   | ptr b sz i o=>
    simp only[frzC]at h
    simp only[CR]at hx
    obtain⟨ad,rfl,hbl,h1⟩:=hx
    split at h
    ·rename_i z els hk
     obtain⟨hs,inf,h2,rfl⟩:=h1 _ hk
     obtain⟨g1,arr,ty,fz,g2,g3,g4,g5,g6⟩:=hr.own b _ inf hk rfl h2
     split at h
     ·rename_i cs hcs
      simp only[Option.some.injEq,Prod.mk.injEq]at h
      obtain⟨rfl,rfl⟩:=h
      simp only[FVR]
      simp only[Blk.sz]at hs
      subst hs
      refine⟨inf.c,_,arr,rfl,ads (hbs b (by simp)) hk h2 g2,?_⟩
      have:=abU old _ _ _ ((aaA.1 g6) i cs hcs).2
      exact agj this
     ·cases h
    ·rename_i z els hk
     obtain⟨hs,inf,h2,rfl⟩:=h1 _ hk
     obtain⟨g1,arr,ty,fz,g2,g3,g4,g5,g6⟩:=hr.own b _ inf hk rfl h2
     split at h
     ·rename_i cs hcs
      split at h
      ·rename_i l bs' hl
       simp only[Option.some.injEq,Prod.mk.injEq]at h
       obtain⟨rfl,rfl⟩:=h
       simp only[FVR]
       simp only[Blk.sz]at hs
       subst hs
       refine⟨inf.c,_,arr,rfl,ads (hbs b (by simp)) hk h2 g2,?_⟩
       have h3:=((CRe_iff.1 g6) i cs hcs).2
       have h4:CRs Φ ρ H (cs.drop o) (arr[·]?) (inf.base+i*z+o):=by
        refine CRs_iff.2 λj x hj=>?_
        rw[List.getElem?_drop]at hj
        have:=aaz h3 hj
        rwa[<-Nat.add_assoc]at this
       exact(ihL _ _ _ _ _ hl (λb' hb'=>hbs b' (by simp[hb'])) h4).2
      ·cases h
     ·cases h
    ·cases h
   | sl b sz i m cap=>
    simp only[frzC]at h
    split at h
    ·cases h
    ·rename_i hs0
     simp only[CR]at hx
     obtain⟨p,k,rfl,hc,hp,hbl,h1⟩:=hx
     split at h
     ·rename_i z els hk
      simp only[Option.some.injEq,Prod.mk.injEq]at h
      obtain⟨rfl,rfl⟩:=h
      obtain⟨q1,q2,q3,q4⟩:=h1 _ hk
      refine slice hk (hbs b (by simp)) q1 hs0 q2 rfl q4 hc.1 (by simp only[Blk.len]at q2;simp;omega) ?_
      intro inf arr hi he
      simp only[Blk.sz]at q1
      subst q1
      have:=ade (i:=i) (n:=m) he
      exact acV old _ _ _ _ this
     ·rename_i z els hk
      split at h
      ·rename_i l bs' hl
       simp only[Option.some.injEq,Prod.mk.injEq]at h
       obtain⟨rfl,rfl⟩:=h
       obtain⟨q1,q2,q3,q4⟩:=h1 _ hk
       have hlen:l.length=m:=by
        rw[<-afl _ _ _ _ hl]
        simp only[Blk.len]at q2
        simp;omega
       refine slice hk (hbs b (by simp)) q1 hs0 q2 rfl q4 hc.1 hlen ?_
       intro inf arr hi he
       simp only[Blk.sz]at q1
       subst q1
       have:=ade (i:=i) (n:=m) he
       exact(ihE _ _ _ _ _ _ hl (λb' hb'=>hbs b' (by simp[hb'])) this).2
      ·cases h
     ·cases h
   | slw b sz m=>
    simp only[frzC]at h
    split at h
    ·cases h
    ·rename_i hs0
     simp only[CR]at hx
     obtain⟨p,k,rfl,hc,hp,hbl,h1⟩:=hx
     split at h
     ·rename_i z els hk
      simp only[Option.some.injEq,Prod.mk.injEq]at h
      obtain⟨rfl,rfl⟩:=h
      obtain⟨q1,q2,q4⟩:=h1 _ hk
      have q4':(m=0/\k=0) ∨ ∃ inf,ρ b=some inf/\p=some ⟨inf.c,inf.base+0*sz,none⟩/\inf.base+(0+k)*sz<=inf.asz:=by simpa using q4
      refine slice (i:=0) hk (hbs b (by simp)) q1 hs0 (by omega) rfl q4' hc (by simp only[Blk.len]at q2;omega) ?_
      intro inf arr hi he
      simp only[Blk.sz]at q1
      subst q1
      simp only[Nat.zero_mul,Nat.add_zero]
      exact acV old _ _ _ _ he
     ·rename_i z els hk
      split at h
      ·rename_i l bs' hl
       simp only[Option.some.injEq,Prod.mk.injEq]at h
       obtain⟨rfl,rfl⟩:=h
       obtain⟨q1,q2,q4⟩:=h1 _ hk
       have hlen:l.length=m:=by
        rw[<-afl _ _ _ _ hl]
        simp only[Blk.len]at q2
        omega
       have q4':(m=0/\k=0) ∨ ∃ inf,ρ b=some inf/\p=some ⟨inf.c,inf.base+0*sz,none⟩/\inf.base+(0+k)*sz<=inf.asz:=by simpa using q4
       refine slice (i:=0) hk (hbs b (by simp)) q1 hs0 (by omega) rfl q4' hc hlen ?_
       intro inf arr hi he
       simp only[Blk.sz]at q1
       subst q1
       simp only[Nat.zero_mul,Nat.add_zero]
       exact(ihE _ _ _ _ _ _ hl (λb' hb'=>hbs b' (by simp[hb'])) he).2
      ·cases h
     ·cases h
   | fn f caps=>
    simp only[frzC]at h
    split at h
    ·rename_i l bs' hl
     simp only[Option.some.injEq,Prod.mk.injEq]at h
     obtain⟨rfl,rfl⟩:=h
     simp only[CR]at hx
     obtain⟨arr,rfl,e1,e2⟩:=hx
     obtain⟨e3,e4⟩:=ihL _ _ _ _ _ hl hbs e2
     simp only[FVR]
     exact⟨arr,rfl,by omega,e4⟩
    ·cases h
   | mp b=>simp[frzC]at h
  ·intro l r bs g off h hbs hl
   cases l with
   | nil=>
    simp only[frzL,Option.some.injEq,Prod.mk.injEq]at h
    obtain⟨rfl,rfl⟩:=h
    simp[FVRs]
   | cons x l=>
    simp only[frzL]at h
    split at h
    ·rename_i y bs1 ys bs2 h1 h2
     simp only[Option.some.injEq,Prod.mk.injEq]at h
     obtain⟨rfl,rfl⟩:=h
     simp only[CRs]at hl
     obtain⟨⟨v,q1,q2⟩,q3⟩:=hl
     obtain⟨e1,e2⟩:=ihL _ _ _ _ _ h2 (λb hb=>hbs b (by simp[hb])) q3
     exact⟨by simp[e1],⟨v,q1,ihC _ _ _ _ h1 (λb hb=>hbs b (by simp[hb])) q2⟩,e2⟩
    ·cases h
  ·intro l r bs sz g off h hbs hl
   cases l with
   | nil=>
    simp only[frzE,Option.some.injEq,Prod.mk.injEq]at h
    obtain⟨rfl,rfl⟩:=h
    simp[FVRe]
   | cons x l=>
    simp only[frzE]at h
    split at h
    ·rename_i y bs1 ys bs2 h1 h2
     simp only[Option.some.injEq,Prod.mk.injEq]at h
     obtain⟨rfl,rfl⟩:=h
     simp only[CRe]at hl
     obtain⟨q0,q1,q3⟩:=hl
     obtain⟨e1,e2⟩:=ihE _ _ _ _ _ _ h2 (λb hb=>hbs b (by simp[hb])) q3
     obtain⟨e3,e4⟩:=ihL _ _ _ _ _ h1 (λb hb=>hbs b (by simp[hb])) q1
     exact⟨by simp[e1],by omega,e4,e2⟩
    ·cases h
theorem ad2:∀ (bs:List Nat) (H:Heap),(aaX H bs).length=H.length
 | [],_=>rfl
 | b::r,H=>by simp only[aaX];rw[ad2 r];simp
theorem aaR:∀ {bs:List Nat}{H:Heap}{b:Nat}{k:Blk},live (aaX H bs) b=some k->b ∉ bs/\live H b=some k
 | [],_,_,_,h=>⟨by simp,h⟩
 | x::r,H,b,k,h=>by
  simp only[aaX]at h
  obtain⟨h1,h2⟩:=aaR h
  obtain⟨h3,h4⟩:=aaC h2
  exact⟨by simp[h1,h3],h4⟩
theorem ael(hr:HR Φ ρ H w)(bs:List Nat):Stp Φ ρ H w (aaO Φ ρ H w bs) ρ (aaX H bs) w:=by
 have ext:Ext Φ ρ H (aaO Φ ρ H w bs) ρ (aaX H bs):=
  ⟨λ_ _ h=>adg hr h,by rw[ad2];exact Nat.le_refl _,λ_ _=>rfl,λb k' _ hk=>⟨k',(aaR hk).2,rfl,rfl⟩⟩
 have new:∀ {c arr},aaO Φ ρ H w bs c=some arr->Φ c=some arr ∨ ∃ b∈bs,∃ k inf,live H b=some k/\ρ b=some inf/\inf.c=c/\∃ ty fz,w.heap[c]?=some (.cells arr ty fz):=by
  intro c arr h
  unfold aaO at h
  split at h
  ·rename_i hx
   obtain⟨b,hb,k,inf,h1,h2,rfl⟩:=hx
   cases hm:k.isMp with
   | false=>
    obtain⟨g1,arr',ty,fz,g2,_⟩:=hr.own b k inf h1 hm h2
    rw[g2]at h
    cases h
    exact .inr ⟨b,hb,k,inf,h1,h2,rfl,ty,fz,g2⟩
   | true=>
    obtain⟨kk,es,rfl⟩:=Blk.is_mp (k:=k) (by simp[hm])
    obtain⟨_,l,q,g2,_⟩:=hr.mps b kk es inf h1 h2
    rw[g2]at h
    exact .inl h
  ·exact .inl h
 refine⟨ext,⟨?_,?_,?_,λc arr h=>ext.phi c arr (hr.glo c arr h),?_⟩,λ_ _ _=>rfl,?_,?_,Nat.le_refl _,.refl _⟩
 ·intro c arr h
  rcases new h with h | ⟨_,_,_,_,_,_,_,ty,fz,h⟩
  ·exact hr.fro c arr h
  ·exact⟨ty,fz,h⟩
 ·intro b k inf hk hm hi
  obtain⟨h1,h2⟩:=aaR hk
  obtain⟨g1,arr,ty,fz,g2,g3,g4,g5,g6⟩:=hr.own b k inf h2 hm hi
  refine⟨?_,arr,ty,fz,g2,g3,g4,g5,aau ext g6⟩
  cases hp:aaO Φ ρ H w bs inf.c with
  | none=>rfl
  | some arr'=>
   rcases new hp with h | ⟨b',hb',k',inf',q1,q2,q3,_⟩
   ·rw[g1]at h;cases h
   ·have:=hr.inj b' b k' k inf' inf q1 h2 q2 hi q3
    subst this
    exact absurd hb' h1
 ·intro b1 b2 k1 k2 i1 i2 l1 l2 r1 r2 e
  exact hr.inj b1 b2 k1 k2 i1 i2 (aaR l1).2 (aaR l2).2 r1 r2 e
 ·intro b kk es inf hk hi
  obtain⟨h1,h2⟩:=aaR hk
  obtain⟨g1,l,q,g2,g3⟩:=hr.mps b kk es inf h2 hi
  refine⟨?_,l,q,g2,am3 ext.phi g3⟩
  cases hp:aaO Φ ρ H w bs inf.c with
  | none=>rfl
  | some arr'=>
   rcases new hp with h | ⟨b',hb',k',inf',q1,q2,q3,_⟩
   ·rw[g1]at h;cases h
   ·have:=hr.inj b' b k' _ inf' inf q1 h2 q2 hi q3
    subst this
    exact absurd hb' h1
 ·rintro c ⟨b,k,inf,hk,hi,rfl⟩
  exact .inl ⟨b,k,inf,(aaR hk).2,hi,rfl⟩
 ·intro c arr h
  rcases new h with h | ⟨b,_,k,inf,q1,q2,q3,_⟩
  ·exact .inl h
  ·exact .inr (.inl ⟨b,k,inf,q1,q2,q3⟩)
theorem aor(hr:HR Φ ρ H w){x y:A}{bs:List Nat}{v:Value}(h:frzA H x=some (y,bs))(hx:AR Φ ρ H x v):AR (aaO Φ ρ H w bs) ρ (aaX H bs) y v:=by
 unfold frzA at h
 split at h
 ·simp only[Option.map_eq_some_iff,Prod.mk.injEq]at h
  obtain⟨⟨y',bs'⟩,h1,rfl,rfl⟩:=h
  simp only[AR]at hx
  simp only[AR,CR]
  exact(aex hr deep).1 _ _ _ _ h1 (λ_ h=>h) hx
 ·simp only[Option.some.injEq,Prod.mk.injEq]at h
  obtain⟨rfl,rfl⟩:=h
  exact ahz (ael hr []).ext _ _ hx
 ·simp only[Option.map_eq_some_iff,Prod.mk.injEq]at h
  obtain⟨⟨y',bs'⟩,h1,rfl,rfl⟩:=h
  simp only[AR]at hx
  obtain⟨arr,rfl,e1,e2⟩:=hx
  obtain⟨e3,e4⟩:=(aex hr deep).2.1 _ _ _ _ _ h1 (λ_ h=>h) e2
  simp only[AR]
  exact⟨arr,rfl,by omega,e4⟩
 ·cases h
theorem aey{t:Array Value}{i:Nat}{x:A}(h:SR Φ ρ H s t)(hx:∀ v,t[i]?=some v->AR Φ ρ H x v):SR Φ ρ H (s.set i x) t:=
 ⟨by simp[h.1],λj y hy=>by
  rw[List.getElem?_set]at hy
  split at hy
  ·rename_i hij
   subst hij
   split at hy
   ·rename_i hlt
    cases hy
    have:i<t.size:=by rw[<-h.1];exact hlt
    exact⟨t[i],by simp[this],hx _ (by simp[this])⟩
   ·cases hy
  ·exact h.2 j y hy⟩
theorem amL{b sz n:Nat}{v:Value}(h:CR Φ ρ H (.slw b sz n) v):CR Φ ρ H (.sl b sz 0 n none) v:=by
 simp only[CR]at h ⊢
 obtain⟨p,k,rfl,h1,h2,h3,h4⟩:=h
 refine⟨p,k,rfl,⟨h1,by simp⟩,λh=>h2 (by simpa using h),h3,λx hx=>?_⟩
 obtain⟨g1,g2,g3⟩:=h4 x hx
 refine⟨g1,by omega,λ_=>by omega,?_⟩
 rcases g3 with g3 | ⟨inf,g3,g4,g5⟩
 ·exact .inl g3
 ·exact .inr ⟨inf,g3,by simpa using g4,by simpa using g5⟩
theorem ahu{b:Nat}{k k':Blk}(hr:HR Φ ρ H w)(hk:live H b=some k)(h1:k'.sz=k.sz)(h2:k'.len=k.len)(h3:∀ g off,ELR Φ ρ H k.el k.sz g off->ELR Φ ρ H k'.el k.sz g off)(hm:k.isMp=false:=by first | rfl | assumption)(hm':k'.isMp=false:=by first | rfl | assumption) :
  Stp Φ ρ H w Φ ρ (H.set b (some k')) w:=by
 have ext:=abB (Φ:=Φ) (ρ:=ρ) hk h1 h2
 have get:∀ b' x,live (H.set b (some k')) b'=some x->∃ y,live H b'=some y:=by
  intro b' x hx
  by_cases hbb:b'=b
  ·subst hbb;exact⟨k,hk⟩
  ·rw[aah hbb]at hx;exact⟨x,hx⟩
 refine⟨ext,⟨hr.fro,?_,?_,hr.glo,?_⟩,λ_ _ _=>rfl,?_,λ_ _ h=>.inl h,Nat.le_refl _,.refl _⟩
 ·intro b' x inf' hx hmx hρ'
  by_cases hbb:b'=b
  ·subst hbb
   rw[aao hk]at hx;cases hx
   obtain⟨g1,arr,ty',fz',g2,g3,g4,g5,g6⟩:=hr.own b' k inf' hk hm hρ'
   refine⟨g1,arr,ty',fz',g2,g3,g4,by rw[h1,h2];exact g5,aau ext ?_⟩
   rw[h1]
   exact h3 _ _ g6
  ·rw[aah hbb]at hx
   obtain⟨g1,arr,ty',fz',g2,g3,g4,g5,g6⟩:=hr.own b' x inf' hx hmx hρ'
   exact⟨g1,arr,ty',fz',g2,g3,g4,g5,aau ext g6⟩
 ·intro b1 b2 k1 k2 i1 i2 l1 l2 r1 r2 e
  obtain⟨y1,hy1⟩:=get _ _ l1
  obtain⟨y2,hy2⟩:=get _ _ l2
  exact hr.inj b1 b2 y1 y2 i1 i2 hy1 hy2 r1 r2 e
 ·intro b' kk es inf' hx hρ'
  by_cases hbb:b'=b
  ·subst hbb
   rw[aao hk]at hx;cases hx;cases hm'
  ·rw[aah hbb]at hx
   exact hr.mps b' kk es inf' hx hρ'
 ·rintro c ⟨b',x,inf',hx,hρ',rfl⟩
  obtain⟨y,hy⟩:=get _ _ hx
  exact .inl ⟨b',y,inf',hy,hρ',rfl⟩
theorem amw(hr:HR Φ ρ H w)(b:Nat):Stp Φ ρ H w Φ ρ (H.set b none) w:=by
 have ext:Ext Φ ρ H Φ ρ (H.set b none):=⟨λ_ _ h=>h,by simp,λ_ _=>rfl,λb' k' _ hk=>⟨k',(aaC hk).2,rfl,rfl⟩⟩
 refine⟨ext,⟨hr.fro,?_,?_,hr.glo,λb' kk es inf' hx hρ'=>hr.mps b' kk es inf' (aaC hx).2 hρ'⟩,λ_ _ _=>rfl,?_,λ_ _ h=>.inl h,Nat.le_refl _,.refl _⟩
 ·intro b' x inf' hx hmx hρ'
  obtain⟨g1,arr,ty',fz',g2,g3,g4,g5,g6⟩:=hr.own b' x inf' (aaC hx).2 hmx hρ'
  exact⟨g1,arr,ty',fz',g2,g3,g4,g5,aau ext g6⟩
 ·intro b1 b2 k1 k2 i1 i2 l1 l2 r1 r2 e
  exact hr.inj b1 b2 k1 k2 i1 i2 (aaC l1).2 (aaC l2).2 r1 r2 e
 ·rintro c ⟨b',x,inf',hx,hρ',rfl⟩
  exact .inl ⟨b',x,inf',(aaC hx).2,hρ',rfl⟩
theorem afd{b:Nat}{k:Blk}(h:akU H b=some k):live H b=some k/\k.isMp=false:=by
 unfold akU at h
 split at h
 ·cases h
 ·rename_i hn
  refine⟨h,?_⟩
  cases k with
  | mp kk es=>exact absurd h (hn kk es)
  |_=>rfl
theorem al9{b':Nat}{k':Blk}(hr:HR Φ ρ H w)(hk':live H b'=some k')(hm:k'.isMp=false):∃ ρ1,Stp Φ ρ H w Φ ρ1 (H.set b' none++[some k']) w/\ρ1 H.length=ρ b'/\∀ c,c<H.length->ρ1 c=ρ c:=by
 cases hρ:ρ b' with
 | none=>exact⟨upd ρ H.length none,aaZ hr (Less.kill H b'),upd_self,λc hc=>aay (by omega)⟩
 | some inf=>
  obtain⟨f1,arr,ty,fz,hw,f3,f4,f5,f6⟩:=hr.own b' k' inf hk' hm hρ
  exact⟨upd ρ H.length (some inf),ab3 (arr':=arr) hr (Less.kill H b') (λ_ _ _=>rfl) (Nat.le_refl _) f1 (.inr ⟨b',k',inf,hk',hρ,rfl⟩)
   (λb x i hx hi he=>by obtain⟨q1,q2⟩:=aaC hx;exact q1 (hr.inj b b' x k' i inf q2 hk' hi hρ he)) hw f3 f4 f5 (aau (aby (Less.kill H b')) f6) (.refl _),upd_self,λc hc=>aay (by omega)⟩
theorem ac8{b:Nat}{k k':Blk}(hr:HR Φ ρ H w)(hk:live H b=some k)(h1:k'.sz=k.sz)(h2:k'.len=k.len)
  (h3:∀ inf arr ty fz,ρ b=some inf->w.heap[inf.c]?=some (.cells arr ty fz)->ELR Φ ρ H k.el k.sz (arr[·]?) inf.base->ELR Φ ρ H k'.el k.sz (arr[·]?) inf.base) (hm:k.isMp=false:=by first | rfl | assumption) (hm':k'.isMp=false:=by first | rfl | assumption) :
  Stp Φ ρ H w Φ ρ (H.set b (some k')) w:=by
 have ext:=abB (Φ:=Φ) (ρ:=ρ) hk h1 h2
 have get:∀ b' x,live (H.set b (some k')) b'=some x->∃ y,live H b'=some y:=by
  intro b' x hx
  by_cases hbb:b'=b
  ·subst hbb;exact⟨k,hk⟩
  ·rw[aah hbb]at hx;exact⟨x,hx⟩
 refine⟨ext,⟨hr.fro,?_,?_,hr.glo,?_⟩,λ_ _ _=>rfl,?_,λ_ _ h=>.inl h,Nat.le_refl _,.refl _⟩
 ·intro b' x inf' hx hmx hρ'
  by_cases hbb:b'=b
  ·subst hbb
   rw[aao hk]at hx;cases hx
   obtain⟨g1,arr,ty',fz',g2,g3,g4,g5,g6⟩:=hr.own b' k inf' hk hm hρ'
   refine⟨g1,arr,ty',fz',g2,g3,g4,by rw[h1,h2];exact g5,aau ext ?_⟩
   rw[h1]
   exact h3 _ _ _ _ hρ' g2 g6
  ·rw[aah hbb]at hx
   obtain⟨g1,arr,ty',fz',g2,g3,g4,g5,g6⟩:=hr.own b' x inf' hx hmx hρ'
   exact⟨g1,arr,ty',fz',g2,g3,g4,g5,aau ext g6⟩
 ·intro b1 b2 k1 k2 i1 i2 l1 l2 r1 r2 e
  obtain⟨y1,hy1⟩:=get _ _ l1
  obtain⟨y2,hy2⟩:=get _ _ l2
  exact hr.inj b1 b2 y1 y2 i1 i2 hy1 hy2 r1 r2 e
 ·intro b' kk es inf' hx hρ'
  by_cases hbb:b'=b
  ·subst hbb
   rw[aao hk]at hx;cases hx;cases hm'
  ·rw[aah hbb]at hx
   exact hr.mps b' kk es inf' hx hρ'
 ·rintro c ⟨b',x,inf',hx,hρ',rfl⟩
  obtain⟨y,hy⟩:=get _ _ hx
  exact .inl ⟨b',y,inf',hy,hρ',rfl⟩
theorem aos{b b' i j sz n:Nat}{k k':Blk}{cl:List C}(hr:HR Φ ρ H w)(hk:live H b=some k)(hc:k.els[i]?=some cl)(hx:cl[j]?=some (.slw b' sz n))(hk':live H b'=some k')(hmk':k'.isMp=false)(hbb:b≠b') :
  ∃ ρ1,Stp Φ ρ H w Φ ρ1 ((H.set b' none++[some k']).set b (some (.mix k.sz (k.els.set i (cl.set j (.slw H.length sz n)))))) w:=by
 have hm:=Blk.cel_els hc
 obtain⟨ρ1,st,e1,e2⟩:=al9 hr hk' hmk'
 have hb:b<H.length:=aaK hk
 have hkb:live (H.set b' none++[some k']) b=some k:=by
  rw[aar (by simpa using hb),aah hbb];exact hk
 refine⟨ρ1,st.trans (ac8 st.hr hkb rfl (by simp only[Blk.len,List.length_set];exact Blk.els_len _) ?_)⟩
 intro inf arr ty fz hρ hw h
 rw[e2 b hb]at hρ
 obtain⟨_,arr0,ty0,fz0,hw0,_,_,_,h0⟩:=hr.own b k inf hk hm hρ
 rw[hw]at hw0
 cases hw0
 rw[ELR_c,Blk.el_c]at h h0 ⊢
 show CRe Φ ρ1 _ (k.els.set i (cl.set j (.slw H.length sz n))) k.sz _ _
 rw[CRe_iff]at h h0 ⊢
 intro m e hm
 rw[List.getElem?_set]at hm
 split at hm
 ·rename_i him
  subst him
  split at hm
  ·cases hm
   obtain⟨q1,q2⟩:=h i cl hc
   obtain⟨_,p2⟩:=h0 i cl hc
   refine⟨by simpa using q1,?_⟩
   rw[CRs_iff]at q2 p2 ⊢
   intro n' z hz
   rw[List.getElem?_set]at hz
   split at hz
   ·rename_i hjn
    subst hjn
    split at hz
    ·cases hz
     obtain⟨v,g1,g2⟩:=p2 j _ hx
     refine⟨v,g1,?_⟩
     simp only[CR]at g2 ⊢
     obtain⟨p,kk,hv,hkk,hpn,hb',hh⟩:=g2
     obtain⟨r1,r2,r3⟩:=hh k' hk'
     refine⟨p,kk,hv,hkk,hpn,by simp,λx hx=>?_⟩
     have hlen:(H.set b' none).length=H.length:=by simp
     rw[<-hlen,aal]at hx;cases hx
     refine⟨r1,r2,?_⟩
     rcases r3 with r3 | ⟨inf',r3,r4⟩
     ·exact .inl r3
     ·exact .inr ⟨inf',by rw[e1];exact r3,r4⟩
    ·cases hz
   ·exact q2 n' z hz
  ·cases hm
 ·exact h m e hm
theorem adZ{Φ1:Phi}{ρ1:Rho}{H1:Heap}{b i j:Nat}{k:Blk}{cl:List C}{x y:C}(hr:HR Φ ρ H w)(hk:live H b=some k)(hc:k.els[i]?=some cl)(hx:cl[j]?=some x)(st:Stp Φ ρ H w Φ1 ρ1 H1 w)(hk1:live H1 b=some k)
  (hxy:∀ v,CR Φ ρ H x v->CR Φ1 ρ1 H1 y v):Stp Φ ρ H w Φ1 ρ1 (H1.set b (some (.mix k.sz (k.els.set i (cl.set j y))))) w:=by
 have hm:=Blk.cel_els hc
 have hb:b<H.length:=aaK hk
 refine st.trans (ac8 st.hr hk1 rfl (by simp only[Blk.len,List.length_set];exact Blk.els_len _) ?_)
 intro inf arr ty fz hρ hw h
 rw[st.ext.rho b hb]at hρ
 obtain⟨_,arr0,ty0,fz0,hw0,_,_,_,h0⟩:=hr.own b k inf hk hm hρ
 rw[hw]at hw0
 cases hw0
 rw[ELR_c,Blk.el_c]at h h0 ⊢
 show CRe Φ1 ρ1 _ (k.els.set i (cl.set j y)) k.sz _ _
 rw[CRe_iff]at h h0 ⊢
 intro m e hm
 rw[List.getElem?_set]at hm
 split at hm
 ·rename_i him
  subst him
  split at hm
  ·cases hm
   obtain⟨q1,q2⟩:=h i cl hc
   obtain⟨_,p2⟩:=h0 i cl hc
   refine⟨by simpa using q1,?_⟩
   rw[CRs_iff]at q2 p2 ⊢
   intro n' z hz
   rw[List.getElem?_set]at hz
   split at hz
   ·rename_i hjn
    subst hjn
    split at hz
    ·cases hz
     obtain⟨v,g1,g2⟩:=p2 j _ hx
     exact⟨v,g1,hxy v g2⟩
    ·cases hz
   ·exact q2 n' z hz
  ·cases hm
 ·exact h m e hm
theorem aca:∀ {bs:List Nat}{H:Heap}{b:Nat},b ∉ bs->live (aaX H bs) b=live H b
 | [],_,_,_=>rfl
 | x::r,H,b,h=>by
  simp only[aaX]
  rw[List.mem_cons,not_or]at h
  rw[aca h.2,aah h.1]
theorem aj7{b' i n:Nat}{k':Blk}(hr:HR Φ ρ H w)(hk':live H b'=some k')(hm:k'.isMp=false)(hin:i+n<=k'.len) :
  ∃ ρ1,Stp Φ ρ H w Φ ρ1 (H.set b' none++[some ((k'.el.mid i n).blk k'.sz)]) w/\ρ1 H.length=(ρ b').map (λinf=>⟨inf.c,inf.base+i*k'.sz,inf.asz⟩)/\∀ c,c<H.length->ρ1 c=ρ c:=by
 cases hρ:ρ b' with
 | none=>exact⟨upd ρ H.length none,aaZ hr (Less.kill H b'),upd_self,λc hc=>aay (by omega)⟩
 | some inf=>
  obtain⟨f1,arr,ty,fz,hw,f3,f4,f5,f6⟩:=hr.own b' k' inf hk' hm hρ
  have hlen:(k'.el.mid i n).len=n:=by
   have:k'.el.len=k'.len:=by cases k' <;> rfl
   cases k' <;> simp only[Blk.el,EL.mid,EL.len,Blk.len]at * <;> simp <;> omega
  refine⟨upd ρ H.length (some ⟨inf.c,inf.base+i*k'.sz,inf.asz⟩),ab3 (arr':=arr) hr (Less.kill H b') (λ_ _ _=>rfl) (Nat.le_refl _) f1 (.inr ⟨b',k',inf,hk',hρ,rfl⟩)
   (λb x i hx hi he=>by obtain⟨q1,q2⟩:=aaC hx;exact q1 (hr.inj b b' x k' i inf q2 hk' hi hρ he)) hw f3 f4 ?_ ?_ (.refl _),upd_self,λc hc=>aay (by omega)⟩
  ·rw[EL.blk_len,EL.blk_sz,hlen]
   have h1:(i+n)*k'.sz<=k'.len*k'.sz:=Nat.mul_le_mul_right _ hin
   rw[Nat.add_mul]at h1
   show inf.base+i*k'.sz+n*k'.sz<=arr.size
   omega
  ·rw[EL.blk_el,EL.blk_sz]
   exact aau (aby (Less.kill H b')) (ade f6)
theorem ajJ{b' i n sz:Nat}{k':Blk}{cap:Option Nat}{ρ1:Rho}{v:Value}(hk':live H b'=some k')(e1:ρ1 H.length=(ρ b').map (λinf=>⟨inf.c,inf.base+i*k'.sz,inf.asz⟩))(h:CR Φ ρ H (.sl b' sz i n cap) v) :
  CR Φ ρ1 (H.set b' none++[some ((k'.el.mid i n).blk k'.sz)]) (.slw H.length sz n) v:=by
 simp only[CR]at h ⊢
 obtain⟨p,kk,hv,hc,hp,hb',hh⟩:=h
 obtain⟨r1,r2,r3,r4⟩:=hh k' hk'
 refine⟨p,kk,hv,hc.1,λh0=>hp (.inl h0),by simp,λx hx=>?_⟩
 have hlen:(H.set b' none).length=H.length:=by simp
 rw[<-hlen,aal]at hx;cases hx
 have hl:(k'.el.mid i n).len=n:=by
  have:k'.el.len=k'.len:=by cases k' <;> rfl
  cases k' <;> simp only[Blk.el,EL.mid,EL.len,Blk.len]at * <;> simp <;> omega
 refine⟨by rw[EL.blk_sz];exact r1,by rw[EL.blk_len,hl],?_⟩
 rcases r4 with r4 | ⟨inf,r4,r5,r6⟩
 ·exact .inl r4
 ·refine .inr ⟨⟨inf.c,inf.base+i*k'.sz,inf.asz⟩,by rw[e1,r4];rfl,by rw[r5,r1],?_⟩
  rw[Nat.add_mul]at r6
  show inf.base+i*k'.sz+kk*sz<=inf.asz
  rw[r1];omega
theorem ab6{h:Heap}{a:A}{o b i j:Nat}{k:Blk}{cl:List C}{x:C}(he:aej h a o=some (b,k,i,cl,j,x)):live h b=some k/\k.els[i]?=some cl/\cl[j]?=some x:=by
 unfold aej at he
 split at he
 ·split at he
  ·rename_i k' hk
   split at he
   ·rename_i cl' hc
    split at he
    ·rename_i x' hx
     simp only[Option.some.injEq,Prod.mk.injEq]at he
     obtain⟨rfl,rfl,rfl,rfl,rfl,rfl⟩:=he
     refine⟨hk,?_,hx⟩
     cases k' with
     | pur z els=>
      simp only[Blk.at,Option.map_eq_some_iff]at hc
      obtain⟨y,hy,rfl⟩:=hc
      simp[Blk.els,hy,CL.c]
     | mix z els=>
      simp only[Blk.at,Option.map_eq_some_iff]at hc
      obtain⟨y,hy,rfl⟩:=hc
      simp[Blk.els,hy,CL.c]
     | mp=>cases hc
    ·cases he
   ·cases he
  ·cases he
 ·cases he
theorem ahJ{b i j:Nat}{k:Blk}{cl:List C}{x y:C}(hr:HR Φ ρ H w)(hk:live H b=some k)(hc:k.els[i]?=some cl)(hx:cl[j]?=some x)(hxy:∀ v,CR Φ ρ H x v->CR Φ ρ H y v) :
  Stp Φ ρ H w Φ ρ (H.set b (some (.mix k.sz (k.els.set i (cl.set j y))))) w:=by
 have hm:=Blk.cel_els hc
 refine ahu hr hk rfl ?_ ?_
 ·simp only[Blk.len,List.length_set];exact Blk.els_len _
 ·intro g off h
  rw[ELR_c,Blk.el_c]at h ⊢
  show CRe Φ ρ H (k.els.set i (cl.set j y)) k.sz g off
  rw[CRe_iff]at h ⊢
  intro m e hm
  rw[List.getElem?_set]at hm
  split at hm
  ·rename_i him
   subst him
   split at hm
   ·cases hm
    obtain⟨q1,q2⟩:=h i cl hc
    refine⟨by simpa using q1,?_⟩
    rw[CRs_iff]at q2 ⊢
    intro n z hz
    rw[List.getElem?_set]at hz
    split at hz
    ·rename_i hjn
     subst hjn
     split at hz
     ·cases hz
      obtain⟨v,g1,g2⟩:=q2 j x hx
      exact⟨v,g1,hxy v g2⟩
     ·cases hz
    ·exact q2 n z hz
   ·cases hm
  ·exact h m e hm
theorem ai7:∀ (m:List (Option Nat)) (l:List FV),acY m (l.map .v)=(nrmL m l).map .v
 | [],l=>by unfold acY nrmL;rfl
 | m::ms,[]=>by unfold acY nrmL;rfl
 | m::ms,x::xs=>by
  simp only[List.map_cons]
  unfold acY nrmL
  simp only[List.map_cons,ai7 ms xs]
  rfl
theorem aoE{m:List (Option Nat)}{a:A}{v:Value}(h:AR Φ ρ H a v):AR Φ ρ H (nrmA m a) v:=by
 unfold nrmA
 split
 ·simp only[AR,CR,FVR]at h ⊢
  obtain⟨c,off,arr,rfl,h1,h2⟩:=h
  exact⟨c,off,arr,rfl,h1,(acx h2).1⟩
 ·simp only[AR]at h ⊢
  exact aju h
 ·simp only[AR]at h ⊢
  obtain⟨arr,rfl,h1,h2⟩:=h
  exact⟨arr,rfl,by rw[h1,(acx (m:=m) h2).2],(acx h2).1⟩
 ·simp only[AR]at h ⊢
  obtain⟨arr,rfl,h1,h2⟩:=h
  exact⟨arr,rfl,by rw[h1,(acL (m:=m) h2).2],(acL h2).1⟩
 ·exact h
theorem alC{H:Heap}{x:C}{r:FV×List Nat}(h:clsC H x=some r):frzC H 1 x=some r:=by
 cases x with
 | v x=>simpa only[clsC,frzC]using h
 | slw b sz n=>
  simp only[clsC]at h
  simp only[frzC]
  split at h
  ·cases h
  ·rename_i hz
   rw[if_neg hz]
   split at h
   ·rename_i els hl
    rw[hl]
    exact h
   ·cases h
 | sl b sz i n _=>
  simp only[clsC]at h
  simp only[frzC]
  split at h
  ·cases h
  ·rename_i hz
   rw[if_neg hz]
   split at h
   ·rename_i els hl
    rw[hl]
    exact h
   ·cases h
 | und | ptr _ _ _ _ | fn _ _ | mp _=>simp[clsC]at h
theorem ahd{H:Heap}:∀ {l:List C}{r:List FV}{bs:List Nat},clsL H l=some (r,bs)->r.length=l.length
 | [],r,bs,h=>by simp only[clsL,Option.some.injEq,Prod.mk.injEq]at h;rw[<-h.1];rfl
 | x::l,r,bs,h=>by
  simp only[clsL]at h
  split at h
  ·rename_i y b1 ys b2 _ h2
   cases h
   simp[ahd h2]
  ·cases h
theorem ahq{H:Heap}:∀ {l:List (List C)}{r:List (List FV)}{bs:List Nat},clsE H l=some (r,bs)->r.length=l.length
 | [],r,bs,h=>by simp only[clsE,Option.some.injEq,Prod.mk.injEq]at h;rw[<-h.1];rfl
 | x::l,r,bs,h=>by
  simp only[clsE]at h
  split at h
  ·rename_i y b1 ys b2 _ h2
   cases h
   simp[ahq h2]
  ·cases h
theorem aks(hr:HR Φ ρ H w){bs0:List Nat}:∀ {l:List C}{r:List FV}{bs:List Nat}{g:Nat->Option Value}{off:Nat},clsL H l=some (r,bs)->(∀ b∈bs,b∈bs0)->CRs Φ ρ H l g off->FVRs (aaO Φ ρ H w bs0) r g off
 | [],r,bs,g,off,h,_,_=>by
  simp only[clsL,Option.some.injEq,Prod.mk.injEq]at h
  rw[<-h.1];simp[FVRs]
 | x::l,r,bs,g,off,h,hb,hc=>by
  simp only[clsL]at h
  split at h
  ·rename_i y b1 ys b2 h1 h2
   cases h
   simp only[CRs]at hc
   obtain⟨⟨v,q1,q2⟩,q3⟩:=hc
   simp only[FVRs]
   exact⟨⟨v,q1,(aex hr 1).1 _ _ _ _ (alC h1) (λb hm=>hb b (List.mem_append_left _ hm)) q2⟩,aks hr h2 (λb hm=>hb b (List.mem_append_right _ hm)) q3⟩
  ·cases h
theorem ak1(hr:HR Φ ρ H w){bs0:List Nat}:∀ {l:List (List C)}{r:List (List FV)}{bs:List Nat}{sz:Nat}{g:Nat->Option Value}{off:Nat},clsE H l=some (r,bs)->(∀ b∈bs,b∈bs0)->CRe Φ ρ H l sz g off->FVRe (aaO Φ ρ H w bs0) r sz g off
 | [],r,bs,sz,g,off,h,_,_=>by
  simp only[clsE,Option.some.injEq,Prod.mk.injEq]at h
  rw[<-h.1];simp[FVRe]
 | x::l,r,bs,sz,g,off,h,hb,hc=>by
  simp only[clsE]at h
  split at h
  ·rename_i y b1 ys b2 h1 h2
   cases h
   simp only[CRe]at hc
   obtain⟨q1,q2,q3⟩:=hc
   simp only[FVRe]
   exact⟨by rw[ahd h1];exact q1,aks hr h1 (λb hm=>hb b (List.mem_append_left _ hm)) q2,ak1 hr h2 (λb hm=>hb b (List.mem_append_right _ hm)) q3⟩
  ·cases h
theorem an0{b:Nat}{k k1:Blk}{bs:List Nat}(hr:HR Φ ρ H w)(hk:live H b=some k)(h:clsB H k=some (k1,bs))(hb:b ∉ bs) :
  Stp Φ ρ H w (aaO Φ ρ H w bs) ρ ((aaX H bs).set b (some k1)) w:=by
 have stp:=ael hr bs
 have hk1:live (aaX H bs) b=some k:=by rw[aca hb];exact hk
 cases k with
 | pur sz l=>
  simp only[clsB,Option.some.injEq,Prod.mk.injEq]at h
  obtain⟨rfl,rfl⟩:=h
  exact stp.trans (ac8 stp.hr hk1 rfl rfl (λ_ _ _ _ _ _ h=>h))
 | mix sz els=>
  simp only[clsB,Option.map_eq_some_iff]at h
  obtain⟨⟨l,bs'⟩,h1,h2⟩:=h
  simp only[Prod.mk.injEq]at h2
  obtain⟨rfl,rfl⟩:=h2
  refine stp.trans (ac8 stp.hr hk1 rfl (ahq h1) ?_)
  intro inf arr ty fz hρ hw _
  obtain⟨_,arr0,ty0,fz0,hw0,_,_,_,h0⟩:=hr.own b _ inf hk rfl hρ
  rw[hw]at hw0
  cases hw0
  exact ak1 hr h1 (λ_ h=>h) h0
 | mp kk es=>simp[clsB]at h
theorem aly{np:Nat}{st st':St}{g:Gh}{t:Array Value}(h:ghost np st g=some st')(hs:SR Φ ρ st.h st.s t)(hr:HR Φ ρ st.h w)(hn:np<=st.h.length) :
  ∃ Φ' ρ',StpN np Φ ρ st.h w Φ' ρ' st'.h w/\SR Φ' ρ' st'.h st'.s t:=by
 cases g with
 | keep ts=>
  simp only[ghost,Option.some.injEq]at h
  subst h
  obtain⟨h1,h2,h3⟩:=afu np st.h (abp (keepS ts 0 st.s)) hn
  exact⟨Φ,_,afh hr hn h1 h3 (adX _ _ _),ao3 (ahO _) (ajL hs)⟩
 | only ts=>
  simp only[ghost,Option.some.injEq]at h
  subst h
  exact⟨Φ,ρ,StpN.refl hr hn,ajL hs⟩
 | frz i=>
  simp only[ghost]at h
  split at h
  ·rename_i a ha
   simp only[Option.map_eq_some_iff]at h
   obtain⟨⟨a',bs⟩,h1,rfl⟩:=h
   have stp:=ael hr bs
   refine⟨_,ρ,stp.toN hn,aey (aaW stp.ext hs) (λv hv=>?_)⟩
   obtain⟨v',hv',hx⟩:=hs.2 i a ha
   rw[hv]at hv';cases hv'
   exact aor hr h1 hx
  ·cases h
 | own i sz=>
  simp only[ghost]at h
  split at h
  ·rename_i z ha
   cases h
   have stp:=aaZ (k:=.pur sz []) hr (Less.refl st.h)
   refine⟨Φ,_,stp.toN hn,aey (aaW stp.ext hs) (λv hv=>?_)⟩
   obtain⟨v',hv',hx⟩:=hs.2 i _ ha
   rw[hv]at hv';cases hv'
   simp only[AR,CR,FVR]at hx
   obtain⟨p,k,rfl,hk,_⟩:=hx
   have:=hk.2 0 rfl
   subst this
   simp only[AR,CR]
   refine⟨_,_,rfl,Nat.le_refl _,by simp,by simp,λx hx=>?_⟩
   rw[aal]at hx;cases hx
   exact⟨rfl,by simp[Blk.len],.inl (by simp)⟩
  ·cases h
   exact⟨Φ,ρ,StpN.refl hr hn,hs⟩
  ·cases h
 | nrm i m=>
  simp only[ghost]at h
  split at h
  ·rename_i a ha
   cases h
   refine⟨Φ,ρ,StpN.refl hr hn,aey hs (λv hv=>?_)⟩
   obtain⟨v',hv',hx⟩:=hs.2 i a ha
   rw[hv]at hv';cases hv'
   exact aoE hx
  ·cases h
 | ownC i o sz=>
  simp only[ghost]at h
  split at h
  ·rename_i a ha
   split at h
   ·rename_i b k e cl j hc
    cases h
    obtain⟨c1,c2,c3⟩:=ab6 hc
    have stp:=aaZ (k:=.pur sz []) hr (Less.refl st.h)
    have hb:b<st.h.length:=aaK c1
    have hk':live (st.h++[some (Blk.pur sz [])]) b=some k:=by rw[aar hb];exact c1
    have stp2:=ahJ (y:=.slw st.h.length sz 0) stp.hr hk' c2 c3 (λv hv=>by
     simp only[CR,FVR]at hv
     obtain⟨p,k,rfl,hk,_⟩:=hv
     have:=hk.2 0 rfl
     subst this
     simp only[CR]
     refine⟨_,_,rfl,Nat.le_refl _,by simp,by simp,λx hx=>?_⟩
     rw[aal]at hx;cases hx
     exact⟨rfl,by simp[Blk.len],.inl (by simp)⟩)
    exact⟨Φ,_,(stp.trans stp2).toN hn,aaW (stp.trans stp2).ext hs⟩
   ·cases h
    exact⟨Φ,ρ,StpN.refl hr hn,hs⟩
   ·cases h
  ·cases h
 | wkC i o=>
  simp only[ghost]at h
  split at h
  ·rename_i a ha
   split at h
   ·rename_i b k e cl j b' sz n hc
    cases h
    obtain⟨c1,c2,c3⟩:=ab6 hc
    have stp2:=ahJ (y:=.sl b' sz 0 n none) hr c1 c2 c3 (λv hv=>amL hv)
    exact⟨Φ,ρ,stp2.toN hn,aaW stp2.ext hs⟩
   ·cases h
    exact⟨Φ,ρ,StpN.refl hr hn,hs⟩
   ·cases h
  ·cases h
 | mvC i o=>
  simp only[ghost]at h
  split at h
  ·rename_i a ha
   split at h
   ·rename_i b k e cl j b' sz n hc
    split at h
    ·rename_i k' hk' hbb
     cases h
     obtain⟨hk',hm'⟩:=afd hk'
     obtain⟨c1,c2,c3⟩:=ab6 hc
     obtain⟨ρ1,stp⟩:=aos hr c1 c2 c3 hk' hm' (by intro he;subst he;simp at hbb)
     exact⟨Φ,ρ1,stp.toN hn,aaW stp.ext hs⟩
    ·cases h
   ·cases h
    exact⟨Φ,ρ,StpN.refl hr hn,hs⟩
   ·cases h
  ·cases h
 | frzC i o=>
  simp only[ghost]at h
  split at h
  ·rename_i a ha
   split at h
   ·rename_i b k e cl j x hc
    split at h
    ·rename_i y bs hf
     split at h
     ·cases h
     ·rename_i hbb
      cases h
      obtain⟨c1,c2,c3⟩:=ab6 hc
      have hnb:b ∉ bs:=by simpa using hbb
      have stp:=ael hr bs
      have stp2:=adZ (y:=.v y) hr c1 c2 c3 stp (by rw[aca hnb];exact c1) (λv hv=>by
       simp only[CR]
       exact(aex hr deep).1 _ _ _ _ hf (λ_ h=>h) hv)
      exact⟨_,ρ,stp2.toN hn,aaW stp2.ext hs⟩
    ·cases h
   ·cases h
  ·cases h
 | trimC i o=>
  simp only[ghost]at h
  split at h
  ·rename_i a ha
   split at h
   ·rename_i b k e cl j b' sz i' n cap hc
    split at h
    ·rename_i k' hk' hbb
     cases h
     obtain⟨hk',hm'⟩:=afd hk'
     obtain⟨c1,c2,c3⟩:=ab6 hc
     have hne:b≠b':=by intro he;subst he;simp at hbb
     by_cases hin:i'+n<=k'.len
     ·obtain⟨ρ1,stp,e1,e2⟩:=aj7 hr hk' hm' hin
      have stp2:=adZ (y:=.slw st.h.length sz n) hr c1 c2 c3 stp (by
       rw[aar (by simpa using aaK c1),aah hne];exact c1) (λv hv=>ajJ hk' e1 hv)
      exact⟨Φ,ρ1,stp2.toN hn,aaW stp2.ext hs⟩
     ·have stp:Stp Φ ρ st.h w Φ (upd ρ st.h.length none) (st.h.set b' none++[some ((k'.el.mid i' n).blk k'.sz)]) w:=aaZ hr (Less.kill st.h b')
      have stp2:=adZ (y:=.slw st.h.length sz n) hr c1 c2 c3 stp (by
       rw[aar (by simpa using aaK c1),aah hne];exact c1) (λv hv=>by
        simp only[CR]at hv
        obtain⟨p,kk,_,_,_,_,hh⟩:=hv
        exact absurd (hh k' hk').2.1 hin)
      exact⟨Φ,_,stp2.toN hn,aaW stp2.ext hs⟩
    ·cases h
   ·cases h
    exact⟨Φ,ρ,StpN.refl hr hn,hs⟩
   ·cases h
  ·cases h
 | stop m=>simp only[ghost]at h;cases h
 | peek m n=>simp only[ghost]at h;cases h
 | ext m=>simp only[ghost]at h;cases h
 | mid m g=>simp only[ghost]at h;cases h
 | trim i=>
  simp only[ghost]at h
  split at h
  ·rename_i b' sz i' n cap ha
   split at h
   ·rename_i k' hk'
    cases h
    obtain⟨hk',hm'⟩:=afd hk'
    by_cases hin:i'+n<=k'.len
    ·obtain⟨ρ1,stp,e1,e2⟩:=aj7 hr hk' hm' hin
     refine⟨Φ,ρ1,stp.toN hn,aey (aaW stp.ext hs) (λv hv=>?_)⟩
     obtain⟨v',hv',hx⟩:=hs.2 i _ ha
     rw[hv]at hv';cases hv'
     simp only[AR]at hx ⊢
     exact ajJ hk' e1 hx
    ·have stp:Stp Φ ρ st.h w Φ (upd ρ st.h.length none) (st.h.set b' none++[some ((k'.el.mid i' n).blk k'.sz)]) w:=aaZ hr (Less.kill st.h b')
     refine⟨Φ,_,stp.toN hn,aey (aaW stp.ext hs) (λv hv=>?_)⟩
     obtain⟨v',hv',hx⟩:=hs.2 i _ ha
     simp only[AR,CR]at hx
     obtain⟨p,kk,_,_,_,_,hh⟩:=hx
     exact absurd (hh k' hk').2.1 hin
   ·cases h
  ·cases h
   exact⟨Φ,ρ,StpN.refl hr hn,hs⟩
  ·cases h
 | cls i=>
  simp only[ghost]at h
  split at h
  ·rename_i b hb
   split at h
   ·rename_i k hk
    split at h
    ·rename_i k1 bs hc
     split at h
     ·cases h
     ·rename_i hbb
      cases h
      have stp:=an0 hr hk hc (by simpa using hbb)
      exact⟨_,ρ,stp.toN hn,aaW stp.ext hs⟩
    ·cases h
   ·cases h
  ·cases h
 | drop b=>
  simp only[ghost,Option.some.injEq]at h
  subst h
  have stp:=amw hr b
  exact⟨Φ,ρ,stp.toN hn,aaW stp.ext hs⟩
 | nrmP i m=>
  simp only[ghost]at h
  split at h
  ·rename_i b sz i' ha
   split at h
   ·rename_i k hk
    split at h
    ·rename_i cl hcl
     cases h
     have stp2:Stp Φ ρ st.h w Φ ρ (st.h.set b (some (k.setAt i' (nrmCL m cl)))) w:=by
      have hm:=Blk.cel_at hcl
      have hm':(k.setAt i' (nrmCL m cl)).isMp=false:=Blk.setAt_cel hm
      refine ahu hr hk (by cases k <;> cases cl <;> rfl) ?_ ?_
      ·cases k <;> cases cl <;> simp[nrmCL,Blk.setAt,Blk.len]
      ·intro g off hx
       rw[ELR_c,Blk.el_c]at hx ⊢
       have hels:∃ c,k.els[i']?=some c/\(k.setAt i' (nrmCL m cl)).els=k.els.set i' (acY m c):=by
        cases k with
        | pur z els=>
         simp only[Blk.at,Option.map_eq_some_iff]at hcl
         obtain⟨y,hy,rfl⟩:=hcl
         refine⟨y.map .v,by simp[Blk.els,hy],?_⟩
         simp only[nrmCL,Blk.setAt,Blk.els,List.map_set,ai7]
        | mix z els=>
         simp only[Blk.at,Option.map_eq_some_iff]at hcl
         obtain⟨y,hy,rfl⟩:=hcl
         exact⟨y,by simp[Blk.els,hy],by simp[nrmCL,Blk.setAt,Blk.els,CL.c]⟩
        | mp=>cases hcl
       obtain⟨c,hc1,hc2⟩:=hels
       rw[hc2]
       rw[CRe_iff]at hx ⊢
       intro q e hq
       rw[List.getElem?_set]at hq
       split at hq
       ·rename_i him
        subst him
        split at hq
        ·cases hq
         obtain⟨q1,q2⟩:=hx i' c hc1
         obtain⟨q3,q4⟩:=acL (m:=m) q2
         exact⟨by rw[q4,q1],q3⟩
        ·cases hq
       ·exact hx q e hq
     exact⟨Φ,ρ,stp2.toN hn,aaW stp2.ext hs⟩
    ·cases h
   ·cases h
  ·cases h
   exact⟨Φ,ρ,StpN.refl hr hn,hs⟩
  ·cases h
 | wk i=>
  simp only[ghost]at h
  split at h
  ·rename_i b sz n ha
   cases h
   refine⟨Φ,ρ,StpN.refl hr hn,aey hs (λv hv=>?_)⟩
   obtain⟨v',hv',hx⟩:=hs.2 i _ ha
   rw[hv]at hv';cases hv'
   simp only[AR]at hx ⊢
   exact amL (Φ:=Φ) hx
  ·cases h
   exact⟨Φ,ρ,StpN.refl hr hn,hs⟩
  ·cases h
theorem abn{np:Nat}{t:Array Value}:∀ {l:List Gh}{st st':St}{Φ:Phi}{ρ:Rho},ghosts np l st=some st'->SR Φ ρ st.h st.s t->HR Φ ρ st.h w->np<=st.h.length →
  ∃ Φ' ρ',StpN np Φ ρ st.h w Φ' ρ' st'.h w/\SR Φ' ρ' st'.h st'.s t
 | [],st,st',Φ,ρ,h,hs,hr,hn=>by
  simp only[ghosts,Option.some.injEq]at h
  subst h
  exact⟨Φ,ρ,StpN.refl hr hn,hs⟩
 | g::l,st,st',Φ,ρ,h,hs,hr,hn=>by
  simp only[ghosts]at h
  split at h
  ·rename_i st1 h1
   obtain⟨Φ1,ρ1,s1,r1⟩:=aly h1 hs hr hn
   obtain⟨Φ2,ρ2,s2,r2⟩:=abn h r1 s1.hr s1.ext.len.2
   exact⟨Φ2,ρ2,s1.trans s2,r2⟩
  ·cases h
end Go.Ev
