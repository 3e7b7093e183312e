import Derived.Test.YtganajogkdinaaaGreatEvAlo
import Derived.Laws.Append
set_option linter.all false
namespace Go.Ev
variable[Glo]
set_option linter.unusedSimpArgs false
variable{P:Program}{Φ:Phi}{ρ:Rho}{H:Heap}{s:List A}{a:Act}{w w':World}
theorem Blk.setAt_els(k:Blk)(i:Nat)(cl:CL):(k.setAt i cl).els=k.els.set i cl.c:=by
 cases k <;> cases cl <;> simp[Blk.setAt,Blk.els,CL.c,List.map_set]
theorem Blk.setAt_sz(k:Blk)(i:Nat)(cl:CL):(k.setAt i cl).sz=k.sz:=by cases k <;> cases cl <;> rfl
theorem Blk.setAt_len(k:Blk)(i:Nat)(cl:CL):(k.setAt i cl).len=k.len:=by cases k <;> cases cl <;> simp[Blk.setAt,Blk.len]
theorem Blk.els_len(k:Blk):k.els.length=k.len:=by cases k <;> simp[Blk.els,Blk.len]
theorem aiY{x:A}{cl:CL}{v:Value}(h:acD x=some cl)(hx:AR Φ ρ H x v):∀ u∈v.cells.toList,u.oneCell'=true:=by
 obtain⟨e1,e2⟩:=ab5 h hx
 rw[CLR_c]at e2
 intro u hu
 obtain⟨i,hi⟩:=List.mem_iff_getElem?.1 hu
 have hlt:i<cl.c.length:=by
  rw[CL.c_len,<-e1]
  have:=(List.getElem?_eq_some_iff.1 hi).1
  simpa using this
 obtain⟨v',hv',hr⟩:=aaz e2 (List.getElem?_eq_getElem hlt)
 simp only[Nat.zero_add]at hv'
 rw[Array.getElem?_toList]at hi
 rw[hi]at hv';cases hv'
 exact ad9 hr
theorem Blk.setAt_cel{k:Blk}{i:Nat}{cl:CL}(h:k.isMp=false):(k.setAt i cl).isMp=false:=by
 cases k <;> cases cl <;> first | rfl | exact h
theorem ak3{t:TypeId}{n:Nat}{x y:A}{v u:Value}{H':Heap}(hn:szOf P t=some n)(h:storeA H n x y=some H')(hx:AR Φ ρ H x v)(hy:AR Φ ρ H y u)(hr:HR Φ ρ H w) :
  ∃ w',(Instr.storeAt t v u).run P w = .ok () w'/\Stp Φ ρ H w Φ ρ H' w':=by
 unfold storeA at h
 split at h
 ·rename_i b _ i o cl hcl
  split at h
  ·rename_i hl
   split at h
   ·rename_i k hk
    split at h
    ·rename_i old hold
     split at h
     ·rename_i ho
      cases h
      simp only[AR,CR]at hx
      obtain⟨p,rfl,hb,h1⟩:=hx
      obtain⟨hs,inf,h2,rfl⟩:=h1 k hk
      have hm:=Blk.cel_at hold
      obtain⟨g1,arr,ty,fz,hw,g3,g4,g5,he⟩:=hr.own b k inf hk hm h2
      obtain⟨q1,q2,q3⟩:=akv he hold
      obtain⟨e1,e2⟩:=ab5 hcl hy
      have hone:=aiY hcl hy
      have hlen:u.cells.toList.length=n:=by simpa[hl]using e1
      have hbound:inf.base+i*k.sz+k.sz<=arr.size:=by
       have:=Nat.mul_le_mul_right k.sz q3
       rw[Nat.succ_mul]at this
       omega
      obtain⟨w',arr',r1,r2,r3,r4,r5,r6,r7⟩:=aaT (P:=P) (vs:=u.cells.toList) (i:=0) (off:=inf.base+i*k.sz+o) hw (by omega) g3.weak hone
      simp only[Nat.add_zero]at r6
      have ext:=abB (Φ:=Φ) (ρ:=ρ) (k':=k.setAt i (old.put o cl)) hk (Blk.setAt_sz _ _ _) (Blk.setAt_len _ _ _)
      refine⟨w',?_,acW (arr':=arr') hr hk h2 (Blk.setAt_sz _ _ _) (Blk.setAt_len _ _ _) r3 r2 r4 (by rw[r5];exact g3) (by omega) (aau ext ?_) r7 hm (Blk.setAt_cel hm)⟩
      ·simp only[Instr.storeAt,Instr.sureAddr,Sem.run_bind,Sem.run_pure,Result.andThen_ok,storeVar,aas hn]
       rw[if_neg (by omega),<-hs]
       exact r1
      ·rw[ELR_c,Blk.el_c,Blk.setAt_els,Blk.setAt_sz]
       rw[ELR_c,Blk.el_c]at he
       rw[CLR_c]at q2 e2
       have hX:CRs Φ ρ H (old.put o cl).c (arr'[·]?) (inf.base+i*k.sz):=by
        rw[CL.put_c,<-CL.c_len cl]
        refine aes (off:=o) q2 e2 (by rw[CL.c_len,CL.c_len];omega) ?_ ?_
        ·intro j hj
         rw[CL.c_len]at hj
         rw[r6,if_pos (by omega)]
         simp only[Nat.zero_add]
         rw[Array.getElem?_toList]
         congr 1;omega
        ·intro j hj ho'
         rw[CL.c_len]at hj ho'
         rw[r6,if_neg (by omega)]
       refine ajc he hX (by rw[CL.c_len,CL.put_len (by omega)];exact q1) (λj _=>rfl) ?_
       intro j hj ho'
       rw[r6,if_neg (by omega)]
     ·cases h
    ·cases h
   ·cases h
  ·cases h
 ·cases h
theorem ah7{L X:List (List C)}{sz i b b2:Nat}{g g2 g':Nat->Option Value}(hL:CRe Φ ρ H L sz g b)(hX:CRe Φ ρ H X sz g2 b2)(hi:i+X.length<=L.length)
  (h1:∀ j,j<X.length*sz->g' (b+i*sz+j)=g2 (b2+j)) (h2:∀ j,j<L.length*sz->(j<i*sz∨(i+X.length)*sz<=j)->g' (b+j)=g (b+j)) :
  CRe Φ ρ H (L.take i++X++L.drop (i+X.length)) sz g' b:=by
 refine CRe_iff.2 λm e hm=>?_
 have cellb:∀ {m j N:Nat},m<N->j<sz->m*sz+j<N*sz:=by
  intro m j N h h'
  have:=Nat.mul_le_mul_right sz h
  rw[Nat.succ_mul]at this
  omega
 rw[List.append_assoc,List.getElem?_append]at hm
 split at hm
 ·rename_i hlt
  rw[List.getElem?_take]at hm
  split at hm
  ·rename_i hmi
   obtain⟨q1,q2⟩:=CRe_iff.1 hL m e hm
   refine⟨q1,CRs_iff.2 λj x hj=>?_⟩
   obtain⟨v,hv,hr⟩:=aaz q2 hj
   have hjl:j<e.length:=(List.getElem?_eq_some_iff.1 hj).1
   have hml:m<L.length:=(List.getElem?_eq_some_iff.1 hm).1
   refine⟨v,?_,hr⟩
   rw[Nat.add_assoc,h2 (m*sz+j) (cellb hml (by omega)) (.inl (cellb hmi (by omega))),<-Nat.add_assoc]
   exact hv
  ·cases hm
 ·rename_i hge
  simp only[List.length_take]at hge hm
  rw[Nat.min_eq_left (by omega)]at hge hm
  rw[List.getElem?_append]at hm
  split at hm
  ·rename_i hlt
   obtain⟨q1,q2⟩:=CRe_iff.1 hX _ e hm
   refine⟨q1,CRs_iff.2 λj x hj=>?_⟩
   obtain⟨v,hv,hr⟩:=aaz q2 hj
   have hjl:j<e.length:=(List.getElem?_eq_some_iff.1 hj).1
   refine⟨v,?_,hr⟩
   have:=h1 ((m-i)*sz+j) (cellb hlt (by omega))
   have hmul:i*sz+(m-i)*sz=m*sz:=by rw[<-Nat.add_mul];congr 1;omega
   rw[show b+i*sz+((m-i)*sz+j)=b+m*sz+j from by omega]at this
   rw[this,<-Nat.add_assoc];exact hv
  ·rename_i hge2
   rw[List.getElem?_drop]at hm
   have hml:i+X.length+(m-i-X.length)<L.length:=(List.getElem?_eq_some_iff.1 hm).1
   rw[show i+X.length+(m-i-X.length)=m from by omega]at hm hml
   obtain⟨q1,q2⟩:=CRe_iff.1 hL m e hm
   refine⟨q1,CRs_iff.2 λj x hj=>?_⟩
   obtain⟨v,hv,hr⟩:=aaz q2 hj
   have hjl:j<e.length:=(List.getElem?_eq_some_iff.1 hj).1
   refine⟨v,?_,hr⟩
   have:(i+X.length)*sz<=m*sz:=Nat.mul_le_mul_right _ (by omega)
   rw[Nat.add_assoc,h2 (m*sz+j) (cellb hml (by omega)) (.inr (by omega)),<-Nat.add_assoc]
   exact hv
theorem aeb{L X:List (List C)}{sz b b2 b':Nat}{g g2 g':Nat->Option Value}(hL:CRe Φ ρ H L sz g b)(hX:CRe Φ ρ H X sz g2 b2)
  (h0:∀ j,j<L.length*sz->g' (b'+j)=g (b+j)) (h1:∀ j,j<X.length*sz->g' (b'+L.length*sz+j)=g2 (b2+j)):CRe Φ ρ H (L++X) sz g' b':=by
 refine CRe_iff.2 λm e hm=>?_
 have cellb:∀ {m j N:Nat},m<N->j<sz->m*sz+j<N*sz:=by
  intro m j N h h'
  have:=Nat.mul_le_mul_right sz h
  rw[Nat.succ_mul]at this
  omega
 rw[List.getElem?_append]at hm
 split at hm
 ·rename_i hlt
  obtain⟨q1,q2⟩:=CRe_iff.1 hL m e hm
  refine⟨q1,CRs_iff.2 λj x hj=>?_⟩
  obtain⟨v,hv,hr⟩:=aaz q2 hj
  have hjl:j<e.length:=(List.getElem?_eq_some_iff.1 hj).1
  refine⟨v,?_,hr⟩
  rw[Nat.add_assoc,h0 _ (cellb hlt (by omega)),<-Nat.add_assoc]
  exact hv
 ·rename_i hge
  obtain⟨q1,q2⟩:=CRe_iff.1 hX _ e hm
  have hml:m-L.length<X.length:=(List.getElem?_eq_some_iff.1 hm).1
  refine⟨q1,CRs_iff.2 λj x hj=>?_⟩
  obtain⟨v,hv,hr⟩:=aaz q2 hj
  have hjl:j<e.length:=(List.getElem?_eq_some_iff.1 hj).1
  refine⟨v,?_,hr⟩
  have:=h1 ((m-L.length)*sz+j) (cellb hml (by omega))
  have hmul:L.length*sz+(m-L.length)*sz=m*sz:=by rw[<-Nat.add_mul];congr 1;omega
  rw[show b'+L.length*sz+((m-L.length)*sz+j)=b'+m*sz+j from by omega]at this
  rw[this,<-Nat.add_assoc];exact hv
theorem EL.over_c{e:EL}{i:Nat}{x:EL}:(e.over i x).c=e.c.take i++x.c++e.c.drop (i+x.c.length):=by
 simp only[EL.over,EL.app_c,EL.mid_c,List.drop_zero,List.append_assoc,EL.c_len]
 congr 2
 rw[List.take_of_length_le]
 rw[List.length_drop,EL.c_len];omega
theorem EL.over_len{e:EL}{i:Nat}{x:EL}(h:i+x.len<=e.len):(e.over i x).len=e.len:=by
 rw[<-EL.c_len,EL.over_c]
 simp only[List.length_append,List.length_take,List.length_drop,EL.c_len]
 omega
theorem adQ{b:Nat}{k k':Blk}(hr:HR Φ ρ H w)(hk:live H b=some k)(h1:k'.sz=k.sz)(h2:k'.els=k.els)(hm:k.isMp=false)(hm':k'.isMp=false):Stp Φ ρ H w Φ ρ (H.set b (some k')) w:=by
 have hlen:k'.len=k.len:=by rw[<-Blk.els_len,h2,Blk.els_len]
 have ext:=abB (Φ:=Φ) (ρ:=ρ) hk h1 hlen
 have get:∀ b' x,live (H.set b (some k')) b'=some x->∃ y,live H b'=some y:=by
  intro b' x hx
  by_cases hbb:b'=b
  ·subst hbb;exact⟨k,hk⟩
  ·rw[aah hbb]at hx;exact⟨x,hx⟩
 refine⟨ext,⟨hr.fro,?_,?_,hr.glo,?_⟩,λ_ _ _=>rfl,?_,λ_ _ h=>.inl h,Nat.le_refl _,.refl _⟩
 ·intro b' x inf' hx hmx hρ'
  by_cases hbb:b'=b
  ·subst hbb
   rw[aao hk]at hx;cases hx
   obtain⟨g1,arr,ty',fz',g2,g3,g4,g5,g6⟩:=hr.own b' k inf' hk hm hρ'
   refine⟨g1,arr,ty',fz',g2,g3,g4,by rw[h1,hlen];exact g5,aau ext ?_⟩
   rw[ELR_c,Blk.el_c]at g6 ⊢
   rw[h1,h2];exact g6
  ·rw[aah hbb]at hx
   obtain⟨g1,arr,ty',fz',g2,g3,g4,g5,g6⟩:=hr.own b' x inf' hx hmx hρ'
   exact⟨g1,arr,ty',fz',g2,g3,g4,g5,aau ext g6⟩
 ·intro b1 b2 k1 k2 i1 i2 l1 l2 r1 r2 e
  obtain⟨y1,hy1⟩:=get _ _ l1
  obtain⟨y2,hy2⟩:=get _ _ l2
  exact hr.inj b1 b2 y1 y2 i1 i2 hy1 hy2 r1 r2 e
 ·intro b' kk es inf' hx hρ'
  by_cases hbb:b'=b
  ·subst hbb
   rw[aao hk]at hx;cases hx;cases hm'
  ·rw[aah hbb]at hx
   exact hr.mps b' kk es inf' hx hρ'
 ·rintro c ⟨b',x,inf',hx,hρ',rfl⟩
  obtain⟨y,hy⟩:=get _ _ hx
  exact .inl ⟨b',y,inf',hy,hρ',rfl⟩
theorem aeQ{b:Nat}{k:Blk}{inf:Inf}{x:EL}{vs:List Value}{i:Nat}(hr:HR Φ ρ H w)(hk:live H b=some k)(hρ:ρ b=some inf)(hl:vs.length=x.len*k.sz)(he:ELR Φ ρ H x k.sz (vs[·]?) 0)
  (h1:∀ u∈vs,u.oneCell'=true) (hi:i+x.len<=k.len) (hm:k.isMp=false) :
  ∃ w',(storeCells ⟨inf.c,inf.base+i*k.sz,none⟩ vs).run P w = .ok () w'/\Stp Φ ρ H w Φ ρ (H.set b (some ((k.el.over i x).blk k.sz))) w':=by
 obtain⟨g1,arr,ty,fz,hw,g3,g4,g5,he0⟩:=hr.own b k inf hk hm hρ
 have hmul:(i+x.len)*k.sz<=k.len*k.sz:=Nat.mul_le_mul_right _ hi
 rw[Nat.add_mul]at hmul
 obtain⟨w',arr',r1,r2,r3,r4,r5,r6,r7⟩:=aaT (P:=P) (vs:=vs) (i:=0) (off:=inf.base+i*k.sz) hw (by omega) g3.weak h1
 simp only[Nat.add_zero]at r6
 have hlen:((k.el.over i x).blk k.sz).len=k.len:=by rw[EL.blk_len,EL.over_len (by rw[Blk.el_len];exact hi),Blk.el_len]
 have ext:=abB (Φ:=Φ) (ρ:=ρ) (k':=(k.el.over i x).blk k.sz) hk (EL.blk_sz _ _) hlen
 refine⟨w',r1,acW (arr':=arr') hr hk hρ (EL.blk_sz _ _) hlen r3 r2 r4 (by rw[r5];exact g3) (by omega) (aau ext ?_) r7⟩
 rw[EL.blk_el,EL.blk_sz,ELR_c,EL.over_c]
 rw[ELR_c]at he0 he
 refine ah7 he0 he (by rw[EL.c_len,EL.c_len,Blk.el_len];exact hi) ?_ ?_
 ·intro j hj
  rw[EL.c_len]at hj
  rw[r6,if_pos (by omega)]
  simp only[Nat.zero_add]
  congr 1;omega
 ·intro j hj ho
  rw[EL.c_len,Nat.add_mul]at ho
  rw[r6,if_neg (by omega)]
theorem ali{sz:Nat}{x:A}{e:EL}{v:Value}{r:A}{H':Heap}{vs:List Value}{ty t el:TypeId}{ts:Array TypeId}{args:Array Value}{u:Value}(h:ajU H sz x e=some (r,H'))
  (hx:AR Φ ρ H x v) (hr:HR Φ ρ H w) (hu:P.underlying t=some (.slice el)) (hsz:szOf P el=some sz)
  (e1:vs.length=e.len*sz) (e2:ELR Φ ρ H e sz (vs[·]?) 0) (e3:∀ u∈vs,u.oneCell'=true) (e4:(Builtin.lenOf u).run P w = .ok e.len w)
  (e5:∀ m,m<=e.len->(Builtin.firstCells sz m u).run P w = .ok (vs.take (m*sz)).toArray w) (hz0:0<sz) (ht:ts[0]?=some t) (h0:args[0]?=some v) (h1:args[1]?=some u) :
  ∃ z w',(Builtin.copy_ ts ty args).run P w = .ok z w'/\Stp Φ ρ H w Φ ρ H' w'/\AR Φ ρ H' r z:=by
 have main:∀ {b i n k0:Nat}{k:Blk}{p:Option Addr},live H b=some k->k.sz=sz->v = .slice p n k0->i+n<=k.len →
   ((n=0/\k0=0) ∨ ∃ inf,ρ b=some inf/\p=some ⟨inf.c,inf.base+i*sz,none⟩) →
   H'=H.set b (some ((k.el.over i (e.mid 0 (min e.len n))).blk sz))->r = .int .i64 (min e.len n:Nat) →
   ∃ z w',(Builtin.copy_ ts ty args).run P w = .ok z w'/\Stp Φ ρ H w Φ ρ H' w'/\AR Φ ρ H' r z:=by
  intro b i n k0 k p hk hks hv hin hp hH hrr
  subst hv;subst hH;subst hrr;subst hks
  have hpre:∀ q:Sem Value,q=Builtin.copy_ ts ty args->q.run P w=((match p with
    | some a=>storeCells a (vs.take (min e.len n*k.sz)) | none=>pure ():Sem Unit).run P w).andThen λ_ w'=>.ok (goInt (min e.len n:Nat)) w':=by
   rintro q rfl
   simp only[Builtin.copy_,ht,h0,h1,Sem.run_bind,aaf hu,Result.andThen_ok,aas hsz,e4]
   have:Nat.min e.len n=min e.len n:=rfl
   rw[this,e5 _ (Nat.min_le_left _ _)]
   simp only[Result.andThen_ok]
   cases p with
   | none=>rfl
   | some ad=>simp only[Sem.run_bind,Sem.run_pure]
  have hmidlen:(e.mid 0 (min e.len n)).len=min e.len n:=by rw[EL.mid_len];omega
  rcases hp with⟨hn,hk0⟩ | ⟨inf,hi,hp⟩
  ·subst hn
   refine⟨goInt (min e.len 0:Nat),w,?_,adQ hr hk (EL.blk_sz _ _) ?_ (Blk.cel hz0) (EL.blk_cel _ _),by simp[AR,CR,FVR,goInt]⟩
   ·rw[hpre _ rfl]
    cases p <;> simp[storeCells]
   ·rw[<-Blk.el_c,EL.blk_el,EL.over_c,<-Blk.el_c]
    have:(e.mid 0 (min e.len 0)).c=[]:=List.eq_nil_of_length_eq_zero (by rw[EL.c_len,hmidlen];omega)
    rw[this];simp
  ·subst hp
   obtain⟨w',q1,q2⟩:=aeQ (P:=P) (x:=e.mid 0 (min e.len n)) (vs:=vs.take (min e.len n*k.sz)) (i:=i) hr hk hi
    (by rw[List.length_take,hmidlen,e1];exact Nat.min_eq_left (Nat.mul_le_mul_right _ (Nat.min_le_left _ _)))
    (by
     have:=ade (i:=0) (n:=min e.len n) e2
     rw[ELR_c]at this ⊢
     refine CRe_iff.2 λm x hm=>?_
     obtain⟨z1,z2⟩:=CRe_iff.1 this m x hm
     refine⟨z1,CRs_iff.2 λj y hj=>?_⟩
     obtain⟨v,hv,hr⟩:=aaz z2 hj
     have hjl:j<x.length:=(List.getElem?_eq_some_iff.1 hj).1
     have hml:m<(e.mid 0 (min e.len n)).c.length:=(List.getElem?_eq_some_iff.1 hm).1
     rw[EL.c_len,hmidlen]at hml
     have hb:=Nat.mul_le_mul_right k.sz hml
     rw[Nat.succ_mul]at hb
     refine⟨v,?_,hr⟩
     rw[List.getElem?_take,if_pos (by omega),<-hv]
     simp)
    (λu hu=>e3 u (List.mem_of_mem_take hu)) (by rw[hmidlen];omega) (Blk.cel hz0)
   refine⟨goInt (min e.len n:Nat),w',?_,q2,by simp[AR,CR,FVR,goInt]⟩
   rw[hpre _ rfl,q1]
   rfl
 unfold ajU at h
 split at h
 ·rename_i b z n
  split at h
  ·rename_i hz
   split at h
   ·rename_i k hk
    simp only[Option.some.injEq,Prod.mk.injEq]at h
    simp only[AR,CR]at hx
    obtain⟨p,k0,hv,hc,hpn,hb,h1⟩:=hx
    obtain⟨g1,g2,g4⟩:=h1 k hk
    refine main (i:=0) hk (g1.trans hz) hv (by omega) ?_ h.2.symm h.1.symm
    rcases g4 with g4 | ⟨inf,g4,g5,_⟩
    ·exact .inl g4
    ·exact .inr ⟨inf,g4,by simpa using g5⟩
   ·cases h
  ·cases h
 ·rename_i b z i n _
  split at h
  ·rename_i hz
   split at h
   ·rename_i k hk
    simp only[Option.some.injEq,Prod.mk.injEq]at h
    simp only[AR,CR]at hx
    obtain⟨p,k0,hv,hc,hpn,hb,h1⟩:=hx
    obtain⟨g1,g2,g3,g4⟩:=h1 k hk
    refine main (i:=i) hk (g1.trans hz) hv g2 ?_ h.2.symm h.1.symm
    rcases g4 with g4 | ⟨inf,g4,g5,_⟩
    ·exact .inl g4
    ·exact .inr ⟨inf,g4,by subst hz;exact g5⟩
   ·cases h
  ·cases h
 ·cases h
theorem ajW{sz:Nat}{z z0:List FV}{m:List (Option Nat)}{x:A}{v:Value}{r:A}{H':Heap}{ty t el:TypeId}{ts:Array TypeId}{args:Array Value}(h:agd H sz z x=some (r,H'))
  (hx:AR Φ ρ H x v) (hr:HR Φ ρ H w) (hu:P.underlying t=some (.slice el)) (hz0:acn P el=some z0) (h0:0<sz) (hl0:z0.length=sz) (hzz:z=nrmL m z0) (ht:ts[0]?=some t) (ha:args[0]?=some v) :
  ∃ w',(Builtin.clear_ ts ty args).run P w = .ok (.tuple #[]) w'/\Stp Φ ρ H w Φ ρ H' w'/\AR Φ ρ H' r (.tuple #[]):=by
 have main:∀ {b i n k0:Nat}{k:Blk}{p:Option Addr},live H b=some k->k.sz=sz->v = .slice p n k0->i+n<=k.len →
   ((n=0/\k0=0) ∨ ∃ inf,ρ b=some inf/\p=some ⟨inf.c,inf.base+i*sz,none⟩) →
   H'=H.set b (some ((k.el.over i (.p (List.replicate n z))).blk sz))->r = .tup [] →
   ∃ w',(Builtin.clear_ ts ty args).run P w = .ok (.tuple #[]) w'/\Stp Φ ρ H w Φ ρ H' w'/\AR Φ ρ H' r (.tuple #[]):=by
  intro b i n k0 k p hk hks hv hin hp hH hrr
  subst hv;subst hH;subst hrr;subst hks
  have hR:AR Φ ρ (H.set b (some ((k.el.over i (.p (List.replicate n z))).blk k.sz))) (.tup []) (.tuple #[]):=by simp only[AR];exact⟨#[],rfl,by simp[ARs]⟩
  rcases hp with⟨hn,hk0⟩ | ⟨inf,hi,hp⟩
  ·subst hn
   refine⟨w,?_,adQ hr hk (EL.blk_sz _ _) ?_ (Blk.cel h0) (EL.blk_cel _ _),hR⟩
   ·simp only[Builtin.clear_,ht,ha,Sem.run_bind,aaf hu,Result.andThen_ok]
    cases p <;> simp[Sem.run_pure,Sem.run_bind]
   ·rw[<-Blk.el_c,EL.blk_el,EL.over_c,<-Blk.el_c]
    simp[EL.c]
  ·subst hp
   obtain⟨zv,z1,z2,z3⟩:=abS (Φ:=Φ) hz0
   obtain⟨z3,z4⟩:=acx (m:=m) z3
   rw[<-hzz]at z3 z4
   have hl:z.length=k.sz:=z4.trans hl0
   rw[<-z4]at z2
   obtain⟨q1,q2⟩:=aeZ (n:=n) z2 z3 (by omega)
   have hcells:(Builtin.zeroCells zv.cells n).toList.length=n*k.sz:=by simp[Builtin.zeroCells,z2,hl]
   obtain⟨w',r1,r2⟩:=aeQ (P:=P) (x:=.p (List.replicate n z)) (vs:=(Builtin.zeroCells zv.cells n).toList) (i:=i) hr hk hi
    (by rw[hcells];simp[EL.len])
    (by
     have e:Builtin.zeroCells zv.cells n=(Array.range (n*z.length)).map (zv.cells[· % zv.cells.size]!):=by simp only[Builtin.zeroCells,z2]
     simp only[ELR]
     rw[e,<-hl]
     have:∀ (arr:Array Value),(λx=>arr.toList[x]?)=λx=>arr[x]?:=λarr=>funext λx=>Array.getElem?_toList
     rw[this]
     exact q2)
    (by
     intro u hu
     simp only[Builtin.zeroCells,Array.toList_map,List.mem_map]at hu
     obtain⟨j,hj,rfl⟩:=hu
     have hpos:0<zv.cells.size:=by rw[z2];omega
     have hlt:=Nat.mod_lt j hpos
     obtain⟨y,hy⟩:∃ y,z[j % zv.cells.size]?=some y:=⟨_,List.getElem?_eq_getElem (by rw[<-z2];exact hlt)⟩
     obtain⟨q,hq,hq2⟩:=aaU z3 hy
     simp only[Nat.zero_add]at hq
     have:zv.cells[j % zv.cells.size]! = q:=by
      rw[Array.getElem!_eq_getD,Array.getD_eq_getD_getElem?,hq];rfl
     rw[this]
     exact aeW hq2)
    (by simpa[EL.len]using hin) (Blk.cel h0)
   refine⟨w',?_,r2,hR⟩
   simp only[Builtin.clear_,ht,ha,Sem.run_bind,aaf hu,Result.andThen_ok]
   cases n with
   | zero=>
    simp only[Sem.run_pure,Result.andThen_ok]
    simp[Builtin.zeroCells,storeCells]at r1
    rw[r1]
   | succ n=>simp only[Sem.run_bind,z1,Result.andThen_ok,r1,Sem.run_pure]
 unfold agd at h
 split at h
 ·rename_i b z n
  split at h
  ·rename_i hz
   split at h
   ·rename_i k hk
    simp only[Option.some.injEq,Prod.mk.injEq]at h
    simp only[AR,CR]at hx
    obtain⟨p,k0,hv,hc,hpn,hb,h1⟩:=hx
    obtain⟨g1,g2,g4⟩:=h1 k hk
    refine main (i:=0) hk (g1.trans hz) hv (by omega) ?_ h.2.symm h.1.symm
    rcases g4 with g4 | ⟨inf,g4,g5,_⟩
    ·exact .inl g4
    ·exact .inr ⟨inf,g4,by simpa using g5⟩
   ·cases h
  ·cases h
 ·rename_i b z i n _
  split at h
  ·rename_i hz
   split at h
   ·rename_i k hk
    simp only[Option.some.injEq,Prod.mk.injEq]at h
    simp only[AR,CR]at hx
    obtain⟨p,k0,hv,hc,hpn,hb,h1⟩:=hx
    obtain⟨g1,g2,g3,g4⟩:=h1 k hk
    refine main (i:=i) hk (g1.trans hz) hv g2 ?_ h.2.symm h.1.symm
    rcases g4 with g4 | ⟨inf,g4,g5,_⟩
    ·exact .inl g4
    ·exact .inr ⟨inf,g4,by subst hz;exact g5⟩
   ·cases h
  ·cases h
 ·cases h
end Go.Ev
