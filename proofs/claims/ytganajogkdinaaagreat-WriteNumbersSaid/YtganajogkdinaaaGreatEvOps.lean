import Derived.Test.YtganajogkdinaaaGreatEvRen
set_option linter.all false
namespace Go.Ev
variable[Glo]
set_option linter.unusedSimpArgs false
variable{P:Program}{Φ:Phi}{ρ:Rho}{H:Heap}{s:List A}{a:Act}{w w':World}
theorem amT{o:Oper}{r:A}{H':Heap}{src dst:TypeId}{x:Operand}(ho:o.op = .convert src dst x)(h:eff P s H o.op=some (r,H'))(hs:SR Φ ρ H s a.tmps)(hr:HR Φ ρ H w) :
  H'=H/\∃ w' z,(execOp a.eval o).run P w = .ok (.value z) w'/\Stp Φ ρ H w Φ ρ H w'/\AR Φ ρ H r z:=by
 have hO:∀ x,AR Φ ρ H (opd s x) (a.eval x):=aaN hs
 have val_run':∀ {x:Sem Value}{z:Value}{w w':World},x.run P w = .ok z w'->(do pure (.value (<-x)):Sem Next).run P w = .ok (.value z) w':=by
  intro x z w w' h
  rw[Sem.run_bind,h];rfl
 rw[ho]at h
 simp only[eff]at h
 split at h
 ·rename_i e b z n hd hx
  split at h
  ·rename_i k he hk
   split at h
   ·rename_i hc
    obtain⟨rfl,hn⟩:=hc
    simp only[Option.some.injEq,Prod.mk.injEq]at h
    obtain⟨rfl,rfl⟩:=h
    have hX:=hO x
    rw[hx]at hX
    have hX':=hX
    simp only[AR,CR]at hX
    obtain⟨p,k',hv,hk',hpn,hb,h1⟩:=hX
    obtain⟨g1,g2,g4⟩:=h1 k hk
    rcases g4 with⟨g4,g5⟩ | ⟨inf,g4,g5,g6⟩
    ·omega
    ·subst g5
     have hm:k.isMp=false:=Blk.cel_len (by omega)
     obtain⟨f1,arr,ty,fz,hw,f3,f4,f5,f6⟩:=hr.own b k inf hk hm g4
     have hw2:(w.freeze ⟨inf.c,arr.size,none⟩ 1).heap[inf.c]?=some (.cells arr ty (if fz.1 == fz.2 then(arr.size,arr.size+1)else(min fz.1 arr.size,max fz.2 (arr.size+1)))):=by
      simp only[World.freeze,Nat.one_ne_zero,if_false,Array.getElem?_modify]
      rw[hw]
      rfl
     have hf:fzOk arr.size (if fz.1 == fz.2 then(arr.size,arr.size+1)else(min fz.1 arr.size,max fz.2 (arr.size+1))):=by
      by_cases hq:fz.1=fz.2
      ·simp only[hq,beq_self_eq_true,if_true];exact .inr (Nat.le_refl _)
      ·rw[if_neg (by simpa using hq)]
       rcases f3 with f3 | f3
       ·exact absurd f3 hq
       ·refine .inr ?_
        simp only
        omega
     have hold:∀ d,d≠inf.c->(w.freeze ⟨inf.c,arr.size,none⟩ 1).heap[d]?=w.heap[d]?:=by
      intro d hd
      simp only[World.freeze,Nat.one_ne_zero,if_false,Array.getElem?_modify]
      rw[if_neg (λh=>hd h.symm)]
     have hset:H.set b (some k)=H:=by
      unfold live at hk
      split at hk
      ·rename_i k0 hb0
       cases hk
       apply List.ext_getElem?
       intro j
       rw[List.getElem?_set]
       by_cases hj:b=j
       ·subst hj;rw[if_pos rfl,if_pos hb];exact hb0.symm
       ·rw[if_neg hj]
      ·cases hk
     have st:=acW (arr':=arr) (k':=k) (w':=w.freeze ⟨inf.c,arr.size,none⟩ 1) hr hk g4 rfl rfl hold (aec _ (.cells arr ty) _ _) hw2 hf f4 (by rw[hset];exact f6) ⟨rfl,rfl,rfl⟩
     rw[hset]at st
     refine⟨rfl,w.freeze ⟨inf.c,arr.size,none⟩ 1,a.eval x,?_,st,hX'⟩
     simp only[execOp,ho]
     refine val_run' ?_
     have hsh:World.shape? w inf.c=some (ty,arr.size):=by simp only[World.shape?,hw]
     simp only[convert,Sem.run_bind,aaf hd,Result.andThen_ok,hv,aaf he,beq_self_eq_true,Sem.run_pure,markStringish,run_shape]
     show((match World.shape? w inf.c with
      | some (_,n)=>freeze { block:=inf.c,off:=n } 1
      |_=>pure ():Sem Unit).run P w).andThen _=_
     rw[hsh]
     rfl
   ·cases h
  ·cases h
 ·cases h
theorem amW{o:Oper}{r:A}{H':Heap}(h:eff P s H o.op=some (r,H'))(hs:SR Φ ρ H s a.tmps)(hr:HR Φ ρ H w) :
  ∃ nx w' ρ' z,(execOp a.eval o).run P w = .ok nx w'/\(nx = .value z∨nx = .skip/\z=undef)/\Stp Φ ρ H w Φ ρ' H' w'/\AR Φ ρ' H' r z:=by
 have hO:∀ x,AR Φ ρ H (opd s x) (a.eval x):=aaN hs
 have val_run':∀ {x:Sem Value}{z:Value}{w w':World},x.run P w = .ok z w'->(do pure (.value (<-x)):Sem Next).run P w = .ok (.value z) w':=by
  intro x z w w' h
  rw[Sem.run_bind,h];rfl
 unfold eff at h
 split at h
 ·rename_i t x y ho
  split at h
  ·rename_i n hn
   simp only[Option.map_eq_some_iff,Prod.mk.injEq]at h
   obtain⟨h',hst,rfl,rfl⟩:=h
   obtain⟨w',r1,r2⟩:=ak3 hn hst (hO x) (hO y) hr
   refine⟨.skip,w',ρ,undef,?_,.inr ⟨rfl,rfl⟩,r2,?_⟩
   ·simp only[execOp,ho,Sem.run_bind,r1,Result.andThen_ok];rfl
   ·simp only[AR];exact⟨#[],rfl,by simp[ARs]⟩
  ·cases h
 ·rename_i args ts ho
  split at h
  ·rename_i t t2 x y ht ht2 hx hy
   split at h
   ·rename_i e he
    have hu:=aa2 he
    split at h
    ·rename_i sz bytes hsz hby
     split at h
     ·rename_i hc
      obtain⟨h0,hz⟩:=hc
      have hz':∃ z,acn P e=some z/\z.length=sz:=by
       unfold zOk at hz
       split at hz
       ·rename_i z hz';exact⟨z,hz',by simpa using hz⟩
       ·cases hz
      split at h
      ·rename_i new hnew
       have hap:∃ vs,Ap P Φ ρ H w ts (args.map a.eval) o.type e sz bytes new vs (a.eval x):=by
        unfold appNew at hnew
        split at hnew
        ·rename_i kt hd
         split at hnew
         ·rename_i kd m z hm hzz
          split at hnew
          ·rename_i hcc
           cases hnew
           have hy':=hO y
           rw[hm]at hy'
           simp only[AR,CR,FVR]at hy'
           obtain⟨z2,e1,e2⟩:=hz'
           rw[hzz]at e1;cases e1
           exact Ap.zeros (t:=t) (t2:=t2) (kd:=kd) ⟨ht,ht2,abb hx,by rw[abb hy,hy'],hu,⟨kt,hd⟩,hsz,hby,hzz,e2,h0,hcc.1,hcc.2⟩
          ·cases hnew
         ·cases hnew
        ·rename_i d hni hd
         obtain⟨vs,hsrc⟩:=Src.of (P:=P) hnew (hO y) hr h0
         exact⟨vs,Ap.of (t:=t) (t2:=t2) ⟨ht,ht2,abb hx,abb hy,hu,⟨d,hd,λk hk=>hni k (by rw[hk])⟩,hsz,hby,hz'⟩ hsrc⟩
        ·cases hnew
       obtain⟨vs,hap⟩:=hap
       obtain⟨z,w',ρ',r1,r2,r3⟩:=aim (ty:=o.type) h (hO x) hr hap h0
       exact⟨.value z,w',ρ',z,by rw[aaE ho];exact val_run' r1,.inl rfl,r2,r3⟩
      ·cases h
     ·cases h
    ·cases h
   ·cases h
  ·cases h
 ·rename_i args ts ho
  split at h
  ·rename_i t x y ht hx hy
   split at h
   ·rename_i e he
    have hu:=aa2 he
    split at h
    ·rename_i sz hsz
     split at h
     ·rename_i h0
      split at h
      ·rename_i new hnew
       obtain⟨vs,e1,e2,e3,e4,e5⟩:=ags (P:=P) hnew (hO y) hr h0
       obtain⟨z,w',r1,r2,r3⟩:=ali (P:=P) (ty:=o.type) (ts:=ts) (args:=args.map a.eval) h (hO x) hr hu hsz e1 e2 e3 e4 (e5 w rfl) h0 ht (abb hx) (abb hy)
       exact⟨.value z,w',ρ,z,by rw[aaE ho];exact val_run' r1,.inl rfl,r2,r3⟩
      ·cases h
     ·cases h
    ·cases h
   ·cases h
  ·cases h
 ·rename_i args ts ho
  split at h
  ·rename_i t x ht hx
   split at h
   ·rename_i e he
    have hu:=aa2 he
    split at h
    ·rename_i sz z hsz hz
     split at h
     ·rename_i h0
      obtain⟨w',r1,r2,r3⟩:=ajW (P:=P) (ty:=o.type) (ts:=ts) (args:=args.map a.eval) h (hO x) hr hu hz h0.1 h0.2 rfl ht (abb hx)
      exact⟨.value (.tuple #[]),w',ρ,.tuple #[],by rw[aaE ho];exact val_run' r1,.inl rfl,r2,r3⟩
     ·cases h
    ·cases h
   ·cases h
  ·cases h
 ·rename_i t ho
  split at h
  ·rename_i kk z ht
   simp only[Option.some.injEq,Prod.mk.injEq]at h
   obtain⟨rfl,rfl⟩:=h
   refine⟨.value (.map (some w.heap.size)),_,_,.map (some w.heap.size),?_,.inl rfl,aiC (kk:=kk) hr,?_⟩
   ·simp only[execOp,ho]
    refine val_run' ?_
    rfl
   ·simp only[AR,CR]
    refine⟨_,rfl,by simp,λk hk=>?_⟩
    exact⟨_,upd_self,rfl⟩
  ·cases h
 ·rename_i t m x ok ho
  simp only[Option.map_eq_some_iff,Prod.mk.injEq]at h
  obtain⟨r',h,rfl,rfl⟩:=h
  obtain⟨z,g1,g2⟩:=ame ho h hs hr
  exact⟨.value z,w,ρ,z,g1,.inl rfl,Stp.refl hr,g2⟩
 ·rename_i t m x y ho
  split at h
  ·rename_i kk z b k v ht hm hx hy
   split at h
   ·rename_i kk' es hk
    split at h
    ·rename_i hc
     obtain⟨rfl,hkey⟩:=hc
     simp only[Option.some.injEq,Prod.mk.injEq]at h
     obtain⟨rfl,rfl⟩:=h
     have rm:=hO m
     have rx:=hO x
     have ry:=hO y
     rw[hm]at rm
     rw[hx]at rx
     rw[hy]at ry
     simp only[AR,CR]at rm rx ry
     obtain⟨c,rm,_,h1⟩:=rm
     obtain⟨inf,g1,rfl⟩:=h1 _ hk
     obtain⟨_,l,q,g2,g3⟩:=hr.mps b kk es inf hk g1
     obtain⟨l',q',r1,r2⟩:=agq ht hkey rx ry g2 g3
     refine⟨.skip,{ w with heap:=w.heap.setIfInBounds inf.c (.map l' q') },ρ,undef,?_,.inr ⟨rfl,rfl⟩,anP hr hk g1 r2,?_⟩
     ·simp only[execOp,ho,Sem.run_bind,rm,r1,Result.andThen_ok];rfl
     ·simp only[AR];exact⟨#[],rfl,by simp[ARs]⟩
    ·cases h
   ·cases h
  ·cases h
 ·rename_i src dst x ho
  have h':eff P s H o.op=some (r,H'):=by
   rw[ho]
   unfold eff
   exact h
  obtain⟨rfl,w',z,g1,g2,g3⟩:=amT ho h' hs hr
  exact⟨.value z,w',ρ,z,g1,.inl rfl,g2,g3⟩
 ·cases h
theorem agR:∀ {l m:List A}{vs us:List Value},ARs Φ ρ H l vs->ARs Φ ρ H m us->ARs Φ ρ H (l++m) (vs++us)
 | [],m,vs,us,h,h'=>by simp only[ARs]at h;subst h;simpa using h'
 | x::l,m,vs,us,h,h'=>by
  simp only[ARs]at h
  obtain⟨v,vs',rfl,h1,h2⟩:=h
  simp only[List.cons_append,ARs]
  exact⟨v,_,rfl,h1,agR h2 h'⟩
theorem acE:∀ {l:List C}{vs:List Value}{q:Nat->Option Value}{off:Nat},CRs Φ ρ H l q off->l.length=vs.length->(∀ i,i<vs.length->q (off+i)=vs[i]?)->ARs Φ ρ H (l.map .c) vs
 | [],vs,_,_,_,hl,_=>by
  cases vs with
  | nil=>simp[ARs]
  | cons=>simp at hl
 | x::l,vs,q,off,h,hl,hq=>by
  cases vs with
  | nil=>simp at hl
  | cons v vs=>
   simp only[CRs]at h
   obtain⟨⟨u,h1,h2⟩,h3⟩:=h
   have:=hq 0 (by simp)
   simp only[Nat.add_zero,List.getElem?_cons_zero]at this
   rw[h1]at this;cases this
   simp only[List.map_cons,ARs]
   refine⟨_,vs,rfl,h2,acE h3 (by simpa using hl) (λi hi=>?_)⟩
   have:=hq (i+1) (by simpa using hi)
   rwa[show off+1+i=off+(i+1)from by omega]
theorem agO{cf:aaj}(hcf:aa7 P cf){o:Oper}{r:A}{H':Heap}{K:Act->World->Prop}{Q:Exit->Act->World->Prop}(h:evOp P cf s H o.op=some (r,H'))(hs:SR Φ ρ H s a.tmps)(hr:HR Φ ρ H w)
  (hK:∀ z w' Φ' ρ',Stp Φ ρ H w Φ' ρ' H' w'->AR Φ' ρ' H' r z->K (a.put o.dst z) w'):o.wp P a w K Q:=by
 unfold evOp at h
 unfold Oper.wp
 split at h
 rotate_right
 ·obtain⟨nx,w',ρ',z,g1,g2,g3,g4⟩:=amW h hs hr
  rw[g1]
  rcases g2 with rfl | ⟨rfl,rfl⟩
  ·exact hK z w' Φ ρ' g3 g4
  ·exact hK undef w' Φ ρ' g3 g4
 ·simp only[Option.map_eq_some_iff,Prod.mk.injEq]at h
  obtain⟨r',hr',rfl,rfl⟩:=h
  obtain⟨z,h1,h2⟩:=amU hr' hs w
  rw[h1]
  exact hK z w Φ ρ (Stp.refl hr) h2
 ·simp only[Option.map_eq_some_iff,Prod.mk.injEq]at h
  obtain⟨r',hr',rfl,rfl⟩:=h
  obtain⟨z,h1,h2⟩:=am7 hr' hs hr
  rw[h1]
  exact hK z w Φ ρ (Stp.refl hr) h2
 ·simp only[Option.map_eq_some_iff,Prod.mk.injEq]at h
  obtain⟨⟨r',k⟩,hr',rfl,rfl⟩:=h
  obtain⟨z,w',ρ',h1,h2,h3⟩:=aoH hr' hs hr
  rw[h1]
  exact hK z w' Φ ρ' h2 h3
 ·unfold effC at h
  split at h
  ·rename_i f args ts ho
   split at h
   ·rename_i fid l hl
    split at h
    ·rename_i fn hfn
     split at h
     ·rename_i hb
      simp only[Bool.and_eq_true,bne_iff_ne,ne_eq]at hb
      obtain⟨hb1,hb2⟩:=hb
      -- the callee
      have hA:=afc hs args.toList
      have hF:=aaN hs f
      obtain⟨arr,hv,hargs⟩:∃ arr:Array Value,a.eval f = .func (.func fid) #[] arr/\ARs Φ ρ H l (args.toList.map a.eval++arr.toList):=by
       unfold calleeA at hl
       split at hl
       ·rename_i f' caps hf
        simp only[Option.some.injEq,Prod.mk.injEq]at hl
        obtain⟨rfl,rfl⟩:=hl
        rw[hf]at hF
        simp only[AR,CR,FVR]at hF
        obtain⟨arr,e1,e2,e3⟩:=hF
        refine⟨arr,e1,agR hA ?_⟩
        have:=acE (ρ:=ρ) (H:=H) (l:=caps.map .v) (vs:=arr.toList) (agI.2 e3) (by simp[e2]) (λi hi=>by simp)
        rw[List.map_map]at this
        exact this
       ·rename_i f' caps hf
        simp only[Option.some.injEq,Prod.mk.injEq]at hl
        obtain⟨rfl,rfl⟩:=hl
        rw[hf]at hF
        simp only[AR,CR]at hF
        obtain⟨arr,e1,e2,e3⟩:=hF
        refine⟨arr,e1,agR hA ?_⟩
        exact acE e3 (by simp[e2]) (λi hi=>by simp)
       ·cases hl
      have hrun:(execOp a.eval o).run P w = .ok (.enter fid (args.toList.map a.eval++arr.toList).toArray) w:=by
       simp only[execOp,ho,resolve,hv,Deferred.ofValue,Sem.run_bind,Sem.run_pure,Result.andThen_ok,invoke,callFunc,run_program,hfn]
       have hbn:fn.body.isNone=false:=by simpa using hb1
       rw[if_neg (by simpa using hb2),if_neg (by simp[hbn])]
       simp
      rw[hrun]
      refine(amf hcf h hr hargs).mono ?_
      rintro e w' ⟨v,Φ',ρ',rfl,st,hv'⟩
      exact hK v w' Φ' ρ' st hv'
     ·cases h
    ·cases h
   ·cases h
  ·obtain⟨nx,w',ρ',z,h1,h2,h3,h4⟩:=amW h hs hr
   rw[h1]
   rcases h2 with rfl | ⟨rfl,rfl⟩
   ·exact hK z w' Φ ρ' h3 h4
   ·exact hK undef w' Φ ρ' h3 h4
theorem adA{d:Option Tmp}{r:A}{z:Value}(hs:SR Φ ρ H s a.tmps)(hz:AR Φ ρ H r z):SR Φ ρ H (putA s d r) (a.put d z).tmps:=by
 cases d with
 | none=>exact hs
 | some d=>
  refine⟨by simp[putA,Act.put,hs.1],λi x hi=>?_⟩
  simp only[putA,List.getElem?_set]at hi
  simp only[Act.put]
  split at hi
  ·rename_i hdi
   subst hdi
   split at hi
   ·rename_i hlt
    cases hi
    exact⟨z,by rw[Array.getElem?_setIfInBounds_self,if_pos (by rw[<-hs.1];exact hlt)],hz⟩
   ·cases hi
  ·rename_i hdi
   obtain⟨v,hv,ha⟩:=hs.2 i x hi
   exact⟨v,by rw[Array.getElem?_setIfInBounds_ne hdi];exact hv,ha⟩
theorem abR{ops:Array Oper}{o:Oper}{b:Bool}(h:acl ops s o=some b)(hs:SR Φ ρ H s a.tmps):Region.wanted o (yielded ops a.tmps)=b:=by
 unfold acl at h
 unfold Region.wanted
 split at h
 ·rename_i hg;cases h;simp[hg]
 ·rename_i j want hg
  simp only[hg]
  split at h
  ·rename_i d hd
   split at h
   ·rename_i b' hb
    cases h
    obtain⟨v,hv,ha⟩:=hs.2 d _ hb
    simp only[AR,CR,FVR]at ha
    subst ha
    simp[yielded,hd,hv]
   ·rename_i hb
    cases h
    obtain⟨v,hv,ha⟩:=hs.2 d _ hb
    simp only[AR,ARs]at ha
    obtain⟨arr,rfl,_⟩:=ha
    simp[yielded,hd,hv]
   ·rename_i hb
    cases h
    have:a.tmps[d]?=none:=by
     rw[Array.getElem?_eq_none_iff,<-hs.1]
     exact List.getElem?_eq_none_iff.1 hb
    simp[yielded,hd,this]
   ·cases h
  ·rename_i hd
   cases h
   simp[yielded,hd]
structure Sim(Φ:Phi)(ρ:Rho)(st:St)(a:Act)(w:World):Prop where
 sr:SR Φ ρ st.h st.s a.tmps
 hr:HR Φ ρ st.h w
def Goes(Φ:Phi)(ρ:Rho)(H:Heap)(a:Act)(w:World)(st':St)(a':Act)(w':World):Prop:=
 ∃ Φ' ρ',Stp Φ ρ H w Φ' ρ' st'.h w'/\SR Φ' ρ' st'.h st'.s a'.tmps/\a'.defers=a.defers
theorem aa9(a:Act)(d:Option Tmp)(z:Value):(a.put d z).defers=a.defers:=by cases d <;> rfl
theorem abi{l2:List Oper}{cf:aaj}(hcf:aa7 P cf){ops:Array Oper}{Q:Exit->Act->World->Prop}:∀ {l:List Oper}{st st':St}{Φ:Phi}{ρ:Rho}{a:Act}{w:World},evOps P cf ops l st=some st'->SR Φ ρ st.h st.s a.tmps->HR Φ ρ st.h w →
  (∀ a' w',Goes Φ ρ st.h a w st' a' w'->wpList P ops Q l2 a' w')->wpList P ops Q (l++l2) a w
 | [],st,st',Φ,ρ,a,w,h,hs,hr,hQ=>by
  simp only[evOps]at h;cases h
  exact hQ a w ⟨Φ,ρ,Stp.refl hr,hs,rfl⟩
 | o::l,st,st',Φ,ρ,a,w,h,hs,hr,hQ=>by
  simp only[evOps]at h
  split at h
  ·rename_i hw
   have hw':=abR hw hs
   split at h
   ·rename_i r H' ho
    rw[List.cons_append]
    unfold wpList
    rw[if_pos hw']
    left
    refine agO hcf ho hs hr (λz w' Φ' ρ' stp hz=>?_)
    refine abi hcf h (adA (aaW stp.ext hs) hz) stp.hr (λa' w'' hg=>hQ a' w'' ?_)
    obtain⟨Φ'',ρ'',g1,g2,g3⟩:=hg
    exact⟨Φ'',ρ'',stp.trans g1,g2,by rw[g3,aa9]⟩
   ·cases h
  ·rename_i hw
   have hw':=abR hw hs
   rw[List.cons_append]
   unfold wpList
   rw[if_neg (by simp[hw'])]
   refine abi hcf h (adA hs (by simp only[AR];exact⟨#[],rfl,by simp[ARs]⟩)) hr (λa' w'' hg=>hQ a' w'' ?_)
   obtain⟨Φ'',ρ'',g1,g2,g3⟩:=hg
   exact⟨Φ'',ρ'',g1,g2,by rw[g3,aa9]⟩
  ·cases h
theorem ahP{cf:aaj}(hcf:aa7 P cf){ops:Array Oper}{Q:Exit->Act->World->Prop}{l:List Oper}{st st':St}{Φ:Phi}{ρ:Rho}{a:Act}{w:World}(h:evOps P cf ops l st=some st')(hs:SR Φ ρ st.h st.s a.tmps)(hr:HR Φ ρ st.h w)
  (hQ:∀ a' w',Goes Φ ρ st.h a w st' a' w'->Q .normal a' w'):wpList P ops Q l a w:=by
 have:=abi (l2:=[]) hcf h hs hr (Q:=Q) (λa' w' hg=>by unfold wpList;exact hQ a' w' hg)
 rwa[List.append_nil]at this
end Go.Ev
