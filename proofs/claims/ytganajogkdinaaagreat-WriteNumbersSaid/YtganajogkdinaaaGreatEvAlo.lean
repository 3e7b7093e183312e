import Derived.Test.YtganajogkdinaaaGreatEvStp
set_option linter.all false
namespace Go.Ev
variable[Glo]
set_option linter.unusedSimpArgs false
variable{P:Program}{Φ:Phi}{ρ:Rho}{H:Heap}{s:List A}{a:Act}{w w':World}
theorem abo(w:World)(o:Obj):(w.alloc o).heap[w.heap.size]?=some o:=by
 show(w.heap.push o)[w.heap.size]?=_
 simp
theorem aaH(w:World)(o:Obj){d:Nat}(h:d<w.heap.size):(w.alloc o).heap[d]?=w.heap[d]?:=by
 show(w.heap.push o)[d]?=_
 simp[Array.getElem?_push,Nat.ne_of_lt h]
theorem aiD(w:World)(arr:Array Value)(e:TypeId):((w.alloc (.cells arr e)).freeze ⟨w.heap.size,arr.size,none⟩ 1).heap[w.heap.size]?=some (.cells arr e (arr.size,arr.size+1)):=by
 simp only[World.freeze,Nat.one_ne_zero,if_false,Array.getElem?_modify]
 rw[abo]
 rfl
theorem aip(w:World)(arr:Array Value)(e:TypeId){d:Nat}(h:d<w.heap.size):((w.alloc (.cells arr e)).freeze ⟨w.heap.size,arr.size,none⟩ 1).heap[d]?=w.heap[d]?:=by
 simp only[World.freeze,Nat.one_ne_zero,if_false,Array.getElem?_modify]
 rw[if_neg (by omega),aaH w _ h]
theorem aec(w:World)(o:Obj)(a:Addr)(n:Nat):(w.freeze a n).heap.size=w.heap.size:=by
 unfold World.freeze
 split <;> simp
theorem acP(hr:HR Φ ρ H w){c:Nat}(h:w.heap.size<=c):Φ c=none:=by
 cases hp:Φ c with
 | none=>rfl
 | some arr=>
  obtain⟨ty,fz,hw⟩:=hr.fro c arr hp
  have:=(Array.getElem?_eq_some_iff.1 hw).1
  omega
theorem ab4(hr:HR Φ ρ H w){b:Nat}{x:Blk}{i:Inf}(h:live H b=some x)(h':ρ b=some i):i.c<w.heap.size:=by
 exact(hr.fresh h h').2
theorem adC(n:Nat)(cl:CL):(cellsBlk n cl).isMp=false:=by cases cl <;> rfl
theorem aiO{k:Blk}{arr:Array Value}{ty:TypeId}{fz:Nat×Nat}(hr:HR Φ ρ H w)(h0:w.heap.size<=w'.heap.size)(ho:∀ d,d<w.heap.size->w'.heap[d]?=w.heap[d]?)
  (hc:w'.heap[w.heap.size]?=some (.cells arr ty fz)) (hfz:fzOk arr.size fz) (hb:k.len*k.sz<=arr.size) (he:ELR Φ ρ H k.el k.sz (arr[·]?) 0) (hio:Io w w') (hm:k.isMp=false:=by first | rfl | assumption | exact EL.blk_cel _ _ | exact adC _ _) :
  Stp Φ ρ H w Φ (upd ρ H.length (some ⟨w.heap.size,0,arr.size⟩)) (H++[some k]) w':=
 ab3 hr (Less.refl H) (λd hd _=>ho d hd) h0 (acP hr (Nat.le_refl _)) (.inl (Nat.le_refl _))
  (λb x i hx hi=>by have:=ab4 hr hx hi;simp only;omega) hc hfz rfl (by simpa using hb) (aau (aby (Less.refl H)) he) hio
theorem ajs{cl:CL}{n:Nat}{g:Nat->Option Value}(hl:cl.len=n)(hc:CLR Φ ρ H cl g 0):ELR Φ ρ H (cellsBlk n cl).el (cellsBlk n cl).sz g 0:=by
 cases cl with
 | p l=>exact⟨hl,hc,by simp[FVRe]⟩
 | m l=>exact⟨hl,hc,by simp[CRe]⟩
theorem ajc{L:List (List C)}{X:List C}{sz i b b2:Nat}{g g2 g':Nat->Option Value}(hL:CRe Φ ρ H L sz g b)(hX:CRs Φ ρ H X g2 b2)(hx:X.length=sz)
  (h1:∀ j,j<sz->g' (b+i*sz+j)=g2 (b2+j)) (h2:∀ j,j<L.length*sz->(j<i*sz∨i*sz+sz<=j)->g' (b+j)=g (b+j)):CRe Φ ρ H (L.set i X) sz g' b:=by
 refine CRe_iff.2 λm e hm=>?_
 rw[List.getElem?_set]at hm
 split at hm
 ·rename_i him
  subst him
  split at hm
  ·cases hm
   refine⟨hx,CRs_iff.2 λj x hj=>?_⟩
   obtain⟨v,hv,hr⟩:=aaz hX hj
   have:j<X.length:=(List.getElem?_eq_some_iff.1 hj).1
   exact⟨v,by rw[h1 j (by omega)];exact hv,hr⟩
  ·cases hm
 ·rename_i him
  obtain⟨q1,q2⟩:=CRe_iff.1 hL m e hm
  refine⟨q1,CRs_iff.2 λj x hj=>?_⟩
  obtain⟨v,hv,hr⟩:=aaz q2 hj
  have hjl:j<e.length:=(List.getElem?_eq_some_iff.1 hj).1
  have hml:m<L.length:=(List.getElem?_eq_some_iff.1 hm).1
  refine⟨v,?_,hr⟩
  rw[Nat.add_assoc,h2 (m*sz+j),<-Nat.add_assoc]
  ·exact hv
  ·calc m*sz+j<m*sz+sz:=by omega
    _=(m+1)*sz:=by rw[Nat.succ_mul]
    _<=L.length*sz:=Nat.mul_le_mul_right _ hml
  ·rcases Nat.lt_or_ge m i with h | h
   ·left
    calc m*sz+j<m*sz+sz:=by omega
     _=(m+1)*sz:=by rw[Nat.succ_mul]
     _<=i*sz:=Nat.mul_le_mul_right _ h
   ·right
    have:(i+1)*sz<=m*sz:=Nat.mul_le_mul_right _ (by omega)
    rw[Nat.succ_mul]at this
    omega
theorem ak7{m:Option Nat}{x:FV}{v:Value}(h:FVR Φ x v):FVR Φ (nrmC m x) v:=by
 unfold nrmC
 split
 ·simp only[FVR]at h ⊢
  obtain⟨p,k,rfl,h1,h2,h3⟩:=h
  exact⟨p,k,rfl,⟨h1.1,by simp⟩,by simp,by simp⟩
 ·exact h
theorem aju{m:Option Nat}{x:C}{v:Value}(h:CR Φ ρ H x v):CR Φ ρ H (nrmX m x) v:=by
 unfold nrmX
 split
 ·simp only[CR]at h ⊢
  exact ak7 h
 ·exact h
theorem acx:∀ {m:List (Option Nat)}{l:List FV}{g:Nat->Option Value}{off:Nat},FVRs Φ l g off->FVRs Φ (nrmL m l) g off/\(nrmL m l).length=l.length
 | [],l,g,off,h=>by unfold nrmL;exact⟨h,rfl⟩
 | m::ms,[],g,off,h=>by unfold nrmL;exact⟨h,rfl⟩
 | m::ms,x::xs,g,off,h=>by
  unfold nrmL
  simp only[FVRs]at h ⊢
  obtain⟨⟨v,h1,h2⟩,h3⟩:=h
  obtain⟨h4,h5⟩:=acx (m:=ms) h3
  exact⟨⟨⟨v,h1,ak7 h2⟩,h4⟩,by simp[h5]⟩
theorem acL:∀ {m:List (Option Nat)}{l:List C}{g:Nat->Option Value}{off:Nat},CRs Φ ρ H l g off->CRs Φ ρ H (acY m l) g off/\(acY m l).length=l.length
 | [],l,g,off,h=>by unfold acY;exact⟨h,rfl⟩
 | m::ms,[],g,off,h=>by unfold acY;exact⟨h,rfl⟩
 | m::ms,x::xs,g,off,h=>by
  unfold acY
  simp only[CRs]at h ⊢
  obtain⟨⟨v,h1,h2⟩,h3⟩:=h
  obtain⟨h4,h5⟩:=acL (m:=ms) h3
  exact⟨⟨⟨v,h1,aju h2⟩,h4⟩,by simp[h5]⟩
theorem EL.nrm_len{m:List (Option Nat)}{e:EL}:(e.nrm m).len=e.len:=by cases e <;> simp[EL.nrm,EL.len]
theorem EL.nrm_ok{m:List (Option Nat)}{e:EL}{sz:Nat}{g:Nat->Option Value}{off:Nat}(h:ELR Φ ρ H e sz g off):ELR Φ ρ H (e.nrm m) sz g off:=by
 cases e with
 | p l=>
  simp only[EL.nrm,ELR]at h ⊢
  rw[aaA]at h ⊢
  intro i e hi
  rw[List.getElem?_map]at hi
  obtain⟨y,hy,rfl⟩:=Option.map_eq_some_iff.1 hi
  obtain⟨h1,h2⟩:=h i y hy
  obtain⟨h3,h4⟩:=acx (m:=m) h2
  exact⟨by rw[h4,h1],h3⟩
 | m l=>
  simp only[EL.nrm,ELR]at h ⊢
  rw[CRe_iff]at h ⊢
  intro i e hi
  rw[List.getElem?_map]at hi
  obtain⟨y,hy,rfl⟩:=Option.map_eq_some_iff.1 hi
  obtain⟨h1,h2⟩:=h i y hy
  obtain⟨h3,h4⟩:=acL (m:=m) h2
  exact⟨by rw[h4,h1],h3⟩
theorem ahX{sz:Nat}:∀ {parts:List (Nat×A)}{vs:List (Nat×Value)}{acc e:EL}{arr:Array Value},agK sz acc parts=some e →
  parts.map (·.1)=vs.map (·.1)->(∀ (i:Nat) (p:Nat×A),parts[i]?=some p->∃ q,vs[i]?=some q/\AR Φ ρ H p.2 q.2)->arr.size=acc.len*sz->ELR Φ ρ H acc sz (arr[·]?) 0 →
  ∃ arr',Instr.fill (λi=>some (i*sz,sz)) arr vs=some arr'/\arr'.size=e.len*sz/\e.len=acc.len/\ELR Φ ρ H e sz (arr'[·]?) 0
 | [],vs,acc,e,arr,h,hi,hr,hs,hc=>by
  simp only[agK]at h;cases h
  cases vs with
  | nil=>exact⟨arr,rfl,hs,rfl,hc⟩
  | cons=>simp at hi
 | (i,x)::r,vs,acc,e,arr,h,hi,hr,hs,hc=>by
  cases vs with
  | nil=>simp at hi
  | cons q vs=>
   obtain⟨i',v⟩:=q
   simp only[List.map_cons,List.cons.injEq]at hi
   obtain⟨rfl,hi⟩:=hi
   obtain⟨q,hq,hxv⟩:=hr 0 (i,x) rfl
   simp at hq;subst hq
   have main:∀ (cx:CL) (acc':EL),acD x=some cx->cx.len=sz->i<acc.len->acc'.c=acc.c.set i cx.c->agK sz acc' r=some e →
     ∃ arr',Instr.fill (λi=>some (i*sz,sz)) arr ((i,v)::vs)=some arr'/\arr'.size=e.len*sz/\e.len=acc.len/\ELR Φ ρ H e sz (arr'[·]?) 0:=by
    intro cx acc' hx hl hlt hacc hf
    obtain⟨e1,e2⟩:=ab5 hx hxv
    simp only at e1 e2
    have hfs:=agE v.cells.toList 0 (i*sz) arr
    have hbound:i*sz+sz<=acc.len*sz:=by
     have:=Nat.mul_le_mul_right sz hlt
     rwa[Nat.succ_mul]at this
    have hlen':acc'.len=acc.len:=by rw[<-EL.c_len,hacc,List.length_set,EL.c_len]
    have:=ahX (arr:=v.cells.zipIdx.foldl (λcs (c,j)=>cs.setIfInBounds (i*sz+j) c) arr) (vs:=vs) hf hi
      (λj p hp=>by simpa using hr (j+1) p (by simpa using hp)) ?_ ?_
    ·obtain⟨arr',g1,g2,g3,g4⟩:=this
     refine⟨arr',?_,g2,by rw[g3,hlen'],g4⟩
     simp only[Instr.fill]
     rw[if_neg]
     ·exact g1
     ·simp only[Bool.or_eq_true,bne_iff_ne,decide_eq_true_eq,ne_eq]
      simp[e1,hl];omega
    ·rw[<-Array.foldl_toList,Array.toList_zipIdx]
     rw[hfs.1,hs,hlen']
    ·rw[<-Array.foldl_toList,Array.toList_zipIdx]
     rw[ELR_c,hacc]
     rw[ELR_c]at hc
     rw[CLR_c]at e2
     refine ajc (b:=0) hc e2 (by rw[CL.c_len];exact hl) ?_ ?_
     ·intro j hj
      rw[hfs.2]
      rw[if_pos (by simp;omega)]
      simp
     ·intro j hj ho
      rw[EL.c_len]at hj
      rw[hfs.2]
      rw[if_neg (by simp;omega)]
   simp only[agK]at h
   split at h
   ·rename_i l hx
    split at h
    ·rename_i hc'
     refine main (.p l) _ hx hc'.1 hc'.2 ?_ h
     cases acc <;> simp[EL.c,CL.c,List.map_set]
    ·cases h
   ·rename_i l hx
    split at h
    ·rename_i hc'
     refine main (.m l) _ hx hc'.1 hc'.2 ?_ h
     cases acc <;> simp[EL.c,CL.c,List.map_set]
    ·cases h
   ·cases h
theorem aeZ{z:List FV}{arr:Array Value}{n:Nat}(h1:arr.size=z.length)(h2:FVRs Φ z (arr[·]?) 0)(h0:0<z.length) :
  ((Array.range (n*z.length)).map (arr[· % arr.size]!)).size=n*z.length/\FVRe Φ (List.replicate n z) z.length (((Array.range (n*z.length)).map (arr[· % arr.size]!))[·]?) 0:=by
 refine⟨by simp,aaA.2 λi e hi=>?_⟩
 rw[List.getElem?_replicate]at hi
 split at hi
 ·rename_i hin
  cases hi
  refine⟨rfl,abf.2 λj x hj=>?_⟩
  obtain⟨v,hv,hr⟩:=aaU h2 hj
  have hjl:j<z.length:=(List.getElem?_eq_some_iff.1 hj).1
  refine⟨v,?_,hr⟩
  have hb:0+i*z.length+j<n*z.length:=by
   have:=Nat.mul_le_mul_right z.length (show i+1<=n by omega)
   rw[Nat.succ_mul]at this
   omega
  have hmod:(0+i*z.length+j) % arr.size=j:=by
   rw[h1,Nat.zero_add,Nat.add_comm,Nat.add_mul_mod_self_right,Nat.mod_eq_of_lt hjl]
  simp only[Nat.zero_add]at hv
  simp only[Array.getElem?_map,Array.getElem?_range,hb,if_true,Option.map_some,hmod]
  rw[<-hv]
  have:j<arr.size:=by omega
  simp[this]
 ·cases hi
theorem wrap_i64{n:Int}(h0:0<=n)(h1:n<=9223372036854775807):IntKind.i64.wrap n=n:=by
 simp only[IntKind.wrap,IntKind.bits,IntKind.signed]
 have:n % 18446744073709551616=n:=Int.emod_eq_of_lt h0 (by omega)
 simp[this]
 omega
structure Alo(Φ:Phi)(ρ:Rho)(H:Heap)(w w':World)(b:Nat)(r:A)(k:Blk)(z:Value)(arr:Array Value)(ty:TypeId)(fz:Nat×Nat):Prop where
 sz:w.heap.size<=w'.heap.size
 old:∀ d,d<w.heap.size->w'.heap[d]?=w.heap[d]?
 new:w'.heap[w.heap.size]?=some (.cells arr ty fz)
 fz:fzOk arr.size fz
 fit:k.len*k.sz<=arr.size
 el:ELR Φ ρ H k.el k.sz (arr[·]?) 0
 io:Io w w'
 res:∀ ρ' H',b<H'.length->live H' b=some k->ρ' b=some ⟨w.heap.size,0,arr.size⟩->AR Φ ρ' H' r z
theorem ahk{o:Oper}{b:Nat}{r:A}{k:Blk}(h:alo P s b o.op=some (r,k))(hs:SR Φ ρ H s a.tmps) :
  ∃ z w' arr ty fz,(execOp a.eval o).run P w = .ok (.value z) w'/\Alo Φ ρ H w w' b r k z arr ty fz:=by
 have val_run':∀ {x:Sem Value}{z:Value}{w w':World},x.run P w = .ok z w'->(do pure (.value (<-x)):Sem Next).run P w = .ok (.value z) w':=by
  intro x z w w' h
  rw[Sem.run_bind,h];rfl
 unfold alo at h
 split at h
 ·rename_i e ho
  split at h
  ·rename_i z n hz hn
   split at h
   ·rename_i hzl
    cases h
    obtain⟨v,e1,e2,e3⟩:=abS (Φ:=Φ) hz
    refine⟨.pointer (some ⟨w.heap.size,0,none⟩),w.alloc (.cells v.cells e),_,_,_,?_,
     by simp,λd hd=>aaH w _ hd,abo w _,.inl rfl,by simp[Blk.len,Blk.sz,e2,hzl],ajs (cl:=.p z) hzl e3,⟨rfl,rfl,rfl⟩,λρ' H' hlt hlv hρ=>?_⟩
    ·simp only[execOp,ho]
     refine val_run' ?_
     simp only[Instr.alloc,Sem.run_bind,e1,Result.andThen_ok,newVar,newRow,run_newObj]
     rfl
    ·simp only[AR,CR]
     refine⟨_,rfl,hlt,λk hk=>?_⟩
     rw[hlv]at hk;cases hk
     exact⟨rfl,_,hρ,by simp⟩
   ·cases h
  ·cases h
 ·rename_i e x ho
  split at h
  ·rename_i cl n hcl hn
   split at h
   ·rename_i hl
    cases h
    obtain⟨e1,e2⟩:=ab5 hcl (aaN hs x)
    refine⟨.pointer (some ⟨w.heap.size,0,none⟩),w.alloc (.cells (a.eval x).cells e),_,_,_,?_,
     by simp,λd hd=>aaH w _ hd,abo w _,.inl rfl,by cases cl <;> simp_all[cellsBlk,Blk.len,Blk.sz,CL.len],ajs hl e2,⟨rfl,rfl,rfl⟩,λρ' H' hlt hlv hρ=>?_⟩
    ·simp only[execOp,ho]
     refine val_run' ?_
     simp only[Instr.box,Sem.run_bind,Result.andThen_ok,newVar,newRow,run_newObj]
     rfl
    ·simp only[AR,CR]
     refine⟨_,rfl,hlt,λk hk=>?_⟩
     rw[hlv]at hk;cases hk
     exact⟨by cases cl <;> rfl,_,hρ,by simp⟩
   ·cases h
  ·cases h
 ·rename_i t len parts ho
  split at h
  ·rename_i e he
   have hu:=aa2 he
   split at h
   ·rename_i n z hn hz
    split at h
    ·rename_i hc
     obtain⟨c1,c2,c3⟩:=hc
     simp only[Option.map_eq_some_iff,Prod.mk.injEq]at h
     obtain⟨el0,hel,rfl,hblk⟩:=h
     obtain⟨v,e1,e2,e3⟩:=abS (Φ:=Φ) hz
     have hz0:∃ zc:Array Value,(len*n=0/\zc = #[]∨len*n≠0/\zc=v.cells) ∧
       ((Array.range (len*n)).map (zc[· % zc.size]!)).size=len*n/\FVRe Φ (List.replicate len z) n (((Array.range (len*n)).map (zc[· % zc.size]!))[·]?) 0:=by
      by_cases h0:len*n=0
      ·have:len=0:=(Nat.mul_eq_zero.1 h0).resolve_right (by omega)
       subst this
       exact⟨#[],by simp,by simp,by simp[FVRe]⟩
      ·refine⟨v.cells,.inr ⟨h0,rfl⟩,?_⟩
       rw[<-c2]
       exact aeZ e2 e3 (by omega)
     obtain⟨zc,z1,z2,z3⟩:=hz0
     obtain⟨arr',g1,g2,g3,g4⟩:=ahX (acc:=.p (List.replicate len z)) (arr:=(Array.range (len*n)).map (zc[· % zc.size]!)) (vs:=(parts.map λ(i,x)=>(i,a.eval x)).toList) hel
      (by simp) (λi p hp=>by
       rw[List.getElem?_map]at hp
       obtain⟨q,hq,rfl⟩:=Option.map_eq_some_iff.1 hp
       refine⟨(q.1,a.eval q.2),?_,aaN hs q.2⟩
       simp at hq
       simp[hq]) (by simp[EL.len]) z3
     obtain⟨el,hnel⟩:∃ el,el=el0.nrm (aeo P 20 e):=⟨_,rfl⟩
     rw[<-hnel]at hblk
     subst hblk
     have hl0:el0.len=el.len:=by rw[hnel,EL.nrm_len]
     rw[hl0]at g2 g3
     replace g4:=EL.nrm_ok (m:=aeo P 20 e) g4
     rw[<-hnel]at g4
     have g3':el.len=len:=by simpa[EL.len]using g3
     refine⟨.slice (some ⟨w.heap.size,0,none⟩) len len,w.alloc (.cells arr' e),_,_,_,?_,
      by simp,λd hd=>aaH w _ hd,abo w _,.inl rfl,by simp[EL.blk_len,EL.blk_sz,g2],by rw[EL.blk_el,EL.blk_sz];exact g4,⟨rfl,rfl,rfl⟩,λρ' H' hlt hlv hρ=>?_⟩
     ·simp only[execOp,ho]
      refine val_run' ?_
      simp only[Instr.buildSlice,Sem.run_bind,aaf hu,Result.andThen_ok,aas hn]
      rw[if_neg (by omega)]
      rcases z1 with⟨z1,rfl⟩ | ⟨z1,rfl⟩
      ·rw[if_pos z1]
       simp only[Sem.run_bind,Sem.run_pure,Result.andThen_ok,g1,newRow,run_newObj]
       rfl
      ·rw[if_neg z1]
       simp only[Sem.run_bind,e1,Sem.run_pure,Result.andThen_ok,g1,newRow,run_newObj]
       rfl
     ·simp only[AR,CR]
      refine⟨_,_,rfl,Nat.le_refl _,by simp,hlt,λk hk=>?_⟩
      rw[hlv]at hk;cases hk
      refine⟨EL.blk_sz _ _,by rw[EL.blk_len];omega,.inr ⟨_,hρ,by simp,?_⟩⟩
      simp[g2,g3']
    ·cases h
   ·cases h
  ·cases h
 ·rename_i t l c ho
  split at h
  ·rename_i e k1 n k2 m he hl hc
   have hu:=aa2 he
   split at h
   ·rename_i sz z bytes hn hz hby
    split at h
    ·rename_i hcc
     obtain⟨c1,c2,c3,c4,c5⟩:=hcc
     cases h
     simp only[room,Bool.and_eq_true,decide_eq_true_eq]at c5
     obtain⟨c5,c6⟩:=c5
     have hL:=aaN hs l
     have hC:=aaN hs c
     rw[hl]at hL;rw[hc]at hC
     simp only[AR,CR,FVR]at hL hC
     obtain⟨i,hi,rfl⟩:=acu hby
     obtain⟨v,e1,e2,e3⟩:=abS (Φ:=Φ) hz
     have hz0:∃ zc:Array Value,(m.toNat*sz=0/\zc = #[]∨m.toNat*sz≠0/\zc=v.cells) ∧
       ((Array.range (m.toNat*sz)).map (zc[· % zc.size]!)).size=m.toNat*sz/\FVRe Φ (List.replicate m.toNat (nrmL (aeo P 20 e) z)) sz (((Array.range (m.toNat*sz)).map (zc[· % zc.size]!))[·]?) 0:=by
      obtain⟨en1,en2⟩:=acx (m:=aeo P 20 e) e3
      by_cases h0:m.toNat*sz=0
      ·have:m.toNat=0:=(Nat.mul_eq_zero.1 h0).resolve_right (by omega)
       rw[this]
       exact⟨#[],by simp,by simp,by simp[FVRe]⟩
      ·refine⟨v.cells,.inr ⟨h0,rfl⟩,?_⟩
       rw[<-c1,<-en2]
       exact aeZ (by rw[en2];exact e2) en1 (by omega)
     obtain⟨zc,z1,z2,z3⟩:=hz0
     have w1:IntKind.i64.wrap n=n:=wrap_i64 c3 (by omega)
     have w2:IntKind.i64.wrap m=m:=wrap_i64 (by omega) (by omega)
     refine⟨.slice (some ⟨w.heap.size,0,none⟩) n.toNat m.toNat,w.alloc (.cells ((Array.range (m.toNat*sz)).map (zc[· % zc.size]!)) e),_,_,_,?_,
      by simp,λd hd=>aaH w _ hd,abo w _,.inl rfl,by simp[Blk.len,Blk.sz],z3,⟨rfl,rfl,rfl⟩,λρ' H' hlt hlv hρ=>?_⟩
     ·simp only[execOp,ho]
      refine val_run' ?_
      have hnot:¬(((decide (m<0)||decide ((i.bytes:Int)*m>2 ^ 48))||decide (n<0)||decide (n>m))=true):=by
       simp only[Bool.or_eq_true,decide_eq_true_eq,not_or]
       have:(i.bytes:Int)*m=((m.toNat*i.bytes:Nat):Int):=by
        rw[Int.natCast_mul,Int.toNat_of_nonneg (by omega),Int.mul_comm]
       refine⟨⟨⟨by omega,?_⟩,by omega⟩,by omega⟩
       rw[this];omega
      simp only[Instr.makeSlice,Sem.run_bind,aaf hu,Result.andThen_ok,asInt,hL,hC,asIntOf,Sem.run_pure,typeInfo,run_program,hi,w1,w2]
      rw[if_neg hnot]
      simp only[Sem.run_bind,run_askRoom,Result.andThen_ok,aas hn]
      rcases z1 with⟨z1,rfl⟩ | ⟨z1,rfl⟩
      ·rw[if_pos z1]
       simp only[Sem.run_bind,Sem.run_pure,Result.andThen_ok,newRow,run_newObj]
       rfl
      ·rw[if_neg z1]
       simp only[Sem.run_bind,e1,Sem.run_pure,Result.andThen_ok,newRow,run_newObj]
       rfl
     ·split
      ·rename_i hsame
       have hnm:n=m:=by
        unfold agQ at hsame
        split at hsame
        ·have:=Nat.eq_of_beq_eq_true hsame
         subst this
         rw[hl]at hc
         simp only[A.c.injEq,C.v.injEq,FV.int.injEq]at hc
         exact hc.2
        ·have:=of_decide_eq_true hsame
         subst this
         simp only[opd,ahC,constF,A.c.injEq,C.v.injEq,FV.int.injEq]at hl hc
         rw[<-hl.2,<-hc.2]
        ·cases hsame
       subst hnm
       simp only[AR,CR]
       refine⟨_,_,rfl,Nat.le_refl _,by simp,hlt,λk hk=>?_⟩
       rw[hlv]at hk;cases hk
       refine⟨rfl,by simp[Blk.len],.inr ⟨_,hρ,by simp,?_⟩⟩
       simp
      ·simp only[AR,CR]
       refine⟨_,_,rfl,⟨by omega,by simp⟩,by simp,hlt,λk hk=>?_⟩
       rw[hlv]at hk;cases hk
       refine⟨rfl,by simp[Blk.len];omega,by simp,.inr ⟨_,hρ,by simp,?_⟩⟩
       simp
    ·cases h
   ·cases h
  ·cases h
 ·rename_i src dst x ho
  split at h
  ·rename_i e str hu hd hx
   split at h
   ·rename_i he
    split at h
    ·rename_i hle
     cases h
     have hX:=aaN hs x
     rw[hx]at hX
     simp only[AR,CR,FVR]at hX
     have hge:str.size<=(Question.appendCap str.size 0 e).cut (w.tape w.drawn (.appendCap str.size 0 e)):=by simp[Question.cut]
     obtain⟨cap,hcap⟩:∃ cap,cap=(Question.appendCap str.size 0 e).cut (w.tape w.drawn (.appendCap str.size 0 e)):=⟨_,rfl⟩
     rw[<-hcap]at hge
     let arr:Array Value:=(str.data.map λb=>Value.int .u8 b.toNat)++Array.replicate (cap-str.size) (.int .u8 0)
     have harr:arr.size=cap:=by simp[arr];omega
     refine⟨.slice (some ⟨w.heap.size,0,none⟩) str.size cap,({ w with drawn:=w.drawn+1 }.alloc (.cells arr e)).freeze ⟨w.heap.size,arr.size,none⟩ 1,arr,e,(arr.size,arr.size+1),?_,
      ?_,?_,?_,.inr (Nat.le_refl _),?_,?_,⟨rfl,rfl,rfl⟩,λρ' H' hlt hlv hρ=>?_⟩
     ·simp only[execOp,ho]
      refine val_run' ?_
      simp only[convert,Sem.run_bind,aaf hu,aaf hd,Result.andThen_ok,hX,aaf he,Conv.stringToBytes,run_choose]
      simp only[Question.forced,Bool.false_eq_true,if_false,Result.andThen_ok,newRow,Sem.run_bind,run_newObj,<-hcap,Sem.run_pure,markStringish,run_shape]
      have hsh:World.shape? (({ w with drawn:=w.drawn+1 }:World).alloc (.cells arr e)) w.heap.size=some (e,arr.size):=by
       have:=abo ({ w with drawn:=w.drawn+1 }:World) (.cells arr e)
       simp only[World.shape?,this]
      show((match World.shape? (({ w with drawn:=w.drawn+1 }:World).alloc (.cells arr e)) w.heap.size with
       | some (_,n)=>freeze { block:=w.heap.size,off:=n } 1
       |_=>pure ():Sem Unit).run P (({ w with drawn:=w.drawn+1 }:World).alloc (.cells arr e))).andThen _=_
      rw[hsh]
      rfl
     ·rw[aec _ (.cells arr e)];simp
     ·intro d hd
      exact aip ({ w with drawn:=w.drawn+1 }:World) arr e hd
     ·exact aiD ({ w with drawn:=w.drawn+1 }:World) arr e
     ·simp only[Blk.len,Blk.sz,List.length_map,Array.length_toList,Nat.mul_one,harr]
      exact hge
     ·refine aaA.2 λi e' hi=>?_
      rw[List.getElem?_map]at hi
      obtain⟨b,hb,rfl⟩:=Option.map_eq_some_iff.1 hi
      refine⟨rfl,?_⟩
      simp only[FVRs,and_true]
      have hlt:i<str.data.size:=by
       have:=(List.getElem?_eq_some_iff.1 hb).1
       simpa using this
      refine⟨.int .u8 b.toNat,?_,by simp[FVR]⟩
      simp only[Blk.sz,Nat.mul_one,Nat.zero_add,arr]
      rw[Array.getElem?_append_left (by simpa using hlt)]
      simp at hb
      simp[hb]
     ·simp only[AR,CR]
      refine⟨_,_,rfl,hge,by simp,hlt,λk hk=>?_⟩
      rw[hlv]at hk;cases hk
      refine⟨rfl,by simp[Blk.len],.inr ⟨_,hρ,by simp,?_⟩⟩
      simp[harr]
    ·cases h
   ·cases h
  ·cases h
 ·cases h
theorem aiQ{op:Op}{b:Nat}{r:A}{k:Blk}(h:alo P s b op=some (r,k)):k.isMp=false:=by
 unfold alo at h
 split at h
 all_goals
  repeat' split at h
  all_goals try (cases h;done)
  all_goals try (cases h;first | rfl | exact adC _ _)
 ·rename_i hh
  obtain⟨el,_,he⟩:=Option.map_eq_some_iff.1 h
  cases he
  exact EL.blk_cel _ _
theorem aoH{o:Oper}{r:A}{k:Blk}(h:alo P s H.length o.op=some (r,k))(hs:SR Φ ρ H s a.tmps)(hr:HR Φ ρ H w) :
  ∃ z w' ρ',(execOp a.eval o).run P w = .ok (.value z) w'/\Stp Φ ρ H w Φ ρ' (H++[some k]) w'/\AR Φ ρ' (H++[some k]) r z:=by
 obtain⟨z,w',arr,ty,fz,h1,h2⟩:=ahk (w:=w) h hs
 exact⟨z,w',_,h1,aiO hr h2.sz h2.old h2.new h2.fz h2.fit h2.el h2.io (aiQ h),h2.res _ _ (by simp) aal upd_self⟩
end Go.Ev
