import Derived.Test.YtganajogkdinaaaGreatEvGh
set_option linter.all false
namespace Go.Ev
variable[Glo]
set_option linter.unusedSimpArgs false
variable{P:Program}{cf:aaj}{H H':Heap}{s s':List A}
theorem ajH{lo hi mx:Option Operand}{n:Nat}(h1:∀ x,lo=some x->opd s x=opd s' x)(h2:∀ x,hi=some x->opd s x=opd s' x)(h3:∀ x,mx=some x->opd s x=opd s' x) :
  bnd s lo hi mx n=bnd s' lo hi mx n:=by
 cases lo <;> cases hi <;> cases mx <;> simp_all[bnd]
theorem afR{t:TypeId}{y:A}{lo hi mx:Option Operand}(h1:∀ x,lo=some x->opd s x=opd s' x)(h2:∀ x,hi=some x->opd s x=opd s' x)(h3:∀ x,mx=some x->opd s x=opd s' x) :
  ady P t s y lo hi mx=ady P t s' y lo hi mx:=by
 unfold ady
 simp only[λn=>ajH (s:=s) (s':=s') (n:=n) h1 h2 h3]
theorem ai1{op:Op}(h:∀ x∈op.operands.toList,opd s x=opd s' x):sil P s op=sil P s' op:=by
 cases op with
 | move x | assign x=>simp only[sil];rw[h x (by simp[Op.operands])]
 | pick c a b=>
  simp only[sil]
  rw[h c (by simp[Op.operands]),h a (by simp[Op.operands]),h b (by simp[Op.operands])]
 | nilCheck x=>simp only[sil];rw[h x (by simp[Op.operands])]
 | binOp op t x y ty=>simp only[sil];rw[h x (by simp[Op.operands]),h y (by simp[Op.operands])]
 | unOp op t x=>simp only[sil];rw[h x (by simp[Op.operands])]
 | convert a b x=>simp only[sil];rw[h x (by simp[Op.operands])]
 | makeInterface t x=>simp only[sil];rw[h x (by simp[Op.operands])]
 | makeFunc fn first caps=>
  cases fn <;> simp only[sil]
  have:caps.toList.map (opd s)=caps.toList.map (opd s'):=List.map_congr_left λx hx=>h x (by simp[Op.operands];right;simpa using hx)
  rw[this]
 | slice t x lo hi mx=>
  simp only[sil]
  rw[h x (by simp[Op.operands])]
  exact afR (λy hy=>h y (by simp[Op.operands,hy])) (λy hy=>h y (by simp[Op.operands,hy])) (λy hy=>h y (by simp[Op.operands,hy]))
 | fieldAddr t x f=>simp only[sil];rw[h x (by simp[Op.operands])]
 | field t x f=>simp only[sil];rw[h x (by simp[Op.operands])]
 | indexAddr t x i=>simp only[sil];rw[h x (by simp[Op.operands]),h i (by simp[Op.operands])]
 | index t x i=>simp only[sil];rw[h x (by simp[Op.operands]),h i (by simp[Op.operands])]
 | extract x i=>simp only[sil];rw[h x (by simp[Op.operands])]
 | build t parts=>
  simp only[sil]
  congr 1
  refine List.map_congr_left λp hp=>?_
  show(p.1,opd s p.2)=(p.1,opd s' p.2)
  rw[h p.2 (by simp only[Op.operands,List.mem_map];exact⟨p,hp,rfl⟩)]
 | call c=>
  cases c with
  | mk callee args ts=>
   have hm:args.toList.map (opd s)=args.toList.map (opd s'):=List.map_congr_left λx hx=>h x (by simp[Op.operands,Call.operands];right;simpa using hx)
   have h0:∀ x,args[0]?=some x->opd s x=opd s' x:=λx hx=>h x (by
    simp[Op.operands,Call.operands];right
    exact Array.mem_of_getElem? hx)
   cases callee with
   | builtin b=>
    cases b <;> simp only[sil]
    case cap | len=>
     cases h1:args[0]? with
     | none=>cases ts[0]? <;> rfl
     | some x=>cases ts[0]? <;> simp only[h0 x h1]
    case max | min=>rw[hm]
   |_=>simp only[sil]
 |_=>simp only[sil]
theorem agZ{parts:Array (Nat×Operand)}(h:∀ x∈(parts.toList.map (·.2)),opd s x=opd s' x):parts.toList.map (λ(i,x)=>(i,opd s x))=parts.toList.map (λ(i,x)=>(i,opd s' x)):=
 List.map_congr_left λp hp=>by
  show(p.1,opd s p.2)=(p.1,opd s' p.2)
  rw[h p.2 (List.mem_map.2 ⟨p,hp,rfl⟩)]
theorem akj{op:Op}{b:Nat}(h:∀ x∈op.operands.toList,opd s x=opd s' x):alo P s b op=alo P s' b op:=by
 cases op with
 | box e x=>simp only[alo];rw[h x (by simp[Op.operands])]
 | buildSlice t len parts=>
  simp only[alo]
  rw[agZ (s:=s) (s':=s') (λx hx=>h x (by simpa[Op.operands]using hx))]
 | makeSlice t l c=>simp only[alo];rw[h l (by simp[Op.operands]),h c (by simp[Op.operands])]
 | convert a b x=>simp only[alo];rw[h x (by simp[Op.operands])]
 |_=>simp only[alo]
theorem akG{op:Op}(h:∀ x∈op.operands.toList,opd s x=opd s' x):rdo P s H op=rdo P s' H op:=by
 cases op with
 | load t x=>simp only[rdo];rw[h x (by simp[Op.operands])]
 | convert a b x=>simp only[rdo];rw[h x (by simp[Op.operands])]
 |_=>simp only[rdo]
theorem af3{op:Op}(h:∀ x∈op.operands.toList,opd s x=opd s' x):eff P s H op=eff P s' H op:=by
 cases op with
 | store t a x=>simp only[eff];rw[h a (by simp[Op.operands]),h x (by simp[Op.operands])]
 | convert u t x=>simp only[eff];rw[h x (by simp[Op.operands])]
 | makeMap t r=>cases r <;> simp only[eff]
 | lookup t m x ok=>simp only[eff,al6];rw[h m (by simp[Op.operands]),h x (by simp[Op.operands])]
 | mapUpdate t m x y=>simp only[eff];rw[h m (by simp[Op.operands]),h x (by simp[Op.operands]),h y (by simp[Op.operands])]
 | call c=>
  cases c with
  | mk callee args ts=>
   have hi:∀ (i:Nat) x,args[i]?=some x->opd s x=opd s' x:=λi x hx=>h x (by
    simp[Op.operands,Call.operands];right
    exact Array.mem_of_getElem? hx)
   cases callee with
   | builtin b=>
    cases b <;> simp only[eff]
    case append=>
     cases h0:args[0]? with
     | none=>cases ts[0]? <;> cases ts[1]? <;> rfl
     | some x=>
      cases h1:args[1]? with
      | none=>cases ts[0]? <;> cases ts[1]? <;> rfl
      | some y=>cases ts[0]? <;> cases ts[1]? <;> first | rfl | simp only[appNew,hi 0 x h0,hi 1 y h1]
    case copy=>
     cases h0:args[0]? with
     | none=>cases ts[0]? <;> rfl
     | some x=>
      cases h1:args[1]? with
      | none=>cases ts[0]? <;> rfl
      | some y=>cases ts[0]? <;> first | rfl | simp only[hi 0 x h0,hi 1 y h1]
    case clear=>
     cases h0:args[0]? with
     | none=>cases ts[0]? <;> rfl
     | some x=>cases ts[0]? <;> first | rfl | simp only[hi 0 x h0]
   |_=>simp only[eff]
 |_=>simp only[eff]
theorem ail{op:Op}(h:∀ x∈op.operands.toList,opd s x=opd s' x):effC P cf s H op=effC P cf s' H op:=by
 have he:eff P s H op=eff P s' H op:=af3 h
 cases op with
 | call c=>
  cases c with
  | mk callee args ts=>
   cases callee with
   | value f=>
    simp only[effC]
    have hm:args.toList.map (opd s)=args.toList.map (opd s'):=List.map_congr_left λx hx=>h x (by simp[Op.operands,Call.operands];right;simpa using hx)
    have hf:opd s f=opd s' f:=h f (by simp[Op.operands,Call.operands])
    simp only[calleeA,hm,hf]
   |_=>simp only[effC];exact he
 |_=>simp only[effC];exact he
theorem agU{ops:Array Oper}{o:Oper}(h:∀ j w d,o.guard=some (j,w)->(ops[j]?).bind (·.dst)=some d->s[d]?=s'[d]?):acl ops s o=acl ops s' o:=by
 unfold acl
 cases hg:o.guard with
 | none=>rfl
 | some p=>
  obtain⟨j,w⟩:=p
  simp only
  cases hd:(ops[j]?).bind (·.dst)with
  | none=>rfl
  | some d=>
   have:=h j w d hg hd
   simp only[this]
theorem aj0{sz:Nat}{x:A}{e:EL}(h:elsA H sz x=some e)(hl:∀ b∈x.refs,∀ k,live H b=some k->live H' b=some k):elsA H' sz x=some e:=by
 unfold elsA at h ⊢
 split at h
 ·exact h
 ·split at h
  ·rename_i hz
   simp only[Option.map_eq_some_iff]at h
   obtain⟨k,hk,rfl⟩:=h
   rw[if_pos hz,hl _ (by simp[A.refs,C.refs]) k hk];rfl
  ·cases h
 ·split at h
  ·rename_i hz
   simp only[Option.map_eq_some_iff]at h
   obtain⟨k,hk,rfl⟩:=h
   rw[if_pos hz,hl _ (by simp[A.refs,C.refs]) k hk];rfl
  ·cases h
 ·exact h
 ·cases h
theorem ajz{op:Op}(h:cls P op = .cnv):∃ src dst x,op = .convert src dst x:=by
 cases op with
 | convert src dst x=>exact⟨src,dst,x,rfl⟩
 | call c=>
  cases c with
  | mk callee args ts=>
   cases callee with
   | builtin b=>cases b <;> simp[cls]at h
   |_=>simp[cls]at h
 |_=>simp[cls]at h
theorem aeU{op:Op}{r:A}{H1:Heap}(hc:cls P op = .cnv)(h:eff P s H op=some (r,H1))(hl:∀ b∈pinned P s H op,∀ k,live H b=some k->live H' b=some k):H1=H/\eff P s H' op=some (r,H'):=by
 obtain⟨src,dst,x,rfl⟩:=ajz hc
 unfold pinned at hl
 rw[hc]at hl
 simp only at hl
 simp only[eff]at h ⊢
 split at h
 ·rename_i e b z n hd hx
  split at h
  ·rename_i k he hk
   have:=hl b (by rw[hx];simp[A.refs,C.refs]) k hk
   split at h
   ·rename_i hc2
    cases h
    refine⟨rfl,?_⟩
    simp only[hd,hx,he,this]
    rw[if_pos hc2]
   ·cases h
  ·cases h
 ·cases h
theorem amt{op:Op}{r:A}{n:Nat}(hc:cls P op = .rdo)(h:rdo P s H op=some r)(hl:∀ b∈pinned P s H op,∀ k,live H b=some k->live H' b=some k):rdo P s H' op=some r:=by
 unfold rdo at h ⊢
 split at h
 ·rename_i t x
  unfold pinned at hl
  rw[hc]at hl
  simp only at hl
  split at h
  ·rename_i g n hg hn
   try simp only[hg,hn]
   unfold loadA at h ⊢
   split at h
   ·exact h
   ·rename_i b sz i o hx
    split at h
    ·rename_i k hk
     have:=hl b (by rw[hx];simp[A.refs,C.refs]) k hk
     rw[this];exact h
    ·cases h
   ·cases h
  ·cases h
 ·rename_i src dst x
  unfold pinned at hl
  rw[hc]at hl
  simp only at hl
  split at h
  ·rename_i e hu hd
   try simp only[hu,hd]
   split at h
   ·rename_i l he hx
    try simp only[he]
    have:elsN H' 1 (opd s x)=some (.p l):=by
     unfold elsN at hx ⊢
     split at hx
     ·cases hx
     ·exact aj0 hx hl
    rw[this];exact h
   ·cases h
  ·cases h
 ·cases h
theorem agM{R:List Nat}{ks:List (Option Blk)}{X:Heap}{b:Nat}(hb:b<H.length)(h:b ∉ R):live (abk H R ks++X) b=live H b:=by
 rw[aar (by rw[setAll_len];exact hb)]
 simp only[live,abF h]
theorem ak2{op:Op}{r:A}(hc:cls P op = .eff)(h:effC P cf s H op=some (r,H')){b:Nat}(hb:b<H.length)(hn:b ∉ touched P s H op):live H' b=live H b:=by
 have refs1:∀ {x:A}{b':Nat},b ∉ x.refs->(∃ sz i o,x = .c (.ptr b' sz i o))∨(∃ sz i n c,x = .c (.sl b' sz i n c))∨(∃ sz n,x = .c (.slw b' sz n))->b≠b':=by
  rintro x b' hx (⟨_,_,_,rfl⟩ | ⟨_,_,_,_,rfl⟩ | ⟨_,_,rfl⟩) <;> simpa[A.refs,C.refs]using hx
 have hE:eff P s H op=some (r,H')->live H' b=live H b:=by
  intro h
  unfold eff at h
  split at h
  ·rename_i t x y
   simp only[touched]at hn
   split at h
   ·simp only[Option.map_eq_some_iff,Prod.mk.injEq]at h
    obtain⟨h',hst,_,rfl⟩:=h
    unfold storeA at hst
    split at hst
    ·rename_i b' sz i o cl hx hcl
     have hne:=refs1 hn (.inl ⟨_,_,_,hx⟩)
     split at hst
     ·split at hst
      ·split at hst
       ·split at hst
        ·cases hst;exact aah hne
        ·cases hst
       ·cases hst
      ·cases hst
     ·cases hst
    ·cases hst
   ·cases h
  ·rename_i args ts
   split at h
   ·rename_i t u x y _ _ hx _
    simp only[touched,hx]at hn
    split at h
    ·split at h
     ·split at h
      ·split at h
       ·unfold appendA at h
        split at h
        ·split at h
         ·split at h
          ·split at h
           ·simp only[Option.some.injEq,Prod.mk.injEq]at h;rw[<-h.2];exact aar hb
           ·cases h
          ·cases h
         ·cases h
        ·split at h
         ·simp only[Option.some.injEq,Prod.mk.injEq]at h;rw[<-h.2];exact aar hb
         ·cases h
        ·rename_i hx'
         have hne:=refs1 hn (.inr (.inr ⟨_,_,hx'⟩))
         split at h
         ·split at h
          ·split at h
           ·simp only[Option.some.injEq,Prod.mk.injEq]at h;rw[<-h.2]
            rw[aar (by simpa using hb)];exact aah hne
           ·cases h
          ·cases h
         ·cases h
        ·rename_i hx'
         have hne:=refs1 hn (.inr (.inl ⟨_,_,_,_,hx'⟩))
         split at h
         ·split at h
          ·split at h
           ·split at h
            ·simp only[Option.some.injEq,Prod.mk.injEq]at h;rw[<-h.2];exact aar hb
            ·cases h
           split at h
           ·split at h
            ·simp only[Option.some.injEq,Prod.mk.injEq]at h;rw[<-h.2];exact aah hne
            ·cases h
           ·split at h
            ·simp only[Option.some.injEq,Prod.mk.injEq]at h;rw[<-h.2];exact aar hb
            ·cases h
          ·cases h
         ·cases h
        ·rename_i hx'
         have hne:=refs1 hn (.inr (.inl ⟨_,_,_,_,hx'⟩))
         split at h
         ·split at h
          ·split at h
           ·simp only[Option.some.injEq,Prod.mk.injEq]at h;rw[<-h.2];exact aah hne
           ·split at h
            ·simp only[Option.some.injEq,Prod.mk.injEq]at h;rw[<-h.2]
             rw[aar (by simpa using hb)];exact aah hne
            ·cases h
          ·cases h
         ·cases h
        ·cases h
       ·cases h
      ·cases h
     ·cases h
    ·cases h
   ·cases h
  ·rename_i args ts
   split at h
   ·rename_i t x y _ hx _
    simp only[touched,hx]at hn
    split at h
    ·split at h
     ·split at h
      ·split at h
       ·unfold ajU at h
        split at h
        ·rename_i hx'
         have hne:=refs1 hn (.inr (.inr ⟨_,_,hx'⟩))
         split at h
         ·split at h
          ·simp only[Option.some.injEq,Prod.mk.injEq]at h;rw[<-h.2];exact aah hne
          ·cases h
         ·cases h
        ·rename_i hx'
         have hne:=refs1 hn (.inr (.inl ⟨_,_,_,_,hx'⟩))
         split at h
         ·split at h
          ·simp only[Option.some.injEq,Prod.mk.injEq]at h;rw[<-h.2];exact aah hne
          ·cases h
         ·cases h
        ·cases h
       ·cases h
      ·cases h
     ·cases h
    ·cases h
   ·cases h
  ·rename_i args ts
   split at h
   ·rename_i t x _ hx
    simp only[touched,hx]at hn
    split at h
    ·split at h
     ·split at h
      ·unfold agd at h
       split at h
       ·rename_i hx'
        have hne:=refs1 hn (.inr (.inr ⟨_,_,hx'⟩))
        split at h
        ·split at h
         ·simp only[Option.some.injEq,Prod.mk.injEq]at h;rw[<-h.2];exact aah hne
         ·cases h
        ·cases h
       ·rename_i hx'
        have hne:=refs1 hn (.inr (.inl ⟨_,_,_,_,hx'⟩))
        split at h
        ·split at h
         ·simp only[Option.some.injEq,Prod.mk.injEq]at h;rw[<-h.2];exact aah hne
         ·cases h
        ·cases h
       ·cases h
      ·cases h
     ·cases h
    ·cases h
   ·cases h
  ·split at h
   ·simp only[Option.some.injEq,Prod.mk.injEq]at h;rw[<-h.2];exact aar hb
   ·cases h
  ·simp only[Option.map_eq_some_iff,Prod.mk.injEq]at h
   obtain⟨_,_,_,rfl⟩:=h
   rfl
  ·rename_i t m x y
   simp only[touched]at hn
   split at h
   ·rename_i hm _ _
    split at h
    ·split at h
     ·simp only[Option.some.injEq,Prod.mk.injEq]at h;rw[<-h.2]
      refine aah ?_
      rw[hm]at hn
      simpa[A.refs,C.refs]using hn
     ·cases h
    ·cases h
   ·cases h
  ·split at h
   ·split at h
    ·split at h
     ·simp only[Option.some.injEq,Prod.mk.injEq]at h
      obtain⟨_,rfl⟩:=h
      rfl
     ·cases h
    ·cases h
   ·cases h
  ·cases h
 unfold effC at h
 split at h
 ·rename_i f args ts
  simp only[touched]at hn
  split at h
  ·rename_i fid l hl
   simp only[hl]at hn
   split at h
   ·split at h
    ·unfold ah8 at h
     simp only at h
     split at h
     ·simp only[Option.some.injEq,Prod.mk.injEq]at h
      rw[<-h.2]
      exact agM hb hn
     ·cases h
    ·cases h
   ·cases h
  ·cases h
 ·exact hE h
theorem ami{op:Op}{r:A}(h:evOp P cf s H op=some (r,H')):H.length<=H'.length:=by
 have hE:∀ {op},eff P s H op=some (r,H')->H.length<=H'.length:=by
  intro op h
  unfold eff at h
  split at h
  ·split at h
   ·simp only[Option.map_eq_some_iff,Prod.mk.injEq]at h
    obtain⟨h',hst,_,rfl⟩:=h
    unfold storeA at hst
    split at hst
    ·split at hst
     ·split at hst
      ·split at hst
       ·split at hst
        ·cases hst;simp
        ·cases hst
       ·cases hst
      ·cases hst
     ·cases hst
    ·cases hst
   ·cases h
  ·split at h
   ·split at h
    ·split at h
     ·split at h
      ·split at h
       ·unfold appendA at h
        (repeat' split at h) <;> (first | (cases h;done) | (simp only[Option.some.injEq,Prod.mk.injEq]at h;rw[<-h.2];simp))
       ·cases h
      ·cases h
     ·cases h
    ·cases h
   ·cases h
  ·split at h
   ·split at h
    ·split at h
     ·split at h
      ·split at h
       ·unfold ajU at h
        (repeat' split at h) <;> (first | (cases h;done) | (simp only[Option.some.injEq,Prod.mk.injEq]at h;rw[<-h.2];simp))
       ·cases h
      ·cases h
     ·cases h
    ·cases h
   ·cases h
  ·split at h
   ·split at h
    ·split at h
     ·split at h
      ·unfold agd at h
       (repeat' split at h) <;> (first | (cases h;done) | (simp only[Option.some.injEq,Prod.mk.injEq]at h;rw[<-h.2];simp))
      ·cases h
     ·cases h
    ·cases h
   ·cases h
  ·split at h
   ·simp only[Option.some.injEq,Prod.mk.injEq]at h;rw[<-h.2];simp
   ·cases h
  ·simp only[Option.map_eq_some_iff,Prod.mk.injEq]at h
   obtain⟨_,_,_,rfl⟩:=h
   exact Nat.le_refl _
  ·split at h
   ·split at h
    ·split at h
     ·simp only[Option.some.injEq,Prod.mk.injEq]at h;rw[<-h.2];simp
     ·cases h
    ·cases h
   ·cases h
  ·split at h
   ·split at h
    ·split at h
     ·simp only[Option.some.injEq,Prod.mk.injEq]at h
      obtain⟨_,rfl⟩:=h
      exact Nat.le_refl _
     ·cases h
    ·cases h
   ·cases h
  ·cases h
 unfold evOp at h
 split at h
 ·simp only[Option.map_eq_some_iff,Prod.mk.injEq]at h
  obtain⟨_,_,_,rfl⟩:=h
  exact Nat.le_refl _
 ·simp only[Option.map_eq_some_iff,Prod.mk.injEq]at h
  obtain⟨_,_,_,rfl⟩:=h
  exact Nat.le_refl _
 ·simp only[Option.map_eq_some_iff,Prod.mk.injEq]at h
  obtain⟨_,_,_,rfl⟩:=h
  simp
 ·unfold effC at h
  split at h
  ·split at h
   ·split at h
    ·split at h
     ·unfold ah8 at h
      simp only at h
      split at h
      ·simp only[Option.some.injEq,Prod.mk.injEq]at h
       rw[<-h.2]
       simp[setAll_len]
      ·cases h
     ·cases h
    ·cases h
   ·cases h
  ·exact hE h
 ·exact hE h
end Go.Ev
