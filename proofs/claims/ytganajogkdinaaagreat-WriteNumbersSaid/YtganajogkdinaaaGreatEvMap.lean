import Derived.Test.YtganajogkdinaaaGreatEvSil5
set_option linter.all false
namespace Go.Ev
set_option linter.unusedSimpArgs false
variable[Glo]
variable{P:Program}{Φ:Phi}{w:World}
theorem aeC{c:Nat}{l:Array MapEntry}{q:Nat}(h:w.heap[c]?=some (.map l q)):(getObj c).run P w = .ok (.map l q) w:=by
 simp only[getObj,Sem.run,h]
theorem aeN{c:Nat}{l:Array MapEntry}{q:Nat}{o:Obj}(h:w.heap[c]?=some (.map l q)):(setObj c o).run P w = .ok () { w with heap:=w.heap.setIfInBounds c o }:=by
 simp only[setObj,Sem.run,h]
def ac4:List (FV×FV)->FV->Option Nat
 | [],_=>none
 | (k,_)::r,x=>bif keyEq x k then some 0 else(ac4 r x).map (· + 1)
theorem afE:∀ (es:List (FV×FV)) (x:FV),mpGet es x=(ac4 es x).bind λj=>(es[j]?).map (·.2)
 | [],_=>rfl
 | (k,v)::r,x=>by
  simp only[mpGet,ac4]
  cases keyEq x k with
  | true=>rfl
  | false=>
   simp only[cond_false,afE r x]
   cases ac4 r x <;> rfl
theorem mpPut_idx:∀ (es:List (FV×FV)) (x v:FV),mpPut es x v=(match ac4 es x with
  | some j=>es.set j (x,v)
  | none=>es++[(x,v)])
 | [],_,_=>rfl
 | (k,u)::r,x,v=>by
  simp only[mpPut,ac4]
  cases keyEq x k with
  | true=>rfl
  | false=>
   simp only[cond_false,mpPut_idx r x v]
   cases ac4 r x <;> rfl
def descOf:Option IntKind->TypeDesc
 | none=>.string
 | some k=>.int k
theorem ajI{t:TypeId}{kk:Option IntKind}(h:kkOf P t=some kk):P.underlying t=some (descOf kk):=by
 unfold kkOf at h
 split at h <;> first | (cases h;assumption) | cases h
theorem aig{kk:Option IntKind}{x y:FV}{v u:Value}(hx:abC kk x=true)(hy:abC kk y=true)(rx:FVR Φ x v)(ry:FVR Φ y u):Instr.sameNow (descOf kk) v u=some (keyEq x y):=by
 cases kk with
 | none=>
  cases x <;> simp only[abC]at hx <;> try (cases hx;done)
  cases y <;> simp only[abC]at hy <;> try (cases hy;done)
  simp only[FVR]at rx ry
  subst rx;subst ry;rfl
 | some k=>
  cases x <;> simp only[abC]at hx <;> try (cases hx;done)
  cases y <;> simp only[abC]at hy <;> try (cases hy;done)
  simp only[FVR]at rx ry
  subst rx;subst ry
  simp only[decide_eq_true_eq]at hx hy
  subst hx;subst hy
  simp[descOf,Instr.sameNow,keyEq]
theorem aeK{kk:Option IntKind}{x:FV}{v:Value}(hx:abC kk x=true)(rx:FVR Φ x v):∀ {es:List (FV×FV)}{l:List MapEntry} (i:Nat),MR Φ kk es l →
  ∃ r,Instr.findNow (descOf kk) v l i=some r/\((ac4 es x=none/\r=none) ∨ ∃ j e,ac4 es x=some j/\l[j]?=some e/\r=some (i+j,e.val))
 | [],[],i,_=>⟨none,rfl,.inl ⟨rfl,rfl⟩⟩
 | [],_::_,i,h=>by have:=h.len;simp at this
 |_::_,[],i,h=>by have:=h.len;simp at this
 | (k,u)::es,e::l,i,h=>by
  obtain⟨e',h1,h2,h3,h4⟩:=h.ent 0 (k,u) rfl
  simp only[List.getElem?_cons_zero,Option.some.injEq]at h1
  subst h1
  simp only[Instr.findNow,aig hx h4 rx h2,ac4]
  cases keyEq x k with
  | true=>exact⟨_,rfl,.inr ⟨0,e,rfl,rfl,rfl⟩⟩
  | false=>
   have hm:MR Φ kk es l:=⟨by have:=h.len;simpa using this,λj y hy=>by simpa using h.ent (j+1) y (by simpa using hy)⟩
   obtain⟨r,r1,r2⟩:=aeK hx rx (i+1) hm
   refine⟨r,r1,?_⟩
   rcases r2 with⟨r2,r3⟩ | ⟨j,e2,r2,r3,r4⟩
   ·exact .inl ⟨by simp only[cond_false,r2];rfl,r3⟩
   ·exact .inr ⟨j+1,e2,by simp only[cond_false,r2];rfl,by simpa using r3,by rw[r4];congr 2;omega⟩
theorem acb{t:TypeId}{kk:Option IntKind}(h:kkOf P t=some kk):(underlying t).run P w = .ok (descOf kk) w:=by
 simp[underlying,ajI h]
theorem aez{t:TypeId}{kk:Option IntKind}{x:FV}{v:Value}{es:List (FV×FV)}{l:List MapEntry}(ht:kkOf P t=some kk)(hx:abC kk x=true)(rx:FVR Φ x v)(h:MR Φ kk es l) :
  ∃ r,(Instr.findKey t v l).run P w = .ok r w/\((ac4 es x=none/\r=none) ∨ ∃ j e,ac4 es x=some j/\l[j]?=some e/\r=some (j,e.val)):=by
 obtain⟨r,r1,r2⟩:=aeK hx rx 0 h
 refine⟨r,?_,?_⟩
 ·simp only[Instr.findKey,Sem.run_bind,acb ht,Result.andThen_ok,r1,Sem.run_pure]
 ·simpa only[Nat.zero_add]using r2
theorem ad1{t:TypeId}{kk:Option IntKind}{x:FV}{v:Value}(b:Bool)(ht:kkOf P t=some kk)(hx:abC kk x=true)(rx:FVR Φ x v):(Instr.checkKey b 10000 t v).run P w = .ok () w:=by
 obtain⟨d,hd⟩:∃ d,10000=d+1:=⟨9999,rfl⟩
 rw[hd]
 simp only[Instr.checkKey,Sem.run_bind,acb ht,Result.andThen_ok]
 cases kk with
 | none=>
  cases x <;> simp only[abC]at hx <;> try (cases hx;done)
  simp only[FVR]at rx;subst rx;rfl
 | some k=>
  cases x <;> simp only[abC]at hx <;> try (cases hx;done)
  simp only[FVR]at rx;subst rx;rfl
theorem ag7{kk:Option IntKind}{x y:FV}{v u:Value}(hx:abC kk x=true)(hy:abC kk y=true)(rx:FVR Φ x v)(ry:FVR Φ y u)(he:keyEq x y=true):Instr.sameBits 10000 u v=true:=by
 cases kk with
 | none=>
  cases x <;> simp only[abC]at hx <;> try (cases hx;done)
  cases y <;> simp only[abC]at hy <;> try (cases hy;done)
  simp only[FVR]at rx ry
  subst rx;subst ry
  simp only[keyEq]at he
  rw[Go.beq_toListBytes]at he
  simp only[beq_iff_eq]at he
  simp only[Instr.sameBits]
  rw[Go.beq_toListBytes]
  simp[he]
 | some k=>
  cases x <;> simp only[abC]at hx <;> try (cases hx;done)
  cases y <;> simp only[abC]at hy <;> try (cases hy;done)
  simp only[FVR]at rx ry
  subst rx;subst ry
  simp only[decide_eq_true_eq]at hx hy
  subst hx;subst hy
  simp only[keyEq,beq_iff_eq]at he
  simp[Instr.sameBits,he]
theorem afx:∀ {es:List (FV×FV)}{x:FV}{j:Nat},ac4 es x=some j->∃ y,es[j]?=some y/\keyEq x y.1=true
 | [],_,_,h=>by cases h
 | (k,u)::r,x,j,h=>by
  simp only[ac4]at h
  cases hk:keyEq x k with
  | true=>rw[hk]at h;cases h;exact⟨(k,u),rfl,hk⟩
  | false=>
   rw[hk]at h
   simp only[cond_false,Option.map_eq_some_iff]at h
   obtain⟨i,hi,rfl⟩:=h
   obtain⟨y,h1,h2⟩:=afx hi
   exact⟨y,by simpa using h1,h2⟩
theorem aiR{t:TypeId}{kk:Option IntKind}{z:FV}(h:mapT P t=some (kk,z)):∃ k e,P.underlying t=some (.map k e)/\kkOf P k=some kk/\alZ P e=some z:=by
 unfold mapT at h
 split at h
 ·rename_i k e hu
  split at h
  ·rename_i kk' z' h1 h2
   cases h
   exact⟨k,e,hu,h1,h2⟩
  ·cases h
 ·cases h
theorem agq{t:TypeId}{kk:Option IntKind}{z x y:FV}{v u:Value}{c:Nat}{es:List (FV×FV)}{l:Array MapEntry}{q:Nat}(ht:mapT P t=some (kk,z))(hx:abC kk x=true)(rx:FVR Φ x v)(ry:FVR Φ y u)
  (hw:w.heap[c]?=some (.map l q)) (h:MR Φ kk es l.toList) :
  ∃ l' q',(Instr.mapUpdate t (.map (some c)) v u).run P w = .ok () { w with heap:=w.heap.setIfInBounds c (.map l' q') }/\MR Φ kk (mpPut es x y) l'.toList:=by
 obtain⟨k,e,hu,hk,hz⟩:=aiR ht
 obtain⟨r,r1,r2⟩:=aez (w:=w) hk hx rx h
 have hU:(underlying t).run P w = .ok (.map k e) w:=by simp[underlying,hu]
 simp only[Instr.mapUpdate,Sem.run_bind,hU,Result.andThen_ok,aeC hw,ad1 false hk hx rx,r1]
 rcases r2 with⟨r2,rfl⟩ | ⟨j,en,r2,r3,rfl⟩
 ·refine⟨l.push { key:=v,val:=u,born:=q },q+1,by simp only[aeN hw],?_⟩
  rw[mpPut_idx,r2]
  refine⟨by simp[h.len],λi a ha=>?_⟩
  rw[List.getElem?_append]at ha
  split at ha
  ·rename_i hi
   obtain⟨e1,h1,h2⟩:=h.ent i a ha
   refine⟨e1,?_,h2⟩
   rw[Array.toList_push,List.getElem?_append_left (by rw[h.len];exact hi)]
   exact h1
  ·rename_i hi
   have hi:es.length<=i:=by omega
   have he:i-es.length=0:=by
    have:=(List.getElem?_eq_some_iff.1 ha).1
    simp at this;omega
   rw[he]at ha
   simp only[List.getElem?_cons_zero,Option.some.injEq]at ha
   subst ha
   refine⟨{ key:=v,val:=u,born:=q },?_,rx,ry,hx⟩
   rw[Array.toList_push,List.getElem?_append_right (by rw[h.len];exact hi),h.len,he]
   rfl
 ·obtain⟨y0,y1,y2⟩:=afx r2
  obtain⟨e1,g1,g2,g3,g4⟩:=h.ent j y0 y1
  rw[r3]at g1
  cases g1
  have hje:l[j]?=some en:=by rw[<-Array.getElem?_toList];exact r3
  have hbits:Instr.sameBits 10000 (((l[j]?).map (·.key)).getD v) v=true:=by
   rw[hje]
   exact ag7 hx g4 rx g2 y2
  refine⟨l.modify j λe=>{ e with key:=v,val:=u },q,?_,?_⟩
  ·simp only[Sem.run_bind,Instr.keyThatStays,hbits,if_true,Sem.run_pure,Result.andThen_ok,aeN hw]
  ·rw[mpPut_idx,r2]
   refine⟨by simp[h.len],λi a ha=>?_⟩
   rw[Array.getElem?_toList,Array.getElem?_modify]
   rw[List.getElem?_set]at ha
   split at ha
   ·rename_i hij
    subst hij
    rw[if_pos rfl,hje]
    split at ha
    ·cases ha
     exact⟨_,rfl,rx,ry,hx⟩
    ·cases ha
   ·rename_i hij
    rw[if_neg hij]
    obtain⟨e1,h1,h2⟩:=h.ent i a ha
    exact⟨e1,by rw[<-Array.getElem?_toList];exact h1,h2⟩
theorem aib{e:TypeId}{z:FV}(hz:alZ P e=some z):∃ v,(zeroValue e).run P w = .ok v w/\FVR Φ z v:=by
 unfold alZ at hz
 split at hz
 ·rename_i v hv
  obtain⟨i,hi,hv⟩:=Option.bind_eq_some_iff.1 hv
  refine⟨v,by simp[zeroValue,typeInfo,hi,hv],?_⟩
  exact ac2 hz
 ·cases hz
theorem ai3{t:TypeId}{kk:Option IntKind}{z x:FV}{v:Value}{c:Nat}{es:List (FV×FV)}{l:Array MapEntry}{q:Nat}(ok:Bool)(ht:mapT P t=some (kk,z))(hx:abC kk x=true)(rx:FVR Φ x v)
  (hw:w.heap[c]?=some (.map l q)) (h:MR Φ kk es l.toList) :
  ∃ u,FVR Φ ((mpGet es x).getD z) u/\(Instr.lookup t (.map (some c)) v ok).run P w = .ok (if ok then .tuple #[u,.bool (mpGet es x).isSome]else u) w:=by
 obtain⟨k,e,hu,hk,hz⟩:=aiR ht
 obtain⟨r,r1,r2⟩:=aez (w:=w) hk hx rx h
 have hU:(underlying t).run P w = .ok (.map k e) w:=by simp[underlying,hu]
 simp only[Instr.lookup,Sem.run_bind,hU,Result.andThen_ok,aeC hw,Sem.run_pure,ad1 l.isEmpty hk hx rx,r1]
 rw[afE]
 rcases r2 with⟨r2,rfl⟩ | ⟨j,en,r2,r3,rfl⟩
 ·obtain⟨u,u1,u2⟩:=aib (Φ:=Φ) (w:=w) hz
  rw[r2]
  exact⟨u,u2,by simp[u1]⟩
 ·obtain⟨y0,y1,y2⟩:=afx r2
  obtain⟨e1,g1,g2,g3,g4⟩:=h.ent j y0 y1
  rw[r3]at g1
  cases g1
  rw[r2]
  simp only[Option.bind_some,y1,Option.map_some,Option.getD_some,Option.isSome_some]
  exact⟨en.val,g3,by simp⟩
section
variable{ρ:Rho}{H:Heap}{s:List A}{a:Act}
theorem ame{o:Oper}{t:TypeId}{m x:Operand}{ok:Bool}{r:A}(ho:o.op = .lookup t m x ok)(h:al6 P s H t m x ok=some r)(hs:SR Φ ρ H s a.tmps)(hr:HR Φ ρ H w) :
  ∃ z,(execOp a.eval o).run P w = .ok (.value z) w/\AR Φ ρ H r z:=by
 have val_run:∀ {x:Sem Value}{z:Value}{w w':World},x.run P w = .ok z w'->(do pure (.value (<-x)):Sem Next).run P w = .ok (.value z) w':=by
  intro x z w w' h
  rw[Sem.run_bind,h];rfl
 unfold al6 at h
 split at h
 ·rename_i kk z b k ht hm hx
  split at h
  ·rename_i kk' es hk
   split at h
   ·rename_i hc
    obtain⟨rfl,hkey⟩:=hc
    have rm:=aaN hs m
    rw[hm]at rm
    simp only[AR,CR]at rm
    obtain⟨c,rm,_,h1⟩:=rm
    obtain⟨inf,g1,rfl⟩:=h1 _ hk
    obtain⟨_,l,q,g2,g3⟩:=hr.mps b kk es inf hk g1
    have rx:=aaN hs x
    rw[hx]at rx
    simp only[AR,CR]at rx
    obtain⟨u,u1,u2⟩:=ai3 (w:=w) ok ht hkey rx g2 g3
    have run:(execOp a.eval o).run P w = .ok (.value (if ok=true then .tuple #[u,.bool (mpGet es k).isSome]else u)) w:=by
     simp only[execOp,ho]
     refine val_run ?_
     rw[rm]
     exact u2
    cases h
    cases ok with
    | false=>exact⟨_,run,by simp only[cond_false,AR,CR];exact u1⟩
    | true=>exact⟨_,run,by simp only[cond_true,AR,ARs,CR,FVR];exact⟨_,rfl,u,_,rfl,u1,_,_,rfl,rfl,rfl⟩⟩
   ·cases h
  ·cases h
 ·cases h
end
end Go.Ev
