import Derived.Test.YtganajogkdinaaaGreatEvOps
set_option linter.all false
namespace Go.Ev
variable[Glo]
set_option linter.unusedSimpArgs false
variable{P:Program}{Φ:Phi}{ρ:Rho}{H:Heap}{s:List A}{a:Act}{w w':World}
section
variable{ts:Array TypeId}{args:Array Value}{ty t t2 el:TypeId}{sz bytes n k:Nat}{p:Option Addr}{u:Value}{e:EL}{vs:List Value}
def aeX(ρ:Rho)(H:Heap)(w:World)(b:Nat)(ρ':Rho)(w':World):Prop:=
 ρ' H.length=ρ b∨((∀ inf,ρ' H.length=some inf->w.heap.size<=inf.c)/\∀ d,d<w.heap.size->w'.heap[d]?=w.heap[d]?)
theorem alu{old:List Value}{E:EL}{H1:Heap}(hs:Ap P Φ ρ H w ts args ty el sz bytes e vs (.slice p n k))(hr:HR Φ ρ H w)(hl:Less H H1)(hroom:room (n+e.len) bytes=true)(hlt:k<n+e.len)
  (hold:∀ w1:World,w1.heap=w.heap->(Builtin.firstCells sz n (.slice p n k)).run P w1 = .ok old.toArray w1) (hE:E.len=n) (hol:old.length=n*sz) (hoE:ELR Φ ρ H E sz (old[·]?) 0) (b:Nat) :
  ∃ z w' ρ',(Builtin.append_ ts ty args).run P w = .ok z w'/\Stp Φ ρ H w Φ ρ' (H1++[some ((E.app e).blk sz)]) w'/\AR Φ ρ' (H1++[some ((E.app e).blk sz)]) (.c (.slw H.length sz (n+e.len))) z/\aeX ρ H w b ρ' w':=by
 obtain⟨cap,arr,w',r1,r2,r3,r4,r5,r6,r7,r8,r9⟩:=hs.grow rfl hroom hlt hold hol
 have hle:(n+e.len)*sz<=cap*sz:=Nat.mul_le_mul_right _ r2
 refine⟨_,w',upd ρ H.length (some ⟨w.heap.size,0,arr.size⟩),r1,?_,?_,.inr ⟨λinf hi=>?_,λd hd=>r4 d hd⟩⟩
 ·refine ab3 hr hl (λd hd _=>r4 d hd) r3 (acP hr (Nat.le_refl _)) (.inl (Nat.le_refl _)) (λb x i hx hi=>by have:=ab4 hr (hl.sub _ _ hx) hi;simp only;omega)
   r5 (.inl rfl) rfl ?_ (aau (aby hl) ?_) r9
  ·rw[EL.blk_len,EL.blk_sz,EL.app_len,hE,r6];simp only;omega
  ·rw[EL.blk_el,EL.blk_sz,ELR_c,EL.app_c]
   have h1:=hs.rel
   rw[ELR_c]at h1 hoE
   refine aeb hoE h1 ?_ ?_
   ·intro j hj
    rw[EL.c_len,hE]at hj
    simpa using r7 j hj
   ·intro j hj
    rw[EL.c_len]at hj
    rw[EL.c_len,hE]
    simpa using r8 j hj
 ·simp only[AR,CR]
  refine⟨_,_,rfl,r2,by simp,by simp[hl.len],λx hx=>?_⟩
  rw[show H.length=H1.length from hl.len.symm,aal]at hx
  cases hx
  refine⟨EL.blk_sz _ _,by rw[EL.blk_len,EL.app_len,hE],.inr ⟨_,upd_self,by simp,?_⟩⟩
  simp[r6]
 ·rw[upd_self]at hi
  cases hi
  exact Nat.le_refl _
theorem aij{b z:Nat}{r:A}{v:Value}{H':Heap}(h:appendA H sz bytes (.c (.slw b z n)) e=some (r,H'))(hx:AR Φ ρ H (.c (.slw b z n)) v)(hr:HR Φ ρ H w)(hs:Ap P Φ ρ H w ts args ty el sz bytes e vs v)(hsz:0<sz) :
  ∃ y w' ρ',(Builtin.append_ ts ty args).run P w = .ok y w'/\Stp Φ ρ H w Φ ρ' H' w'/\AR Φ ρ' H' r y/\aeX ρ H w b ρ' w':=by
 have oldOf:∀ {E:EL},elsA H sz (.c (.slw b z n))=some E->∃ old:List Value,old.length=E.len*sz/\ELR Φ ρ H E sz (old[·]?) 0 ∧
   ∀ w1:World,w1.heap=w.heap->(Builtin.firstCells sz E.len v).run P w1 = .ok old.toArray w1:=by
  intro E hE
  obtain⟨o,h1⟩:=Src.of (P:=P) hE hx hr hsz
  exact⟨o,h1.len,h1.rel,h1.cells⟩
 have vnil:∀ {q:Option Addr}{m off:Nat},e.len=0->(stInto q off vs).run P w = .ok () w:=by
  intro q m off h0
  have:vs=[]:=List.eq_nil_of_length_eq_zero (by rw[hs.len,h0];simp)
  subst this
  cases q <;> simp[stInto,storeCells]
 simp only[appendA]at h
 split at h
 ·rename_i hz
  split at h
  ·rename_i kb hkb
   split at h
   ·rename_i hroom
    simp only[Option.some.injEq,Prod.mk.injEq]at h
    obtain⟨rfl,rfl⟩:=h
    have hel:elsA H sz (.c (.slw b z n))=some kb.el:=by simp[elsA,hz,hkb]
    obtain⟨old,o1,o2,o3⟩:=oldOf hel
    simp only[AR,CR]at hx
    obtain⟨p,k,hv,hk,hpn,hb,h1⟩:=hx
    subst hv
    obtain⟨g1,g2,g4⟩:=h1 kb hkb
    have hEl:kb.el.len=n:=by rw[Blk.el_len];omega
    rw[hEl]at o1 o3
    by_cases hfit:n+e.len<=k
    ·have hrun:=hs.run rfl hfit
     rcases g4 with⟨g4,g5⟩ | ⟨inf,g4,g5,g6⟩
     ·have h0:e.len=0:=by omega
      rw[vnil (m:=0) h0]at hrun
      refine⟨_,w,upd ρ H.length none,hrun,aaZ hr (Less.kill H b),?_,.inr ⟨λinf hi=>(by rw[upd_self]at hi;cases hi),λ_ _=>rfl⟩⟩
      simp only[AR,CR]
      refine⟨_,_,rfl,by omega,by omega,by simp,λx hx=>?_⟩
      have hlen:(H.set b none).length=H.length:=by simp
      rw[<-hlen,aal]at hx;cases hx
      exact⟨EL.blk_sz _ _,by rw[EL.blk_len,EL.app_len,hEl],.inl ⟨by omega,g5⟩⟩
     ·subst g5
      obtain⟨f1,arr,ty',fz,hw,f3,f4,f5,he⟩:=hr.own b kb inf hkb (Blk.cel (by omega)) g4
      subst hz
      have hmul:(n+e.len)*z<=k*z:=Nat.mul_le_mul_right _ hfit
      rw[Nat.add_mul]at hmul
      obtain⟨w',arr',r1,r2,r3,r4,r5,r6,r7⟩:=aaT (P:=P) (vs:=vs) (i:=0) (off:=inf.base+n*z) hw (by rw[hs.len];omega) f3.weak hs.one
      simp only[Nat.add_zero]at r6
      have hst:(stInto (some ⟨inf.c,inf.base,none⟩) (n*z) vs).run P w = .ok () w':=by simp only[stInto,addr_add];exact r1
      rw[hst]at hrun
      refine⟨_,w',upd ρ H.length (some inf),hrun,?_,?_,.inl (by rw[upd_self];exact g4.symm)⟩
      ·refine ab3 (arr':=arr') hr (Less.kill H b) (λd _ hd=>r3 d hd) (Nat.le_of_eq r2.symm) f1 (.inr ⟨b,kb,inf,hkb,g4,rfl⟩) ?_ r4 (by rw[r5];exact f3) (by omega) ?_ (aau (aby (Less.kill H b)) ?_) r7
       ·intro b' x i hx hi he
        obtain⟨q1,q2⟩:=aaC hx
        exact q1 (hr.inj b' b x kb i inf q2 hkb hi g4 he)
       ·rw[EL.blk_len,EL.blk_sz,EL.app_len,hEl,Nat.add_mul];omega
       ·rw[EL.blk_el,EL.blk_sz,ELR_c,EL.app_c]
        have h1:=hs.rel
        rw[ELR_c]at h1 he
        rw[g1]at he
        refine aeb he h1 ?_ ?_
        ·intro j hj
         rw[EL.c_len,hEl]at hj
         rw[r6,if_neg (by omega)]
        ·intro j hj
         rw[EL.c_len]at hj
         rw[EL.c_len,hEl]
         rw[r6,if_pos (by rw[hs.len];omega)]
         simp only[Nat.zero_add]
         congr 1;omega
      ·simp only[AR,CR]
       refine⟨_,_,rfl,hfit,by simp,by simp,λx hx=>?_⟩
       have hlen:(H.set b none).length=H.length:=by simp
       rw[<-hlen,aal]at hx;cases hx
       refine⟨EL.blk_sz _ _,by rw[EL.blk_len,EL.app_len,hEl],.inr ⟨inf,upd_self,rfl,g6⟩⟩
    ·exact alu (ty:=ty) (E:=kb.el) hs hr (Less.kill H b) hroom (by omega) o3 hEl o1 o2 b
   ·cases h
  ·cases h
 ·cases h
end
theorem alP{o:Oper}{r:A}{H':Heap}{args:Array Operand}{ts:Array TypeId}{x0:Operand}{b z n:Nat}(ho:o.op = .call { callee:=.builtin .append,args:=args,argTypes:=ts })(hx0:args[0]?=some x0)(hb0:opd s x0 = .c (.slw b z n))
  (h:eff P s H o.op=some (r,H')) (hs:SR Φ ρ H s a.tmps) (hr:HR Φ ρ H w) :
  ∃ w' ρ' y,(execOp a.eval o).run P w = .ok (.value y) w'/\Stp Φ ρ H w Φ ρ' H' w'/\AR Φ ρ' H' r y/\aeX ρ H w b ρ' w':=by
 have hO:∀ x,AR Φ ρ H (opd s x) (a.eval x):=aaN hs
 have val_run':∀ {x:Sem Value}{z:Value}{w w':World},x.run P w = .ok z w'->(do pure (.value (<-x)):Sem Next).run P w = .ok (.value z) w':=by
  intro x z w w' h
  rw[Sem.run_bind,h];rfl
 rw[ho]at h
 simp only[eff]at h
 split at h
 ·rename_i t t2 x y ht ht2 hx hy
  rw[hx0]at hx
  cases hx
  split at h
  ·rename_i e he
   have hu:=aa2 he
   split at h
   ·rename_i sz bytes hsz hby
    split at h
    ·rename_i hc
     obtain⟨h0,hz⟩:=hc
     have hz':∃ z,acn P e=some z/\z.length=sz:=by
      unfold zOk at hz
      split at hz
      ·rename_i z hz';exact⟨z,hz',by simpa using hz⟩
      ·cases hz
     split at h
     ·rename_i new hnew
      have hap:∃ vs,Ap P Φ ρ H w ts (args.map a.eval) o.type e sz bytes new vs (a.eval x0):=by
       unfold appNew at hnew
       split at hnew
       ·rename_i kt hd
        split at hnew
        ·rename_i kd m z hm hzz
         split at hnew
         ·rename_i hcc
          cases hnew
          have hy':=hO y
          rw[hm]at hy'
          simp only[AR,CR,FVR]at hy'
          obtain⟨z2,e1,e2⟩:=hz'
          rw[hzz]at e1;cases e1
          exact Ap.zeros (t:=t) (t2:=t2) (kd:=kd) ⟨ht,ht2,abb hx0,by rw[abb hy,hy'],hu,⟨kt,hd⟩,hsz,hby,hzz,e2,h0,hcc.1,hcc.2⟩
         ·cases hnew
        ·cases hnew
       ·rename_i d hni hd
        obtain⟨vs,hsrc⟩:=Src.of (P:=P) hnew (hO y) hr h0
        exact⟨vs,Ap.of (t:=t) (t2:=t2) ⟨ht,ht2,abb hx0,abb hy,hu,⟨d,hd,λk hk=>hni k (by rw[hk])⟩,hsz,hby,hz'⟩ hsrc⟩
       ·cases hnew
      obtain⟨vs,hap⟩:=hap
      have hv:=hO x0
      rw[hb0]at h hv
      obtain⟨y',w',ρ',r1,r2,r3,r4⟩:=aij (ty:=o.type) h hv hr hap h0
      exact⟨w',ρ',y',by rw[aaE ho];exact val_run' r1,r2,r3,r4⟩
     ·cases h
    ·cases h
   ·cases h
  ·cases h
 ·cases h
theorem aee{d:Option Tmp}{z:Value}{i:Nat}(h:d≠some i):(a.put d z).tmps[i]?=a.tmps[i]?:=by
 cases d with
 | none=>rfl
 | some d=>simp only[Act.put];exact Array.getElem?_setIfInBounds_ne (λe=>h (by rw[e]))
theorem adp{l2:List Oper}{cf:aaj}(hcf:aa7 P cf){ops:Array Oper}{Q:Exit->Act->World->Prop}:∀ {l:List Oper}{st st':St}{Φ:Phi}{ρ:Rho}{a:Act}{w:World},evOps P cf ops l st=some st'->SR Φ ρ st.h st.s a.tmps->HR Φ ρ st.h w →
  (∀ a' w',Goes Φ ρ st.h a w st' a' w'->(∀ i,(∀ o∈l,o.dst≠some i)->a'.tmps[i]?=a.tmps[i]?)->wpList P ops Q l2 a' w')->wpList P ops Q (l++l2) a w
 | [],st,st',Φ,ρ,a,w,h,hs,hr,hQ=>by
  simp only[evOps]at h;cases h
  exact hQ a w ⟨Φ,ρ,Stp.refl hr,hs,rfl⟩ (λ_ _=>rfl)
 | o::l,st,st',Φ,ρ,a,w,h,hs,hr,hQ=>by
  simp only[evOps]at h
  split at h
  ·rename_i hw
   have hw':=abR hw hs
   split at h
   ·rename_i r H' ho
    rw[List.cons_append]
    unfold wpList
    rw[if_pos hw']
    left
    refine agO hcf ho hs hr (λz w' Φ' ρ' stp hz=>?_)
    refine adp hcf h (adA (aaW stp.ext hs) hz) stp.hr (λa' w'' hg hk=>hQ a' w'' ?_ λi hi=>?_)
    ·obtain⟨Φ'',ρ'',g1,g2,g3⟩:=hg
     exact⟨Φ'',ρ'',stp.trans g1,g2,by rw[g3,aa9]⟩
    ·rw[hk i (λo' ho'=>hi o' (List.mem_cons_of_mem _ ho'))]
     exact aee (hi o (List.mem_cons_self ..))
   ·cases h
  ·rename_i hw
   have hw':=abR hw hs
   rw[List.cons_append]
   unfold wpList
   rw[if_neg (by simp[hw'])]
   refine adp hcf h (adA hs (by simp only[AR];exact⟨#[],rfl,by simp[ARs]⟩)) hr (λa' w'' hg hk=>hQ a' w'' ?_ λi hi=>?_)
   ·obtain⟨Φ'',ρ'',g1,g2,g3⟩:=hg
    exact⟨Φ'',ρ'',g1,g2,by rw[g3,aa9]⟩
   ·rw[hk i (λo' ho'=>hi o' (List.mem_cons_of_mem _ ho'))]
    exact aee (hi o (List.mem_cons_self ..))
  ·cases h
theorem aja{o:Oper}{r:A}{H':Heap}{args:Array Operand}{ts:Array TypeId}{x0:Operand}{b z n:Nat}(ho:o.op = .call { callee:=.builtin .append,args:=args,argTypes:=ts })(hx0:args[0]?=some x0)(hb0:opd s x0 = .c (.slw b z n))
  (h:eff P s H o.op=some (r,H')):∃ k e,live H b=some k/\H'=H.set b none++[some ((k.el.app e).blk z)]:=by
 rw[ho]at h
 simp only[eff]at h
 split at h
 ·rename_i t t2 x y ht ht2 hx hy
  rw[hx0]at hx
  cases hx
  split at h
  ·split at h
   ·split at h
    ·split at h
     ·rename_i new hnew
      rw[hb0]at h
      simp only[appendA]at h
      split at h
      ·rename_i hz
       split at h
       ·rename_i kb hkb
        split at h
        ·simp only[Option.some.injEq,Prod.mk.injEq]at h
         obtain⟨-,rfl⟩:=h
         exact⟨kb,new,hkb,by rw[hz]⟩
        ·cases h
       ·cases h
      ·cases h
     ·cases h
    ·cases h
   ·cases h
  ·cases h
 ·cases h
theorem alQ{ρ':Rho}{H':Heap}{x:A}{v:Value}(h:AR Φ ρ H x v):AR Φ ρ' H' (als x) v:=by
 unfold als
 split
 ·simpa only[AR,CR]using h
 ·simpa only[AR,ARs]using h
 ·simp only[AR]
theorem acw{b:Nat}{k:Blk}(h:af5 H=true)(hl:live H b=some k):∃ sz l,k = .pur sz l:=by
 unfold live at hl
 split at hl
 ·rename_i k' hk
  cases hl
  have:=List.all_eq_true.1 h _ (List.mem_of_getElem? hk)
  cases k with
  | pur sz l=>exact⟨sz,l,rfl⟩
  | mix sz l=>exact absurd this (by simp)
  | mp kk es=>exact absurd this (by simp)
 ·cases hl
theorem afM{ds:List Tmp}:∀ {i:Nat}{s s2:List A}{j:Nat}{x:A},(restS ds i s s2)[j]?=some x->∃ a b,s[j]?=some a/\s2[j]?=some b/\x=if ds.contains (i+j)then als b else a
 |_,[],_,_,_,h=>by simp[restS]at h
 |_,_::_,[],_,_,h=>by simp[restS]at h
 | i,a::s,b::s2,0,x,h=>by
  simp only[restS,List.getElem?_cons_zero,Option.some.injEq]at h
  exact⟨a,b,rfl,rfl,by rw[Nat.add_zero];exact h.symm⟩
 | i,a::s,b::s2,j+1,x,h=>by
  simp only[restS,List.getElem?_cons_succ]at h
  obtain⟨a',b',h1,h2,h3⟩:=afM h
  exact⟨a',b',h1,h2,by rw[h3,show i+1+j=i+(j+1)by omega]⟩
theorem agh{ds:List Tmp}:∀ {i:Nat}{s s2:List A},s2.length=s.length->(restS ds i s s2).length=s.length
 |_,[],[],_=>rfl
 |_,[],_::_,h=>by simp at h
 |_,_::_,[],h=>by simp at h
 | i,a::s,b::s2,h=>by simp only[restS,List.length_cons];rw[agh (by simpa using h)]
theorem akn{n b:Nat}{H H2:Heap}(h:H2.take n=H.take n)(hb:b<n):live H2 b=live H b:=by
 have:(H2.take n)[b]?=(H.take n)[b]?:=by rw[h]
 rw[List.getElem?_take_of_lt hb,List.getElem?_take_of_lt hb]at this
 unfold live
 rw[this]
theorem akO{l m:List (List FV)}{sz:Nat}{g:Nat->Option Value}:∀ {off:Nat},FVRe Φ (l++m) sz g off->FVRe Φ l sz g off:=by
 induction l with
 | nil=>intro off _;simp only[FVRe]
 | cons x r ih=>
  intro off h
  simp only[List.cons_append,FVRe]at h ⊢
  exact⟨h.1,h.2.1,ih h.2.2⟩
theorem alg{l m:List (List C)}{sz:Nat}{g:Nat->Option Value}:∀ {off:Nat},CRe Φ ρ H (l++m) sz g off->CRe Φ ρ H l sz g off:=by
 induction l with
 | nil=>intro off _;simp only[CRe]
 | cons x r ih=>
  intro off h
  simp only[List.cons_append,CRe]at h ⊢
  exact⟨h.1,h.2.1,ih h.2.2⟩
theorem aow{Φ2:Phi}{ρ1 ρ2:Rho}{w1 w2:World}{H2:Heap}{b sz:Nat}{els:List (List FV)}{e:EL}(hr:HR Φ ρ H w)(hp:af5 H=true)(hk:live H b=some (.pur sz els))
  (s1:Stp Φ ρ H w Φ ρ1 (H.set b none++[some (((EL.p els).app e).blk sz)]) w1) (hin:aeX ρ H w b ρ1 w1)
  (s2:Stp Φ ρ1 (H.set b none++[some (((EL.p els).app e).blk sz)]) w1 Φ2 ρ2 H2 w2)
  (hsame:H2.take (H.length+1)=H.set b none++[some (((EL.p els).app e).blk sz)]):Stp Φ ρ H w Φ2 ρ2 H w2:=by
 have st:=s1.trans s2
 have hb:=aaK hk
 have hlen:(H.set b none).length=H.length:=by simp
 have h1len:(H.set b none++[some (((EL.p els).app e).blk sz)]).length=H.length+1:=by simp
 have same:∀ j,j<H.length+1->live H2 j=live (H.set b none++[some (((EL.p els).app e).blk sz)]) j:=λj hj=>akn (n:=H.length+1) (by rw[hsame,List.take_of_length_le (by omega)]) hj
 have lnew:live H2 H.length=some (((EL.p els).app e).blk sz):=by
  rw[same _ (by omega),<-hlen,aal]
 have lold:∀ j,j<H.length->j≠b->live H2 j=live H j:=λj hj hne=>by
  rw[same j (by omega)]
  unfold live
  rw[List.getElem?_append_left (by omega),List.getElem?_set_ne (by omega)]
 have hrho:∀ j,j<H.length->ρ2 j=ρ j:=st.ext.rho
 have ext:Ext Φ ρ H Φ2 ρ2 H:=⟨st.ext.phi,Nat.le_refl _,hrho,λj k hj hk=>⟨k,hk,rfl,rfl⟩⟩
 refine⟨ext,⟨st.hr.fro,λj k inf hj hmj hi=>?_,λj j' k k' inf inf' h1 h2 h3 h4 h5=>?_,st.hr.glo,λj kk es inf hj _=>by obtain⟨_,_,hq⟩:=acw hp hj;cases hq⟩,st.fr,λc hf=>?_,st.fz,st.sz,st.io⟩
 ·have hjl:=aaK hj
  obtain⟨sz',l',rfl⟩:=acw hp hj
  by_cases hjb:j=b
  ·subst hjb
   rw[hk]at hj
   cases hj
   rw[hrho _ hjl]at hi
   obtain⟨o1,arr,ty,fz,o2,o3,o4,o5,o6⟩:=hr.own j _ inf hk rfl hi
   rcases hin with hin | ⟨i1,i2⟩
   ·have hi2:ρ2 H.length=some inf:=by rw[s2.ext.rho H.length (by omega),hin,hi]
    obtain⟨q1,arr2,ty2,fz2,q2,q3,q4,q5,q6⟩:=st.hr.own _ _ inf lnew (EL.blk_cel _ _) hi2
    refine⟨q1,arr2,ty2,fz2,q2,q3,q4,?_,?_⟩
    ·rw[EL.blk_len,EL.blk_sz,EL.app_len]at q5
     have:els.length*sz<=(els.length+e.len)*sz:=Nat.mul_le_mul_right _ (by omega)
     rw[show(EL.p els).len=els.length from rfl]at q5
     show inf.base+els.length*sz<=arr2.size
     omega
    ·rw[EL.blk_el,EL.blk_sz]at q6
     simp only[Blk.el,Blk.sz,ELR]
     cases e with
     | p m=>exact akO q6
     | m m=>
      simp only[EL.app,ELR]at q6
      have:=alg q6
      exact api.1 this
   ·have hcl:inf.c<w.heap.size:=(Array.getElem?_eq_some_iff.1 o2).1
    have nf:¬Foot ρ1 (H.set j none++[some (((EL.p els).app e).blk sz)]) inf.c:=by
     rintro ⟨b0,k0,inf0,f1,f2,f3⟩
     by_cases hb0:b0<H.length
     ·have hne:b0≠j:=by
       rintro rfl
       unfold live at f1
       rw[List.getElem?_append_left (by omega),List.getElem?_set_self hb0]at f1
       cases f1
      have f1':live H b0=some k0:=by
       unfold live at f1 ⊢
       rw[List.getElem?_append_left (by omega),List.getElem?_set_ne (by omega)]at f1
       exact f1
      rw[s1.ext.rho b0 hb0]at f2
      exact hne (hr.inj b0 j k0 _ inf0 inf f1' hk f2 hi f3)
     ·have hb1:=aaK f1
      have:b0=H.length:=by omega
      subst this
      have:=i1 _ f2
      omega
    have e2:w2.heap[inf.c]?=w.heap[inf.c]?:=by rw[s2.fr _ (by have:=s1.sz;omega) nf,i2 _ hcl]
    refine⟨?_,arr,ty,fz,by rw[e2];exact o2,o3,o4,o5,?_⟩
    ·cases hΦ:Φ2 inf.c with
     | none=>rfl
     | some a2=>
      rcases s2.fz _ _ hΦ with h | h | h
      ·rw[o1]at h;cases h
      ·exact absurd h nf
      ·have:=s1.sz;omega
    ·exact aau ext o6
  ·have l2:live H2 j=some (.pur sz' l'):=by rw[lold j hjl hjb];exact hj
   obtain⟨q1,arr2,ty2,fz2,q2,q3,q4,q5,q6⟩:=st.hr.own _ _ inf l2 rfl hi
   exact⟨q1,arr2,ty2,fz2,q2,q3,q4,q5,q6⟩
 ·rw[hrho _ (aaK h1)]at h3
  rw[hrho _ (aaK h2)]at h4
  exact hr.inj j j' k k' inf inf' h1 h2 h3 h4 h5
 ·obtain⟨b0,k0,inf0,f1,f2,f3⟩:=hf
  rw[hrho _ (aaK f1)]at f2
  exact .inl ⟨b0,k0,inf0,f1,f2,f3⟩
theorem ago{s:List A}{op:Op}{b:Nat}(h:aeI s op=some b):∃ args ts x z n,op = .call { callee:=.builtin .append,args:=args,argTypes:=ts }/\args[0]?=some x/\opd s x = .c (.slw b z n):=by
 unfold aeI at h
 split at h
 ·rename_i args ts
  split at h
  ·rename_i x hx
   split at h
   ·rename_i b' z n hb
    cases h
    exact⟨args,ts,x,z,n,rfl,hx,hb⟩
   ·cases h
  ·cases h
 ·cases h
theorem aod{cf:aaj}(hcf:aa7 P cf){ops:Array Oper}{Q:Exit->Act->World->Prop}{o:Oper}{l l2:List Oper}{st st2:St}{x1:A}{h1:Heap}{b:Nat}
  (hw:acl ops st.s o=some true) (hb:aeI st.s o.op=some b) (he:eff P st.s st.h o.op=some (x1,h1)) (h2:evOps P cf ops l ⟨putA st.s o.dst x1,h1⟩=some st2)
  (hp:af5 st.h=true) (hsame:st2.h.take (st.h.length+1)=h1) (hlen:st2.s.length=st.s.length)
  (hs:SR Φ ρ st.h st.s a.tmps) (hr:HR Φ ρ st.h w)
  (hQ:∀ a' w',Goes Φ ρ st.h a w (ahH (o::l) st st2) a' w'->wpList P ops Q l2 a' w'):wpList P ops Q ((o::l)++l2) a w:=by
 obtain⟨args,ts,x,z,n,ho,hx,hxb⟩:=ago hb
 obtain⟨k,e,hk,rfl⟩:=aja ho hx hxb he
 obtain⟨w1,ρ1,y,g1,stp1,hy,hin⟩:=alP ho hx hxb he hs hr
 obtain⟨sz,els,rfl⟩:=acw hp hk
 have hz:sz=z:=by
  have:=aaN hs x
  rw[hxb]at this
  simp only[AR,CR]at this
  obtain⟨p,k,-,-,-,-,q⟩:=this
  exact(q _ hk).1
 subst hz
 rw[List.cons_append]
 unfold wpList
 rw[if_pos (abR hw hs)]
 left
 unfold Oper.wp
 rw[g1]
 refine adp hcf h2 (adA (aaW stp1.ext hs) hy) stp1.hr (λa' w'' hg hk2=>hQ a' w'' ?_)
 obtain⟨Φ2,ρ2,stp2,sr2,d2⟩:=hg
 have stp:=aow hr hp hk stp1 hin stp2 hsame
 refine⟨Φ2,ρ2,stp,⟨?_,λi A hi=>?_⟩,by rw[d2,aa9]⟩
 ·simp only[ahH]
  rw[agh hlen,<-hlen]
  exact sr2.1
 ·obtain⟨u,v,e1,e2,rfl⟩:=afM hi
  rw[Nat.zero_add]
  split
  ·obtain⟨t,t1,t2⟩:=sr2.2 i v e2
   exact⟨t,t1,alQ t2⟩
  ·rename_i hc
   obtain⟨t,t1,t2⟩:=hs.2 i u e1
   refine⟨t,?_,ahz stp.ext _ _ t2⟩
   have hn:∀ o'∈o::l,o'.dst≠some i:=λo' ho' hd=>hc (by
    rw[List.contains_iff_mem]
    exact List.mem_filterMap.2 ⟨o',ho',hd⟩)
   rw[hk2 i (λo' ho'=>hn o' (List.mem_cons_of_mem _ ho')),aee (hn o (List.mem_cons_self ..)),t1]
theorem alv{cf:aaj}{s:List A}{h:Heap}{op:Op}{b:Nat}(hb:aeI s op=some b):evOp P cf s h op=eff P s h op:=by
 obtain⟨args,ts,x,z,n,rfl,hx,hxb⟩:=ago hb
 rfl
theorem akX{cf:aaj}(hcf:aa7 P cf){ops:Array Oper}{Q:Exit->Act->World->Prop}{l l2:List Oper}{st st2:St}(h:evPeek P cf ops l st=some st2)
  (hs:SR Φ ρ st.h st.s a.tmps) (hr:HR Φ ρ st.h w)
  (hQ:∀ a' w',Goes Φ ρ st.h a w st2 a' w'->wpList P ops Q l2 a' w'):wpList P ops Q (l++l2) a w:=by
 cases l with
 | nil=>simp[evPeek]at h
 | cons o l=>
  simp only[evPeek]at h
  split at h
  ·exact abi hcf h hs hr hQ
  ·rename_i b hw hb
   split at h
   ·rename_i x1 h1 he
    split at h
    ·rename_i st3 h3
     split at h
     ·rename_i hc
      obtain⟨c1,c2,c3⟩:=hc
      cases h
      rw[alv hb]at he
      exact aod hcf hw hb he h3 c1 c3 c2 hs hr hQ
     ·cases h
    ·cases h
   ·cases h
  ·cases h
end Go.Ev
