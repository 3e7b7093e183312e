import Derived.Test.YtganajogkdinaaaGreatEvCode
import Derived.Test.YtganajogkdinaaaGreatEvCong
set_option linter.all false
namespace Go.Ev
variable[Glo]
set_option linter.unusedSimpArgs false
variable{P:Program}{Φ Φ':Phi}{ρ ρ':Rho}{H H':Heap}{s:List A}{a:Act}{w w':World}
theorem acy(g:Array Nat->Oper->Nat):∀ (l:List Oper) (init:Array Nat),(l.foldl (λacc o=>acc.push (g acc o)) init).size=init.size+l.length ∧
  (∀ k,k<init.size->(l.foldl (λacc o=>acc.push (g acc o)) init)[k]?=init[k]?) ∧
  ∀ i o,l[i]?=some o->∃ acc:Array Nat,(l.foldl (λacc o=>acc.push (g acc o)) init)[init.size+i]?=some (g acc o)/\acc.size=init.size+i/\∀ k,k<acc.size->acc[k]?=(l.foldl (λacc o=>acc.push (g acc o)) init)[k]?
 | [],init=>by simp
 | x::l,init=>by
  obtain⟨h1,h2,h3⟩:=acy g l (init.push (g init x))
  simp only[List.foldl_cons,Array.size_push]at h1 h2 h3 ⊢
  refine⟨by rw[h1];simp;omega,λk hk=>?_,λi o ho=>?_⟩
  ·rw[h2 k (by omega),Array.getElem?_push_lt (by omega)]
   simp[hk]
  ·cases i with
   | zero=>
    simp only[List.getElem?_cons_zero,Option.some.injEq]at ho
    subst ho
    refine⟨init,?_,rfl,λk hk=>?_⟩
    ·rw[Nat.add_zero,h2 _ (by omega),Array.getElem?_push_size]
    ·rw[h2 k (by omega),Array.getElem?_push_lt hk]
     simp[hk]
   | succ i=>
    simp only[List.getElem?_cons_succ]at ho
    obtain⟨acc,g1,g2,g3⟩:=h3 i o ho
    exact⟨acc,by rw[show init.size+(i+1)=init.size+1+i from by omega];exact g1,by omega,g3⟩
theorem ada(acc:Array Nat):∀ (l:List Edge) (n j:Nat),(l.foldl (λs e=>if Region.binds .any e then s ||| 2 ^ e.on ||| acc.getD e.on 0 else s) n).testBit j=true ↔
  n.testBit j=true ∨ ∃ e∈l,Region.binds .any e=true/\(j=e.on∨(acc.getD e.on 0).testBit j=true)
 | [],n,j=>by simp
 | e::l,n,j=>by
  rw[List.foldl_cons,ada acc l]
  constructor
  ·rintro (h | ⟨e',h1,h2⟩)
   ·split at h
    ·rename_i hb
     simp only[Nat.testBit_or,Bool.or_eq_true,Nat.testBit_two_pow,decide_eq_true_eq]at h
     rcases h with(h | h) | h
     ·exact .inl h
     ·exact .inr ⟨e,by simp,hb,.inl h.symm⟩
     ·exact .inr ⟨e,by simp,hb,.inr h⟩
    ·exact .inl h
   ·exact .inr ⟨e',by simp[h1],h2⟩
  ·rintro (h | ⟨e',h1,h2,h3⟩)
   ·left
    split
    ·simp[Nat.testBit_or,h]
    ·exact h
   ·simp only[List.mem_cons]at h1
    rcases h1 with rfl | h1
    ·left
     rw[if_pos h2]
     simp only[Nat.testBit_or,Bool.or_eq_true,Nat.testBit_two_pow,decide_eq_true_eq]
     rcases h3 with h3 | h3
     ·exact .inl (.inr h3.symm)
     ·exact .inr h3
    ·exact .inr ⟨e',h1,h2,h3⟩
theorem aoB{ops:Array Oper}{i:Nat}{o:Oper}(ho:ops[i]?=some o)(j:Nat):bit (ancs ops) i j=true →
  ∃ e∈o.after,Region.binds .any e=true/\(j=e.on∨bit (ancs ops) e.on j=true):=by
 unfold bit ancs Region.before
 rw[<-Array.foldl_toList]
 obtain⟨h1,h2,h3⟩:=acy (λacc o=>o.after.foldl (λs e=>if Region.binds .any e then s ||| 2 ^ e.on ||| acc.getD e.on 0 else s) 0) ops.toList #[]
 obtain⟨acc,g1,g2,g3⟩:=h3 i o (by simpa using ho)
 simp only[List.size_toArray,List.length_nil,Nat.zero_add]at g1 g2
 intro h
 rw[Array.getD_eq_getD_getElem?,g1]at h
 simp only[Option.getD_some]at h
 rw[<-Array.foldl_toList,ada]at h
 rcases h with h | ⟨e,he,hb,hj⟩
 ·simp at h
 ·refine⟨e,by simpa using he,hb,?_⟩
  rcases hj with hj | hj
  ·exact .inl hj
  ·right
   rw[Array.getD_eq_getD_getElem?]at hj ⊢
   by_cases hk:e.on<acc.size
   ·rw[<-g3 _ hk];exact hj
   ·rw[Array.getElem?_eq_none (Nat.le_of_not_lt hk)]at hj;simp at hj
theorem ahx{ops:Array Oper}{i:Nat}{o:Oper}(ho:ops[i]?=some o){e:Edge}(he:e∈o.after)(hb:Region.binds .any e=true):bit (ancs ops) i e.on=true:=by
 unfold bit ancs Region.before
 rw[<-Array.foldl_toList]
 obtain⟨h1,h2,h3⟩:=acy (λacc o=>o.after.foldl (λs e=>if Region.binds .any e then s ||| 2 ^ e.on ||| acc.getD e.on 0 else s) 0) ops.toList #[]
 obtain⟨acc,g1,g2,g3⟩:=h3 i o (by simpa using ho)
 simp only[List.size_toArray,List.length_nil,Nat.zero_add]at g1 g2
 rw[Array.getD_eq_getD_getElem?,g1]
 simp only[Option.getD_some]
 rw[<-Array.foldl_toList,ada]
 exact .inr ⟨e,by simpa using he,hb,.inl rfl⟩
structure En where
 i:Nat
 s:List A
 h:Heap
 out:A
 h':Heap
 ran:Bool
def dstOf(ops:Array Oper)(i:Nat):Option Tmp:=(ops[i]?).bind (·.dst)
def effAt(P:Program)(ops:Array Oper)(i:Nat):Bool:=((ops[i]?).map (isEff P)).getD false
def enPut(ops:Array Oper)(s:List A)(e:En):List A:=putA s (dstOf ops e.i) e.out
structure EnOk(P:Program)(cf:aaj)(ops:Array Oper)(e:En):Prop where
 op:∃ o,ops[e.i]?=some o/\((e.ran=true/\acl ops e.s o=some true/\evOp P cf e.s e.h o.op=some (e.out,e.h'))∨(e.ran=false/\acl ops e.s o=some false/\e.out=undA/\e.h'=e.h))
def agV(P:Program)(ops:Array Oper)(e:En)(i:Nat)(bs:List Nat):Prop:=e.ran=true->effAt P ops e.i=true->bit (ancs ops) e.i i=true ∨ ∀ o,ops[e.i]?=some o->∀ b∈bs,b ∉ touched P e.s e.h o.op
inductive Row(P:Program)(cf:aaj)(ops:Array Oper):List En->St->St->Prop
 | nil (st:St):Row P cf ops [] st st
 | cons {e:En}{es:List En}{st st':St} (ok:EnOk P cf ops e) (hs:e.s=st.s) (hh:e.h=st.h)
   (pin:e.ran=true->effAt P ops e.i=false->∀ o,ops[e.i]?=some o->∀ e'∈es,agV P ops e' e.i (pinned P e.s e.h o.op))
   (rest:Row P cf ops es ⟨enPut ops st.s e,e.h'⟩ st'):Row P cf ops (e::es) st st'
theorem ac5{cf:aaj}{ops:Array Oper}:∀ {ord:List Nat}{st st':St}{pins:Pins},evOrd P cf ops (ancs ops) ord st pins=some st' →
  ∃ es,es.map (·.i)=ord/\Row P cf ops es st st'/\∀ p∈pins,∀ e∈es,agV P ops e p.1 p.2
 | [],st,st',pins,h=>by
  simp only[evOrd,Option.some.injEq]at h
  subst h
  exact⟨[],rfl,.nil st,by simp⟩
 | i::r,st,st',pins,h=>by
  simp only[evOrd]at h
  split at h
  ·cases h
  ·rename_i o ho
   have hd:dstOf ops i=o.dst:=by simp[dstOf,ho]
   split at h
   ·rename_i hw
    split at h
    ·rename_i x H1 hx
     split at h
     ·rename_i he
      split at h
      ·rename_i hp
       obtain⟨es,h1,h2,h3⟩:=ac5 h
       refine⟨⟨i,st.s,st.h,x,H1,true⟩::es,by simp[h1],.cons ⟨o,ho,.inl ⟨rfl,hw,hx⟩⟩ rfl rfl ?_ (by simpa[enPut,hd]using h2),?_⟩
       ·intro _ hf
        simp only[effAt,ho,Option.map_some,Option.getD_some,he]at hf
        cases hf
       ·intro p hpp e hee
        simp only[List.mem_cons]at hee
        rcases hee with rfl | hee
        ·intro _ _
         simp only[pinsOk,List.all_eq_true,Bool.or_eq_true,Bool.not_eq_true',List.contains_eq_mem,decide_eq_false_iff_not]at hp
         rcases hp p hpp with hp | hp
         ·exact .inl hp
         ·refine .inr λo' ho' b hb=>?_
          rw[ho]at ho';cases ho'
          exact hp b hb
        ·exact h3 p hpp e hee
      ·cases h
     ·rename_i he
      obtain⟨es,h1,h2,h3⟩:=ac5 h
      refine⟨⟨i,st.s,st.h,x,H1,true⟩::es,by simp[h1],.cons ⟨o,ho,.inl ⟨rfl,hw,hx⟩⟩ rfl rfl ?_ (by simpa[enPut,hd]using h2),?_⟩
      ·intro _ _ o' ho' e' he'
       rw[ho]at ho';cases ho'
       exact h3 (i,pinned P st.s st.h o.op) (by simp) e' he'
      ·intro p hpp e hee
       simp only[List.mem_cons]at hee
       rcases hee with rfl | hee
       ·intro _ hf
        simp only[effAt,ho,Option.map_some,Option.getD_some]at hf
        exact absurd hf he
       ·exact h3 p (by simp[hpp]) e hee
    ·cases h
   ·rename_i hw
    obtain⟨es,h1,h2,h3⟩:=ac5 h
    refine⟨⟨i,st.s,st.h,undA,st.h,false⟩::es,by simp[h1],.cons ⟨o,ho,.inr ⟨rfl,hw,rfl,rfl⟩⟩ rfl rfl (by simp) (by simpa[enPut,hd]using h2),?_⟩
    intro p hpp e hee
    simp only[List.mem_cons]at hee
    rcases hee with rfl | hee
    ·intro hf;cases hf
    ·exact h3 p hpp e hee
   ·cases h
def hAt:List En->Heap->Nat->Heap
 | [],H,_=>H
 | e::_,_,0=>e.h
 |_::es,H,n+1=>hAt es H n
theorem aa5:∀ {es:List En}{H:Heap}{m:Nat}{e:En},es[m]?=some e->hAt es H m=e.h
 | [],_,_,_,h=>by simp at h
 | e'::es,H,0,e,h=>by simp only[List.getElem?_cons_zero,Option.some.injEq]at h;subst h;rfl
 | e'::es,H,m+1,e,h=>by simp only[List.getElem?_cons_succ]at h;exact aa5 (es:=es) (m:=m) h
theorem ajK:∀ {es:List En}{H:Heap},hAt es H es.length=H
 | [],_=>rfl
 |_::es,H=>ajK (es:=es)
section
variable{cf:aaj}{ops:Array Oper}
theorem Row.start{es:List En}{st st':St}(h:Row P cf ops es st st'):hAt es st'.h 0=st.h:=by
 cases h with
 | nil=>rfl
 | cons ok hs hh=>exact hh
theorem Row.next:∀ {es:List En}{st st':St} (h:Row P cf ops es st st') {m:Nat}{e:En},es[m]?=some e->hAt es st'.h (m+1)=e.h'
 |_,_,_,.nil _,m,e,he=>by simp at he
 |_,_,_,.cons ok hs hh pin rest,0,e,he=>by
  simp only[List.getElem?_cons_zero,Option.some.injEq]at he
  subst he
  exact rest.start
 |_,_,_,.cons ok hs hh pin rest,m+1,e,he=>by
  simp only[List.getElem?_cons_succ]at he
  exact rest.next he
theorem Row.ok:∀ {es:List En}{st st':St} (h:Row P cf ops es st st') {m:Nat}{e:En},es[m]?=some e->EnOk P cf ops e
 |_,_,_,.nil _,m,e,he=>by simp at he
 |_,_,_,.cons ok hs hh pin rest,0,e,he=>by
  simp only[List.getElem?_cons_zero,Option.some.injEq]at he
  subst he
  exact ok
 |_,_,_,.cons ok hs hh pin rest,m+1,e,he=>by
  simp only[List.getElem?_cons_succ]at he
  exact rest.ok he
theorem Row.slots:∀ {es:List En}{st st':St} (h:Row P cf ops es st st') {m:Nat}{e:En},es[m]?=some e->e.s=(es.take m).foldl (enPut ops) st.s
 |_,_,_,.nil _,m,e,he=>by simp at he
 |_,_,_,.cons ok hs hh pin rest,0,e,he=>by
  simp only[List.getElem?_cons_zero,Option.some.injEq]at he
  subst he
  exact hs
 |_,_,_,.cons ok hs hh pin rest,m+1,e,he=>by
  simp only[List.getElem?_cons_succ]at he
  have:=rest.slots he
  simpa using this
theorem Row.last:∀ {es:List En}{st st':St} (h:Row P cf ops es st st'),st'.s=es.foldl (enPut ops) st.s
 |_,_,_,.nil _=>rfl
 |_,_,_,.cons ok hs hh pin rest=>by simpa using rest.last
theorem Row.pins:∀ {es:List En}{st st':St} (h:Row P cf ops es st st') {m m':Nat}{e e':En},es[m]?=some e->es[m']?=some e'->m<m'->e.ran=true->effAt P ops e.i=false->∀ o,ops[e.i]?=some o->agV P ops e' e.i (pinned P e.s e.h o.op)
 |_,_,_,.nil _,m,m',e,e',he,_,_,_,_,_,_=>by simp at he
 |_,_,_,.cons ok hs hh pin rest,0,m'+1,e,e',he,he',_,hr,hf,o,ho=>by
  simp only[List.getElem?_cons_zero,Option.some.injEq]at he
  subst he
  simp only[List.getElem?_cons_succ]at he'
  exact pin hr hf o ho e' (List.mem_of_getElem? he')
 |_,_,_,.cons ok hs hh pin rest,m+1,m'+1,e,e',he,he',hlt,hr,hf,o,ho=>by
  simp only[List.getElem?_cons_succ]at he he'
  exact rest.pins he he' (by omega) hr hf o ho
 |_,_,_,.cons ok hs hh pin rest,_,0,e,e',he,he',hlt,hr,hf,o,ho=>absurd hlt (Nat.not_lt_zero _)
end
theorem afO{ops:Array Oper}{s:List A}{e:En}{t:Nat}(h:dstOf ops e.i≠some t):(enPut ops s e)[t]?=s[t]?:=by
 unfold enPut putA
 split
 ·rename_i d hd
  rw[List.getElem?_set_ne]
  rintro rfl
  exact h hd
 ·rfl
theorem afT{ops:Array Oper}{s:List A}{e:En}:(enPut ops s e).length=s.length:=by
 unfold enPut putA;split <;> simp
theorem fold_len{ops:Array Oper}:∀ {es:List En}{s:List A},(es.foldl (enPut ops) s).length=s.length
 | [],_=>rfl
 | e::es,s=>by rw[List.foldl_cons,fold_len,afT]
theorem aet{ops:Array Oper}{s s':List A}{e:En}{t:Nat}(h:s[t]?=s'[t]?):(enPut ops s e)[t]?=(enPut ops s' e)[t]?:=by
 unfold enPut putA
 split
 ·rename_i d hd
  simp only[List.getElem?_set]
  split
  ·rename_i hdt
   subst hdt
   have:d<s.length↔d<s'.length:=by
    constructor <;> intro hlt
    ·apply Classical.byContradiction;intro hn
     rw[List.getElem?_eq_none (Nat.le_of_not_lt hn),List.getElem?_eq_none_iff]at h
     exact Nat.not_lt.2 h hlt
    ·apply Classical.byContradiction;intro hn
     rw[List.getElem?_eq_none (Nat.le_of_not_lt hn),eq_comm,List.getElem?_eq_none_iff]at h
     exact Nat.not_lt.2 h hlt
   simp[this]
  ·exact h
 ·exact h
theorem afC{ops:Array Oper}{t:Nat}:∀ {es:List En}{s s':List A},s[t]?=s'[t]?->(es.foldl (enPut ops) s)[t]?=(es.foldl (enPut ops) s')[t]?
 | [],_,_,h=>h
 | e::es,s,s',h=>by
  rw[List.foldl_cons,List.foldl_cons]
  exact afC (aet h)
theorem fold_filter{ops:Array Oper}{t:Nat}:∀ {es:List En}{s:List A},(es.foldl (enPut ops) s)[t]?=((es.filter λe=>dstOf ops e.i == some t).foldl (enPut ops) s)[t]?
 | [],_=>rfl
 | e::es,s=>by
  rw[List.foldl_cons,List.filter_cons]
  split
  ·rw[List.foldl_cons];exact fold_filter
  ·rename_i hd
   rw[afC (s':=s) (afO (by simpa using hd))]
   exact fold_filter
end Go.Ev
