import Derived.Test.YtganajogkdinaaaGreatEvSim
set_option linter.all false
namespace Go.Ev
variable[Glo][Itr]
set_option linter.unusedSimpArgs false
variable{P:Program}{Φ Φ':Phi}{ρ ρ':Rho}{H H':Heap}{s:List A}{a:Act}{w w':World}
abbrev noCf:aai:=λ_ _ _=>none
theorem an8:aba P noCf:=λ_ _ _ _ _ h=>by cases h
def aoQ(P:Program)(o:Oper):Bool:=match cls P o.op with
 |.sil |.rdo=>true
 |_=>false
theorem opsQ{cf:aai}{ops:Array Oper}{Q:Exit->Act->World->Prop}{n:Nat}{l2:List Oper}:∀ {l:List Oper}{st st':St}{a:Act},evOps P cf ops l st=some st'->l.all (aoQ P)=true->SR Φ ρ st.h st.s a.tmps->HR Φ ρ st.h w →
  (∀ a',SR Φ ρ st.h st'.s a'.tmps->a'.defers=a.defers->(∀ i,(∀ o∈l,o.dst≠some i)->a'.tmps[i]?=a.tmps[i]?)->wpListIn (WF none) n P ops Q l2 a' w)->wpListIn (WF none) n P ops Q (l++l2) a w
 | [],st,st',a,h,_,hs,hr,hQ=>by
  simp only[evOps]at h;cases h
  exact hQ a hs rfl (λ_ _=>rfl)
 | o::l,st,st',a,h,hq,hs,hr,hQ=>by
  simp only[List.all_cons,Bool.and_eq_true]at hq
  obtain⟨hq1,hq2⟩:=hq
  simp only[evOps]at h
  split at h
  ·rename_i hw
   have hw':=abv hw hs
   split at h
   ·rename_i r H' ho
    have key:H'=st.h/\∃ z,(execOp a.eval o).run P w = .ok (.value z) w/\AR Φ ρ st.h r z:=by
     unfold evOp at ho
     unfold aoQ at hq1
     split at ho
     ·simp only[Option.map_eq_some_iff,Prod.mk.injEq]at ho
      obtain⟨r',hr',rfl,rfl⟩:=ho
      obtain⟨z,h1,h2⟩:=ajs hr' hs w
      exact⟨rfl,z,h1,h2⟩
     ·simp only[Option.map_eq_some_iff,Prod.mk.injEq]at ho
      obtain⟨r',hr',rfl,rfl⟩:=ho
      obtain⟨z,h1,h2⟩:=akE hr' hs hr
      exact⟨rfl,z,h1,h2⟩
     ·rename_i hc;rw[hc]at hq1;cases hq1
     ·rename_i hc;rw[hc]at hq1;cases hq1
     ·rename_i hc;rw[hc]at hq1;cases hq1
    obtain⟨rfl,z,h1,h2⟩:=key
    rw[List.cons_append]
    unfold wpListIn
    rw[if_pos hw']
    refine afd (r:=none) (.inl rfl) (K:=wpListIn (WF none) n P ops Q (l++l2)) (λ_ _ h=>h) ?_
    unfold Oper.wp
    rw[h1]
    refine opsQ (l2:=l2) h hq2 (acu hs h2) hr (λa' g1 g2 g3=>hQ a' g1 (by rw[g2,aaX]) λi hi=>?_)
    rw[g3 i (λo' ho'=>hi o' (List.mem_cons_of_mem _ ho'))]
    exact abF (hi o (List.mem_cons_self ..))
   ·cases h
  ·rename_i hw
   have hw':=abv hw hs
   rw[List.cons_append]
   unfold wpListIn
   rw[if_neg (by simp[hw'])]
   refine⟨λ_ _=>trivial,opsQ (l2:=l2) h hq2 (acu hs (by simp only[AR];exact⟨#[],rfl,by simp[ARs]⟩)) hr (λa' g1 g2 g3=>hQ a' g1 (by rw[g2,aaX]) λi hi=>?_)⟩
   rw[g3 i (λo' ho'=>hi o' (List.mem_cons_of_mem _ ho'))]
   exact abF (hi o (List.mem_cons_self ..))
  ·cases h
theorem amX{ops:Array Oper}{Q:Exit->Act->World->Prop}{n:Nat}{l2:List Oper}{o:Oper}{x:Operand}(hg:o.guard=none)(ho:o.op = .move x)(hK:wpListIn (WF none) n P ops Q l2 (a.put o.dst (a.eval x)) w) :
  wpListIn (WF none) n P ops Q (o::l2) a w:=by
 unfold wpListIn
 rw[if_pos (by simp[Region.wanted,hg])]
 refine afd (r:=none) (.inl rfl) (K:=wpListIn (WF none) n P ops Q l2) (λ_ _ h=>h) ?_
 unfold Oper.wp
 have:(execOp a.eval o).run P w = .ok (.value (a.eval x)) w:=by simp only[execOp,ho];rfl
 rw[this]
 exact hK
theorem ajI{ops:Array Oper}{Q:Exit->Act->World->Prop}{n l:Nat}{l2:List Oper}{o:Oper}{g:Operand}{args:Array Operand}{ts:Array TypeId}{arr:Array Value}{R:Ending->World->Prop}(hg:o.guard=none)(ho:o.op = .call { callee:=.value g,args:=args,argTypes:=ts })
  (hv:a.eval g = .func (.yield l) #[] arr) (hy:∃ fn tmps as bd,(Instr.yield l (args.map a.eval)).run P w = .ok (.round l fn tmps as bd) w/\∀ n,RoundIn (WF none) n P l fn tmps as bd w R)
  (hR:∀ e w',R e w'->∃ v,e = .returned v/\wpListIn (WF none) n P ops Q l2 (a.put o.dst v) w') :
  wpListIn (WF none) n P ops Q (o::l2) a w:=by
 unfold wpListIn
 rw[if_pos (by simp[Region.wanted,hg])]
 obtain⟨fn,tmps,as,bd,h1,h2⟩:=hy
 refine⟨λ_ _=>trivial,?_⟩
 have e:(Oper.semAt (WF none).round a.eval o).run P w = .ok (.round l fn tmps as bd) w:=by
  rw[show Oper.semAt (WF none).round a.eval o=execOp a.eval o from rfl]
  simp only[execOp,ho,resolve,hv,Deferred.ofValue,Sem.run_bind,Sem.run_pure,Result.andThen_ok,invoke]
  simpa only[Array.empty_append]using h1
 rw[e]
 refine⟨(λh=>by cases h),(h2 _).mono ?_⟩
 rintro e w' he
 obtain⟨v,rfl,hk⟩:=hR e w' he
 exact hk
theorem aiA{t:Array Value}(hl:s.length=t.size)(h:∀ (i:Nat) (x:A),s[i]?=some x->x = .und ∨ ∃ v,t[i]?=some v/\AR Φ ρ H x v):SR Φ ρ H s t:=by
 refine⟨hl,λi x hx=>?_⟩
 rcases h i x hx with rfl | h
 ·have hi:i<t.size:=by rw[<-hl];exact(List.getElem?_eq_some_iff.1 hx).1
  exact⟨t[i],Array.getElem?_eq_getElem hi,by simp only[AR]⟩
 ·exact h
theorem anl{o:Oper}{K:Act->World->Prop}{Q:Exit->Act->World->Prop}(h:o.wp P a w K Q):o.wp P a w (λa' w'=>K a' w'/\∀ i,o.dst≠some i->a'.tmps[i]?=a.tmps[i]?) Q:=by
 have pk:∀ (b:Act) (v:Value),b.tmps=a.tmps->∀ i,o.dst≠some i->(b.put o.dst v).tmps[i]?=a.tmps[i]?:=λb v hb i hi=>(abF hi).trans (by rw[hb])
 unfold Oper.wp at *
 generalize (execOp a.eval o).run P w=r at *
 cases r with
 | ok x w'=>
  cases x <;> simp only[Oper.upon]at h ⊢ <;>
   first
    | exact⟨h,pk _ _ rfl⟩
    | exact Calls.mono h (λe w'' he=>by cases e <;> first | exact⟨he,pk _ _ rfl⟩ | exact he)
    | exact Rows.mono h (λ_ _ he=>⟨he,pk _ _ rfl⟩)
 | halt x w'=>cases x <;> simp only[Oper.upon]at h ⊢ <;> exact h
theorem adK{ops:Array Oper}{md:Region.Mode}{Q:Exit->Act->World->Prop}{a0:Act}:∀ {fuel:Nat}{listed:Array Bool}{a:Act}{w:World},(∀ i,(∀ o∈ops,o.dst≠some i)->a.tmps[i]?=a0.tmps[i]?)->wpAny P md ops (Tame Q) fuel listed a w →
  wpAny P md ops (Tame λe a' w'=>Q e a' w'/\(e = .normal->∀ i,(∀ o∈ops,o.dst≠some i)->a'.tmps[i]?=a0.tmps[i]?)) fuel listed a w
 | 0,listed,a,w,hk,h=>⟨h.1,⟨h.2.1,λ_=>hk⟩,h.2.2⟩
 | fuel+1,listed,a,w,hk,h=>by
  refine⟨λhr=>⟨⟨(h.1 hr).1,λ_=>hk⟩,(h.1 hr).2⟩,λi hi=>?_⟩
  have h:=h.2 i hi
  unfold wpOp at h ⊢
  split
  ·rename_i ho
   simp only[ho]at h
   exact adK hk h
  ·rename_i o ho
   simp only[ho]at h
   have hmem:=Array.mem_of_getElem? ho
   split
   ·rename_i hw
    rw[if_pos hw]at h
    rcases h with h | h
    ·left
     have h2:=anl h
     unfold Oper.wp at h2 ⊢
     generalize (execOp a.eval o).run P w=r at h2 ⊢
     have go:∀ a' w',(wpAny P md ops (Tame Q) fuel (listed.setIfInBounds i true) a' w'/\∀ i,o.dst≠some i->a'.tmps[i]?=a.tmps[i]?)->wpAny P md ops (Tame λe a' w'=>Q e a' w'/\(e = .normal->∀ i,(∀ o∈ops,o.dst≠some i)->a'.tmps[i]?=a0.tmps[i]?)) fuel (listed.setIfInBounds i true) a' w':=
      λa' w' hh=>adK (λq hq=>(hh.2 q (hq o hmem)).trans (hk q hq)) hh.1
     have out:∀ {e:Exit}{b:Act}{v:World},e ≠ .normal->Tame Q e b v->Tame (λe a' w'=>Q e a' w'/\(e = .normal->∀ i,(∀ o∈ops,o.dst≠some i)->a'.tmps[i]?=a0.tmps[i]?)) e b v:=λhe hq=>⟨⟨hq.1,λh=>absurd h he⟩,hq.2⟩
     cases r with
     | ok x w'=>
      cases x <;> simp only[Oper.upon]at h2 ⊢ <;>
       first
        | exact go _ _ h2
        | exact Calls.mono h2 (λe w'' he=>by cases e <;> first | exact go _ _ he | exact out (λhh=>nomatch hh) he | exact(ac6 he).elim)
        | exact Rows.mono h2 (λ_ _ he=>go _ _ he)
     | halt x w'=>cases x <;> simp only[Oper.upon]at h2 ⊢ <;> first | exact out (λhh=>nomatch hh) h2 | exact h2
    ·exact(ac6 h.2).elim
   ·rename_i hw
    rw[if_neg hw]at h
    exact adK (λq hq=>(abF (hq o hmem)).trans (hk q hq)) h
end Go.Ev
