import Derived.Test.YtganajogkdinaaaGreatGModUP
set_option linter.all false
namespace Go.R4.Mo
open Go.Proofs Go.Ev
set_option maxRecDepth 100000
structure OddOk(n:Nat)(m:am):Prop where
 t:m.Types.length<=1000+n
 i:m.Imports.length<=1000+n
 f:m.Funcs.length<=1000
 me:m.Mems.length<=1000+n
 g:m.Globals.length<=1000+n
 e:m.Exports.length<=1000+n
 d:m.Datas.length<=1000+n
 c:m.Customs.length<=1000+n
 fs:∀ f∈m.Funcs,f.Code.length<=30000+n/\f.Locals.length<=1000+n
def NB(n:Int):Prop:=0<=n/\n<18446744073709551616
def LB(i:ag):Prop:=i.L.length*8<=bigN/\NB i.N
structure OddX(m:am):Prop where
 t:∀ t∈m.Types,t.Params.length<=1000/\t.Results.length<=1000
 d:∀ x∈m.Datas,x.Bytes.length<=1000
 c:∀ x∈m.Customs,x.Bytes.length<=1000
 f:∀ f∈m.Funcs,∀ i∈f.Code,LB i
 g:∀ x∈m.Globals,NB x.Init
theorem acy{α:Type}{P:α->Prop}{l:List α}{y:α}(h:∀ x∈l,P x)(hy:P y):∀ x∈l++[y],P x:=λx hx=>by
 rcases List.mem_append.1 hx with h1 | h1
 ·exact h x h1
 ·rw[List.mem_singleton.1 h1];exact hy
theorem ali{α:Type}{l m:List α}{i:Nat}{x:α}(h:x∈overL l i m):x∈l∨x∈m:=by
 simp only[overL,List.mem_append]at h
 rcases h with h | h | h
 ·exact .inl (List.mem_of_mem_take h)
 ·exact .inr h
 ·exact .inl (List.mem_of_mem_drop (List.mem_of_mem_take h))
theorem OddX.set{m:am}(h:OddX m){j:Nat}{f:aj}(hf:∀ i∈f.Code,LB i):OddX ⟨m.Types,m.Imports,m.Funcs.set j f,m.Mems,m.Globals,m.Exports,m.Datas,m.Customs⟩:=
 ⟨h.t,h.d,h.c,λg hg=>by
  rcases List.mem_or_eq_of_mem_set hg with hg | rfl
  ·exact h.f g hg
  ·exact hf,h.g⟩
theorem ahj{l:List ag}{j:Nat}{y:ag}(h:∀ i∈l,LB i)(hy:LB y):∀ i∈l.set j y,LB i:=λi hi=>by
 rcases List.mem_or_eq_of_mem_set hi with hi | rfl
 ·exact h i hi
 ·exact hy
theorem apy{n:Int}(h:0<=n):1<=imax n 1/\imax n 1<=n+1/\(1<=n->imax n 1=n):=by
 unfold imax
 split <;> omega
theorem ael{n k:Int}(h1:1<=k)(h2:k<=1000000):Wp (λj=>ej.f j n k) (λr=>0<=r/\r<=k-1):=by
 refine .succ ?_
 simp only[ej.f]
 rw[aap (by omega) (by omega)]
 exact .bind (acR (by omega) (by omega) (by omega)) (λr hr=>.one ⟨hr.1,hr.2.1⟩)
theorem anJ{l:List ag}{t:eE}(hl:l.length<=100000)(hL:∀ i∈l,LB i)(ht:LB t.Raw)(hN:NB t.N):Wp (λj=>ez.f j l t) (λr=>r.length<=l.length+1/\∀ i∈r,LB i):=by
 refine .succ ?_
 simp only[ez.f]
 obtain⟨m1,m2,m3⟩:=apy (n:=(l.length:Int)) (by omega)
 refine .bind (ael m1 (by omega)) (λr hr=>?_)
 obtain⟨r0,r1⟩:=hr
 refine .pos (aad (by omega) (by omega)) (.ite (λh0=>.one ⟨by simp,λi hi=>by rw[List.mem_singleton.1 hi];exact ht⟩) (λh0=>?_))
 rw[m3 (by omega)]at r1
 refine .bind (acR (by decide) (by decide) (by decide)) (λw _=>?_)
 have hin:(0:Int)<=r/\r<(l.length:Int):=⟨r0,by omega⟩
 have hg:r.toNat<l.length:=by omega
 refine .ite (λ_=>?_) (λ_=>.ite (λ_=>?_) (λ_=>.ite (λ_=>?_) (λ_=>.ite (λ_=>?_) (λ_=>.ite (λ_=>?_) (λ_=>?_)))))
 ·rw[aai (a:=r) (by omega) (by omega)]
  have h:(0+(r.toNat-0))+(List.drop (r+1).toNat l).length<=l.length:=by rw[List.length_drop];omega
  refine .pos ⟨r0,Nat.zero_le _,by omega⟩ (.pos ⟨by omega,by omega⟩ (.bind (Q:=λ_=>True) (.pos h (.one trivial)) (λ_ _=>.pos h (.pos ?_ (.one ?_)))))
  ·rw[over_len h];omega
  ·refine⟨by rw[List.length_take,over_len h];omega,λi hi=>?_⟩
   rcases ali (List.mem_of_mem_take hi)with hi | hi
   ·exact hL i hi
   ·exact hL i (List.mem_of_mem_drop hi)
 ·refine .pos ⟨r0,by omega⟩ (.pos ⟨r0,by omega⟩ (.pos (aad ?_ ?_) (.pos (aad ?_ ?_) (.pos (aad ?_ ?_) (.one ⟨?_,λi hi=>?_⟩)))))
  rotate_right
  ·rcases List.mem_append.1 hi with hi | hi
   ·exact acy (λx hx=>hL x (List.mem_of_mem_take hx)) ht i hi
   ·exact hL i (List.mem_of_mem_drop hi)
  all_goals simp only[List.length_append,List.length_take,List.length_drop,List.length_cons,List.length_nil]
  all_goals omega
 ·refine .pos hin (.bind (.get hg) (λx _=>.pos hin (.bind (.get hg) (λy hy=>.one ⟨?_,ahj hL (hL y (List.mem_of_getElem? hy))⟩))))
  rw[List.length_set];omega
 ·exact .pos hin (.bind (.get hg) (λx hx=>.one ⟨by rw[List.length_set];omega,ahj hL (hL x (List.mem_of_getElem? hx))⟩))
 ·exact .pos hin (.bind (.get hg) (λx hx=>.one ⟨by rw[List.length_set];omega,ahj hL ⟨(hL x (List.mem_of_getElem? hx)).1,hN⟩⟩))
 ·exact .pos hin (.bind (.get hg) (λx _=>.one ⟨by rw[List.length_set];omega,ahj hL ht⟩))
theorem OddOk.set{n:Nat}{m:am}(h:OddOk n m){j:Nat}{f:aj}(hf:f.Code.length<=30000+(n+1)/\f.Locals.length<=1000+(n+1)):OddOk (n+1) ⟨m.Types,m.Imports,m.Funcs.set j f,m.Mems,m.Globals,m.Exports,m.Datas,m.Customs⟩:=by
 obtain⟨a,b,c,d,e,f',g,i,k⟩:=h
 refine⟨by dsimp only;omega,by dsimp only;omega,by simpa using c,by dsimp only;omega,by dsimp only;omega,by dsimp only;omega,by dsimp only;omega,by dsimp only;omega,λx hx=>?_⟩
 rcases List.mem_or_eq_of_mem_set hx with hx | rfl
 ·obtain⟨q1,q2⟩:=k x hx;exact⟨by omega,by omega⟩
 ·exact hf
theorem OddOk.up{n:Nat}{m:am}(h:OddOk n m):OddOk (n+1) m:=by
 obtain⟨a,b,c,d,e,f',g,i,k⟩:=h
 exact⟨by omega,by omega,c,by omega,by omega,by omega,by omega,by omega,λx hx=>by obtain⟨q1,q2⟩:=k x hx;exact⟨by omega,by omega⟩⟩
theorem iand_mask'{n m:Int}(j:Nat)(hm:m=2 ^ j-1)(hj:j<62):0<=iand .i64 n m/\iand .i64 n m<2 ^ j:=by
 rw[abh (j:=j) hm (by simp[IntKind.bits];omega)]
 have:(0:Int)<2 ^ j:=Int.pow_pos (by decide)
 exact⟨Int.emod_nonneg _ (by omega),Int.emod_lt_of_pos _ this⟩
theorem amD{a b c d:Int}{i:Int}(h0:0<=i)(h1:i<4):∃ v,([a,b,c,d]:List Int)[i.toNat]?=some v:=⟨_,List.getElem?_eq_getElem (by simp;omega)⟩
theorem aiY{a b c:Int}{i:Int}(h0:0<=i)(h1:i<3):∃ v,([a,b,c]:List Int)[i.toNat]?=some v:=⟨_,List.getElem?_eq_getElem (by simp;omega)⟩
theorem apd{n:Nat}{m:am}{t:eE}(h:OddOk n m)(hx:OddX m)(hn:n<=100)(hR:LB t.Raw)(hN:NB t.N):Wp (λj=>eK.f j m t) (λr=>OddOk (n+1) r/\OddX r):=by
 have hX:=hx
 have hu:=h.up
 have hset:=λj f hf=>h.set (j:=j) (f:=f) hf
 obtain⟨ht,hi,hfu,hm,hg,he,hd,hc,hfs⟩:=h
 refine .succ ?_
 simp only[eK.f]
 obtain⟨m1,m2,m3⟩:=apy (n:=(m.Funcs.length:Int)) (by omega)
 refine .bind (ael m1 (by omega)) (λr hr=>?_)
 obtain⟨r0,r1⟩:=hr
 refine .seg (Q:=λb=>b=true->r<m.Funcs.length) ?_ (λb hb=>?_)
 ·exact .ite (λh0=>.left (λ_=>h0)) (λ_=>.left (λh=>by cases h))
 ·refine .ite (λhbt=>?_) (λ_=>?_)
  ·have hlt:=hb hbt
   have hin:(0:Int)<=r/\r<(m.Funcs.length:Int):=⟨r0,hlt⟩
   have hgl:r.toNat<m.Funcs.length:=by omega
   refine .pos (aad (by omega) (by omega)) (.pos hin (.bind (.get hgl) (λx hx=>?_)))
   obtain⟨x1,x2⟩:=hfs x (List.mem_of_getElem? hx)
   refine .bind (anJ (by omega) (hX.f x (List.mem_of_getElem? hx)) hR hN) (λc hc'=>.pos hin (.bind (.get hgl) (λy hy=>.pos hgl (.pos hgl (.one ⟨hset _ _ ⟨?_,?_⟩,hX.set hc'.2⟩)))))
   ·have:=hc'.1;dsimp only;omega
   ·obtain⟨y1,y2⟩:=hfs y (List.mem_of_getElem? hy)
    dsimp only;omega
  ·refine .bind (acR (by decide) (by decide) (by decide)) (λw _=>?_)
   obtain⟨ut,ui,uf,um,ug,ue,ud,uc,ufs⟩:=hu
   refine .ite (λ_=>?_) (λ_=>.ite (λ_=>?_) (λ_=>.ite (λ_=>?_) (λ_=>.ite (λ_=>?_) (λ_=>.ite (λ_=>?_) (λ_=>.ite (λ_=>?_) (λ_=>.ite (λ_=>?_) (λ_=>.ite (λ_=>?_) (λ_=>?_))))))))
   ·exact .pos (aad (by omega) (by omega)) (.pos (aad (by omega) (by omega)) (.one ⟨⟨by simp;omega,ui,uf,um,ug,ue,ud,uc,ufs⟩,⟨acy hX.t ⟨by simp,by simp⟩,hX.d,hX.c,hX.f,hX.g⟩⟩))
   ·exact .pos (aad (by omega) (by omega)) (.pos (aad (by omega) (by omega)) (.one ⟨⟨ut,ui,uf,um,ug,by simp;omega,ud,uc,ufs⟩,⟨hX.t,hX.d,hX.c,hX.f,hX.g⟩⟩))
   ·exact .pos (aad (by omega) (by omega)) (.pos (aad (by omega) (by omega)) (.one ⟨⟨ut,ui,uf,by simp;omega,ug,ue,ud,uc,ufs⟩,⟨hX.t,hX.d,hX.c,hX.f,hX.g⟩⟩))
   ·exact .pos (aad (by omega) (by omega)) (.pos (aad (by omega) (by omega)) (.one ⟨⟨ut,ui,uf,um,ug,ue,by simp;omega,uc,ufs⟩,⟨hX.t,acy hX.d (by simp),hX.c,hX.f,hX.g⟩⟩))
   ·obtain⟨q0,q1⟩:=iand_mask' (n:=t.At) (m:=3) 2 (by decide) (by decide)
    obtain⟨v,hv⟩:=amD (a:=127) (b:=126) (c:=124) (d:=t.To) q0 q1
    refine .pos ⟨q0,q1⟩ (.bind (Q:=λ_=>True) ⟨v,trivial,0,λ_ _=>hv⟩ (λ_ _=>?_))
    exact .pos (aad (by omega) (by omega)) (.pos (aad (by omega) (by omega)) (.one ⟨⟨ut,ui,uf,um,by simp;omega,ue,ud,uc,ufs⟩,⟨hX.t,hX.d,hX.c,hX.f,acy hX.g hN⟩⟩))
   ·exact .pos (aad (by omega) (by omega)) (.pos (aad (by omega) (by omega)) (.one ⟨⟨ut,ui,uf,um,ug,ue,ud,by simp;omega,ufs⟩,⟨hX.t,hX.d,acy hX.c (by simp),hX.f,hX.g⟩⟩))
   ·exact .pos (aad (by omega) (by omega)) (.pos (aad (by omega) (by omega)) (.one ⟨⟨ut,by simp;omega,uf,um,ug,ue,ud,uc,ufs⟩,⟨hX.t,hX.d,hX.c,hX.f,hX.g⟩⟩))
   ·refine .ite (λh0=>?_) (λ_=>.one ⟨⟨ut,ui,uf,um,ug,ue,ud,uc,ufs⟩,hX⟩)
    rw[m3 (by omega)]at r1
    have hin:(0:Int)<=r/\r<(m.Funcs.length:Int):=⟨r0,by omega⟩
    have hgl:r.toNat<m.Funcs.length:=by omega
    refine .pos (aad (by omega) (by omega)) (.pos hin (.bind (.get hgl) (λx hx=>?_)))
    obtain⟨x1,x2⟩:=hfs x (List.mem_of_getElem? hx)
    refine .pos (aad (by omega) (by omega)) (.bind (ael (by decide) (by decide)) (λw2 hw2=>?_))
    obtain⟨v,hv⟩:=aiY (a:=127) (b:=124) (c:=t.To) hw2.1 (by omega)
    refine .pos ⟨hw2.1,by omega⟩ (.bind (Q:=λ_=>True) ⟨v,trivial,0,λ_ _=>hv⟩ (λ_ _=>?_))
    refine .pos (aad (by omega) (by omega)) (.pos hin (.bind (.get hgl) (λy hy=>.pos hgl (.pos hgl (.one ⟨hset _ _ ⟨?_,?_⟩,hX.set (hX.f y (List.mem_of_getElem? hy))⟩)))))
    ·obtain⟨y1,y2⟩:=hfs y (List.mem_of_getElem? hy)
     dsimp only;omega
    ·simp only[List.length_append,List.length_cons,List.length_nil];omega
   ·refine .ite (λh0=>?_) (λ_=>.one ⟨⟨ut,ui,uf,um,ug,ue,ud,uc,ufs⟩,hX⟩)
    rw[m3 (by omega)]at r1
    have hin:(0:Int)<=r/\r<(m.Funcs.length:Int):=⟨r0,by omega⟩
    have hgl:r.toNat<m.Funcs.length:=by omega
    refine .pos (aad (by omega) (by omega)) (.pos hin (.bind (.get hgl) (λx hx=>.one ⟨hset _ _ ?_,hX.set (hX.f x (List.mem_of_getElem? hx))⟩)))
    obtain⟨x1,x2⟩:=hfs x (List.mem_of_getElem? hx)
    dsimp only
    exact⟨by omega,by omega⟩
theorem apv{m:am}{l:List eE}(h:OddOk 0 m)(hX:OddX m)(hl:∀ t∈l,LB t.Raw/\NB t.N)(hln:l.length<=bigN):Wp (λj=>dU.f j m l) (λr=>OddOk 5 r/\OddX r):=by
 refine .succ ?_
 simp only[dU.f]
 refine .bind (Q:=λv=>OddOk 5 ⟨v.1,v.2.1,v.2.2.1,v.2.2.2.1,v.2.2.2.2.1,v.2.2.2.2.2.1,v.2.2.2.2.2.2.1,v.2.2.2.2.2.2.2⟩/\OddX ⟨v.1,v.2.1,v.2.2.1,v.2.2.2.1,v.2.2.2.2.1,v.2.2.2.2.2.1,v.2.2.2.2.2.2.1,v.2.2.2.2.2.2.2⟩) ?_ (λv hv=>?_)
 ·refine .loop (λ(n:Nat) v=>0<=v.1/\v.1<=4/\v.1+(n:Int)=4/\OddOk v.1.toNat ⟨v.2.1,v.2.2.1,v.2.2.2.1,v.2.2.2.2.1,v.2.2.2.2.2.1,v.2.2.2.2.2.2.1,v.2.2.2.2.2.2.2.1,v.2.2.2.2.2.2.2.2⟩/\OddX ⟨v.2.1,v.2.2.1,v.2.2.2.1,v.2.2.2.2.1,v.2.2.2.2.2.1,v.2.2.2.2.2.2.1,v.2.2.2.2.2.2.2.1,v.2.2.2.2.2.2.2.2⟩) (λn v hv=>?_) (n:=4) ⟨by simp,by simp,rfl,h,hX⟩
  obtain⟨x,a1,a2,a3,a4,a5,a6,a7,a8⟩:=v
  obtain⟨h0,h1,h2,h3,h4x⟩:=hv
  dsimp only at h0 h1 h2 h3 h4x
  have up:OddOk 5 ⟨a1,a2,a3,a4,a5,a6,a7,a8⟩:=by
   obtain⟨a,b,c,d,e,f',g,i,k⟩:=h3
   exact⟨by omega,by omega,c,by omega,by omega,by omega,by omega,by omega,λy hy=>by obtain⟨q1,q2⟩:=k y hy;exact⟨by omega,by omega⟩⟩
  simp only[dU.b2]
  refine .ite (λhx=>.ite (λh4=>?_) (λ_=>.right ⟨up,h4x⟩)) (λ_=>.right ⟨up,h4x⟩)
  refine .bind (.idx h0 hx) (λt ht=>.bind (apd h3 h4x (by omega) (hl t (List.mem_of_getElem? ht)).1 (hl t (List.mem_of_getElem? ht)).2) (λr hr=>.left ⟨n-1,by omega,?_⟩))
  rw[aai (by omega) (by omega)]
  dsimp only
  refine⟨by omega,by omega,by omega,?_⟩
  rw[show(x+1).toNat=x.toNat+1 by omega]
  exact hr
 ·obtain⟨a1,a2,a3,a4,a5,a6,a7,a8⟩:=v
  exact .one hv
theorem akg{T:List af}{I:List ak}{G:List ah}{D:List aw}{F:List aj}{M:List ap}{E:List ab}(h:ModOk T I G D F M E):OddOk 0 ⟨T,I,F,M,G,E,D,[]⟩:=by
 refine⟨?_,?_,by have:=h.funcs.2.1;dsimp only;omega,by have:=h.mems.1;dsimp only;omega,?_,?_,?_,by simp,λf hf=>?_⟩
 ·dsimp only;rw[h.types];decide
 ·dsimp only;rw[h.imports];decide
 ·dsimp only;rw[h.globals];decide
 ·obtain⟨g,-,-,e⟩:=h.exports
  have:=h.funcs.2.1
  dsimp only
  rw[e]
  simp only[List.length_append,List.length_map,List.length_range,List.length_cons,List.length_nil]
  split <;> simp <;> omega
 ·dsimp only
  rcases h.datas with⟨-,e⟩ | ⟨a,b,-,-,-,-,e⟩ <;> rw[e] <;> simp
 ·obtain⟨q1,q2⟩:=h.funcs.2.2 f hf
  have:=q1.2.2.1
  have:=q2.1
  omega
theorem Seq.lb{n:Nat}{c:List ag}(h:Seq n c):∀ i∈c,i.L.length<=5/\NB i.N:=by
 have z:NB 0:=⟨by omega,by omega⟩
 induction h with
 | nil=>intro i hi;cases hi
 | one h=>intro i hi;rw[List.mem_singleton.1 hi];cases h <;> first | exact⟨by assumption,z⟩ | exact⟨by simp,⟨by assumption,by dsimp only;omega⟩⟩ | exact⟨Nat.zero_le 5,z⟩
 | app _ _ ha hb=>intro i hi;exact(List.mem_append.1 hi).elim (ha i) (hb i)
 | blk _ _ _ _ hb=>
  intro i hi
  rcases List.mem_cons.1 hi with rfl | hi
  ·exact⟨by simp,z⟩
  ·rcases List.mem_append.1 hi with h | h
   ·exact hb i h
   ·rw[List.mem_singleton.1 h];exact⟨by simp[END],z⟩
 | ite _ _ _ _ hb hd=>
  intro i hi
  rcases List.mem_cons.1 hi with rfl | hi
  ·exact⟨by simp,z⟩
  ·rcases List.mem_append.1 hi with h | h
   ·exact hb i h
   ·rcases List.mem_cons.1 h with rfl | h
    ·exact⟨by simp[ELSE],z⟩
    ·rcases List.mem_append.1 h with h | h
     ·exact hd i h
     ·rw[List.mem_singleton.1 h];exact⟨by simp[END],z⟩
theorem ait{T:List af}{I:List ak}{G:List ah}{D:List aw}{F:List aj}{M:List ap}{E:List ab}(h:ModOk T I G D F M E):OddX ⟨T,I,F,M,G,E,D,[]⟩:=by
 refine⟨λt ht=>?_,λx hx=>?_,λx hx=>by simp at hx,λf hf i hi=>?_,λx hx=>?_⟩
 ·dsimp only at ht;rw[h.types]at ht;have:=ak8 t ht;omega
 ·dsimp only at hx
  rcases h.datas with⟨-,e⟩ | ⟨a,b,-,-,-,-,e⟩ <;> rw[e]at hx <;> simp at hx
  rcases hx with rfl | rfl <;> simp
 ·obtain⟨-,-,b,hb,hs⟩:=h.funcs.2.2 f hf
  rw[hb]at hi
  have:i.L.length<=5/\NB i.N:=by
   rcases List.mem_append.1 hi with h | h
   ·exact hs.lb i h
   ·rw[List.mem_singleton.1 h];exact⟨by simp[END],by show NB 0;exact⟨by omega,by omega⟩⟩
  have e:bigN=140737488351232:=rfl
  exact⟨by omega,this.2⟩
 ·dsimp only at hx;rw[h.globals]at hx
  simp only[List.mem_cons,List.not_mem_nil,or_false]at hx
  rcases hx with rfl | rfl | rfl | rfl <;> exact⟨by dsimp only;omega,by dsimp only;omega⟩
end Go.R4.Mo
