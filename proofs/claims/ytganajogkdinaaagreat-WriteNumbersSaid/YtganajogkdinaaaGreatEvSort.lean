import Derived.Test.YtganajogkdinaaaGreatEvClone
import Derived.Shelf.SlSortCmp.WholeK
set_option linter.all false
namespace Go.Ev
open Go.Proofs Go.Sort
variable{β:Type}
def insBy(key:β->Int)(x:β):List β->List β
 | []=>[x]
 | y::r=>if key x<=key y then x::y::r else y::insBy key x r
def aaL(key:β->Int):List β->List β
 | []=>[]
 | x::r=>insBy key x (aaL key r)
theorem ae6(key:β->Int)(x:β):∀ l:List β,(insBy key x l).Perm (x::l)
 | []=>.refl _
 | y::r=>by
  unfold insBy
  split
  ·exact .refl _
  ·exact((ae6 key x r).cons y).trans (.swap x y r)
theorem abM(key:β->Int):∀ l:List β,(aaL key l).Perm l
 | []=>.refl _
 | x::r=>(ae6 key x _).trans ((abM key r).cons x)
theorem aeh(key:β->Int)(l:List β):(aaL key l).length=l.length:=(abM key l).length_eq
theorem aew(key:β->Int)(x:β):∀ l:List β,l.Pairwise (λa b=>key a<=key b)->(insBy key x l).Pairwise (λa b=>key a<=key b)
 | [],_=>by simp[insBy]
 | y::r,h=>by
  rw[List.pairwise_cons]at h
  unfold insBy
  split
  ·rename_i hxy
   rw[List.pairwise_cons]
   refine⟨λz hz=>?_,List.pairwise_cons.2 h⟩
   rcases List.mem_cons.1 hz with rfl | hz
   ·exact hxy
   ·exact Int.le_trans hxy (h.1 z hz)
  ·rename_i hxy
   rw[List.pairwise_cons]
   refine⟨λz hz=>?_,aew key x r h.2⟩
   rcases List.mem_cons.1 ((ae6 key x r).mem_iff.1 hz)with rfl | hz
   ·omega
   ·exact h.1 z hz
theorem abZ(key:β->Int):∀ l:List β,(aaL key l).Pairwise (λa b=>key a<=key b)
 | []=>.nil
 | x::r=>aew key x _ (abZ key r)
theorem ajn(key:β->Int):∀ {l:List β},(l.map key).Nodup->∀ a∈l,∀ b∈l,key a=key b->a=b
 | [],_,a,ha,_,_,_=>by cases ha
 | x::r,h,a,ha,b,hb,e=>by
  rw[List.map_cons,List.nodup_cons]at h
  rcases List.mem_cons.1 ha with h1 | h1 <;> rcases List.mem_cons.1 hb with h2 | h2
  ·rw[h1,h2]
  ·exact absurd (List.mem_map.2 ⟨b,h2,by rw[<-e,h1]⟩) h.1
  ·exact absurd (List.mem_map.2 ⟨a,h1,by rw[e,h2]⟩) h.1
  ·exact ajn key h.2 a h1 b h2 e
theorem adm(key:β->Int):∀ {l1 l2:List β},l1.Perm l2->l1.Pairwise (λa b=>key a<=key b)->l2.Pairwise (λa b=>key a<=key b)->(l1.map key).Nodup->l1=l2
 | [],l2,hp,_,_,_=>by rw[List.nil_perm]at hp;exact hp.symm
 | a::t1,[],hp,_,_,_=>by have:=hp.length_eq;simp at this
 | a::t1,b::t2,hp,h1,h2,hn=>by
  rw[List.pairwise_cons]at h1 h2
  have ha:a∈b::t2:=hp.mem_iff.1 (List.mem_cons_self ..)
  have hb:b∈a::t1:=hp.mem_iff.2 (List.mem_cons_self ..)
  have k1:key b<=key a:=by
   rcases List.mem_cons.1 ha with rfl | h
   ·exact Int.le_refl _
   ·exact h2.1 a h
  have k2:key a<=key b:=by
   rcases List.mem_cons.1 hb with rfl | h
   ·exact Int.le_refl _
   ·exact h1.1 b h
  have e:a=b:=ajn key hn a (List.mem_cons_self ..) b hb (by omega)
  subst e
  rw[List.map_cons,List.nodup_cons]at hn
  rw[adm key (List.perm_cons a |>.1 hp) h1.2 h2.2 hn.2]
theorem akY{γ:Type}(key:β->Int)(key':γ->Int)(f:β->γ)(hf:∀ x,key' (f x)=key x)(x:β):∀ l:List β,insBy key' (f x) (l.map f)=(insBy key x l).map f
 | []=>rfl
 | y::r=>by
  simp only[List.map_cons,insBy,hf]
  split
  ·rfl
  ·rw[akY key key' f hf x r];rfl
theorem aed{γ:Type}(key:β->Int)(key':γ->Int)(f:β->γ)(hf:∀ x,key' (f x)=key x):∀ l:List β,aaL key' (l.map f)=(aaL key l).map f
 | []=>rfl
 | x::r=>by
  simp only[List.map_cons,aaL]
  rw[aed key key' f hf r,akY key key' f hf]
abbrev T3:=Int×Int×Int
def encT(x:T3):List FV:=[.int .i64 x.1,.int .i64 x.2.1,.int .i64 x.2.2]
def encV(x:T3):List Value:=[.int .i64 x.1,.int .i64 x.2.1,.int .i64 x.2.2]
def decT:List FV->Option T3
 | [.int .i64 a,.int .i64 b,.int .i64 c]=>some (a,b,c)
 |_=>none
theorem anj{x:List FV}{t:T3}(h:decT x=some t):x=encT t:=by
 unfold decT at h
 split at h
 ·cases h;rfl
 ·cases h
theorem ahE:∀ {els:List (List FV)}{l:List T3},allSome decT els=some l->els=l.map encT
 | [],l,h=>by simp only[allSome,Option.some.injEq]at h;subst h;rfl
 | x::r,l,h=>by
  simp only[allSome]at h
  split at h
  ·rename_i y ys h1 h2
   cases h
   rw[anj h1,ahE h2];rfl
  ·cases h
theorem af6:∀ l:List T3,allSome decT (l.map encT)=some l
 | []=>rfl
 | x::r=>by
  simp only[List.map_cons,allSome,af6 r]
  rfl
def sortP(_ g:Nat):List A->Heap->Option (A×Heap)
 | [.c (.slw 0 3 _),.c (.v (.fn g' []))],[some (.pur 3 els)]=>if g'=g then(match allSome decT els with
  | some l=>if(l.map (·.1)).Nodup/\l.length<4611686018427387904 then some (.tup [],[some (.pur 3 ((aaL (·.1) l).map encT))])else none
  | none=>none)else none
 |_,_=>none
def alS(key:β->Int)(l:List β):Nat->Option Unit
 | 0=>none
 |_+1=>if(l.map key).Nodup/\l.length<4611686018427387904 then some ()else none
theorem alR[Itr]{P:Program}{cfg:Cfg}{prim:FuncId->Option (List A->Heap->Option (A×Heap))}(k f g sz:Nat)(e:β->List FV)(t:β->T3)(he:∀ x,e x=encT (t x))(l:List β)(hs:sz=3)(hp:prim f=some (sortP sz g)) :
  ∀ b:Unit,alS (λx=>(t x).1) l k=some b->evCall P cfg prim k f [.c (.slw 0 sz l.length),.c (.v (.fn g []))] [some (.pur sz (l.map e))]=some (.tup [],[some (.pur sz ((aaL (λx=>(t x).1) l).map e))]):=by
 intro b h
 subst hs
 cases k with
 | zero=>cases h
 | succ k=>
  simp only[alS]at h
  split at h
  ·rename_i hc
   have e1:l.map e=(l.map t).map encT:=by rw[List.map_map];exact List.map_congr_left λx _=>he x
   have e2:∀ m:List β,(m.map t).map encT=m.map e:=λm=>by rw[List.map_map];exact List.map_congr_left λx _=>(he x).symm
   simp only[evCall,hp,sortP,if_true,e1,af6]
   rw[if_pos ⟨by rw[List.map_map];exact hc.1,by simpa using hc.2⟩,aed (λx=>(t x).1) (·.1) t (λ_=>rfl),e2]
  ·cases h
variable[Glo]{P:Program}{Φ Φ':Phi}{ρ ρ':Rho}{H:Heap}{w w':World}
theorem ah4(hr:HR Φ ρ H w)(same:∀ c,c<w.heap.size->w'.heap[c]?=w.heap[c]?)(sz:w.heap.size<=w'.heap.size)(io:Io w w'):Stp Φ ρ H w Φ ρ H w':=by
 have lt:∀ {c arr ty fz},w.heap[c]?=some (.cells arr ty fz)->c<w.heap.size:=λhx=>(Array.getElem?_eq_some_iff.1 hx).1
 refine⟨⟨λ_ _ h=>h,Nat.le_refl _,λ_ _=>rfl,λb k' _ hk=>⟨k',hk,rfl,rfl⟩⟩,⟨?_,?_,hr.inj,hr.glo,λb kk es inf hk hi=>by
  obtain⟨q1,l,q,q2,q3⟩:=hr.mps b kk es inf hk hi
  exact⟨q1,l,q,by rw[same _ (Array.getElem?_eq_some_iff.1 q2).1];exact q2,q3⟩⟩,λc hc _=>same c hc,λc hc=>.inl hc,λc arr hx=>.inl hx,sz,io⟩
 ·intro c arr hx
  obtain⟨ty,fz,hw⟩:=hr.fro c arr hx
  exact⟨ty,fz,by rw[same c (lt hw)];exact hw⟩
 ·intro b k inf hk hm hi
  obtain⟨q1,arr,ty,fz,q2,q3⟩:=hr.own b k inf hk hm hi
  exact⟨q1,arr,ty,fz,by rw[same _ (lt q2)];exact q2,q3⟩
theorem aiP(hr:HR Φ ρ H w)(st:Stp Φ noRho [] w Φ' ρ' [] w'):Stp Φ ρ H w Φ ρ H w':=
 ah4 hr (λc hc=>st.fr c hc (by rintro ⟨b,k,inf,hk,_⟩;simp[live]at hk)) st.sz st.io
theorem lt3_ok(x y:T3):ltOf (λx y:T3=>Lib.compareInt x.1 y.1) x y=decide (x.1<y.1):=by
 unfold ltOf Lib.compareInt
 by_cases h1:x.1<y.1
 ·simp[h1]
 ·by_cases h2:y.1<x.1 <;> simp[h1,h2]
theorem swo3:SWO (ltOf λx y:T3=>Lib.compareInt x.1 y.1)where
 irrefl x:=by rw[lt3_ok];simp
 trans x y z h1 h2:=by rw[lt3_ok]at *;simp at *;omega
 ntrans x y z h1 h2:=by rw[lt3_ok]at *;simp at *;omega
theorem aiV{d d':Array T3}(hn:(d.toList.map (·.1)).Nodup)(hp:PermIn 0 d.size d d')(hs:SortedIn (ltOf λx y:T3=>Lib.compareInt x.1 y.1) 0 d.size d'):d'.toList=aaL (·.1) d.toList:=by
 obtain⟨h1,_,h3⟩:=hp
 have e1:d.extract 0 d.size=d:=by simp
 have e2:d'.extract 0 d.size=d':=by rw[<-h1];simp
 rw[e1,e2]at h3
 have hn':(d'.toList.map (·.1)).Nodup:=(h3.map _).nodup_iff.2 hn
 refine adm (·.1) (h3.trans (abM _ _).symm) ?_ (abZ _ _) hn'
 rw[List.pairwise_iff_getElem]
 intro i j hi hj hij
 have:=hs i j (Nat.zero_le _) hij (by rw[<-h1];simpa using hj)
 rw[lt3_ok,decide_eq_false_iff_not]at this
 rw[getElem!_pos d' i (by simpa using hi),getElem!_pos d' j (by simpa using hj)]at this
 simp only[Array.getElem_toList]
 omega
theorem ah0(d:Array T3){i q:Nat}(hi:i<d.size)(hq:q<3):(flatK encV 3 d)[i*3+q]! = (encV d[i])[q]!:=by
 rw[get_flatK _ _ _ _ (by omega),show(i*3+q)/3=i by omega,show(i*3+q) % 3=q by omega,getElem!_pos d i hi]
theorem akd{x:T3}{q:Nat}{y:FV}(h:(encT x)[q]?=some y):q<3/\∃ z,y = .int .i64 z/\(encV x)[q]! = .int .i64 z:=by
 match q,h with
 | 0,h=>simp[encT]at h;exact⟨by omega,_,h.symm,rfl⟩
 | 1,h=>simp[encT]at h;exact⟨by omega,_,h.symm,rfl⟩
 | 2,h=>simp[encT]at h;exact⟨by omega,_,h.symm,rfl⟩
 | q+3,h=>simp[encT]at h
theorem ak0{l:List T3}{c base:Nat}{arr:Array Value}{ty:TypeId}{fz:Nat×Nat}(hw:w.heap[c]?=some (.cells arr ty fz))(hf:fzOk arr.size fz)(hle:base+l.length*3<=arr.size)
  (he:FVRe Φ (l.map encT) 3 (arr[·]?) base):HoldsK encV 3 w c base l.toArray:=by
 intro j hj
 rw[size_flatK]at hj
 simp only[List.size_toArray]at hj
 have hi:j/3<l.length:=by omega
 obtain⟨_,h2⟩:=aaA.1 he (j/3) (encT l[j/3]) (by rw[List.getElem?_map,List.getElem?_eq_getElem hi];rfl)
 have hq:(encT l[j/3])[j % 3]?=some (encT l[j/3])[j % 3]:=List.getElem?_eq_getElem (by simp[encT];omega)
 obtain⟨_,z,hz,hz2⟩:=akd hq
 obtain⟨v,h3,h4⟩:=abf.1 h2 (j % 3) _ hq
 rw[hz]at h4
 simp only[FVR]at h4
 subst h4
 refine⟨?_,?_⟩
 ·rw[acr hw]
  have e:base+j/3*3+j % 3=base+j:=by omega
  rw[e]at h3
  rw[h3]
  have:=ah0 l.toArray (i:=j/3) (q:=j % 3) (by simpa using hi) (by omega)
  rw[show j/3*3+j % 3=j by omega]at this
  rw[this]
  simp only[id,List.getElem_toArray,hz2]
 ·have:=hf.weak (base+j) (by omega)
  unfold World.frozen?
  rw[hw]
  simp only[Bool.and_eq_false_iff,decide_eq_false_iff_not]
  omega
theorem anJ{l:List T3}{d':Array T3}{n:Nat}{arr:Array Value}{ty:TypeId}{fz:Nat×Nat}(hr:HR Φ ρ [some (.pur 3 (l.map encT))] w){inf:Inf}(hρ:ρ 0=some inf)(hw:w.heap[inf.c]?=some (.cells arr ty fz))(hf:fzOk arr.size fz)(ha:arr.size=inf.asz)
  (hle:inf.base+l.length*3<=arr.size) (hs:d'.size=l.length) (os:Array Obj) :
  Stp Φ ρ [some (.pur 3 (l.map encT))] w Φ ρ [some (.pur 3 (d'.toList.map encT))] (sortWorldK encV 3 w inf.c inf.base n d' os):=by
 have lt:inf.c<w.heap.size:=(Array.getElem?_eq_some_iff.1 hw).1
 have hh:∀ d,(putRowK encV 3 (Sort.ahead w n) inf.c inf.base d').heap[d]?=if inf.c=d then some (.cells (putCells id inf.base (flatK encV 3 d') arr) ty fz)else w.heap[d]?:=by
  intro d
  simp only[putRowK,putRow,mapBlock,Sort.ahead,Array.getElem?_modify]
  split
  ·rename_i e
   subst e
   rw[hw]
   rfl
  ·rfl
 have hsz:(putCells id inf.base (flatK encV 3 d') arr).size=arr.size:=by simp[putCells]
 have s1:Stp Φ ρ [some (.pur 3 (l.map encT))] w Φ ρ ([some (.pur 3 (l.map encT))].set 0 (some (.pur 3 (d'.toList.map encT)))) (putRowK encV 3 (Sort.ahead w n) inf.c inf.base d'):=by
  refine acW (b:=0) (k:=.pur 3 (l.map encT)) (k':=.pur 3 (d'.toList.map encT)) (inf:=inf) hr rfl hρ rfl (by simp[Blk.len,hs]) (λd hd=>by rw[hh,if_neg (Ne.symm hd)]) ?_ (by rw[hh,if_pos rfl]) (by rw[hsz];exact hf) (by rw[hsz];exact ha) ?_ ⟨rfl,rfl,rfl⟩
  ·simp[putRowK,putRow,mapBlock,Sort.ahead]
  ·show FVRe Φ _ 3 _ _
   rw[aaA]
   intro i e hi
   rw[List.getElem?_map]at hi
   cases hx:d'.toList[i]? with
   | none=>rw[hx]at hi;cases hi
   | some x=>
    rw[hx]at hi
    cases hi
    refine⟨rfl,abf.2 λq y hq=>?_⟩
    obtain⟨q1,z,rfl,q3⟩:=akd hq
    obtain⟨hlt,hxe⟩:=List.getElem?_eq_some_iff.1 hx
    have hlt':i<d'.size:=by simpa using hlt
    refine⟨.int .i64 z,?_,by simp[FVR]⟩
    have hb:inf.base+i*3+q<arr.size:=by omega
    rw[putCells,Array.getElem?_mapIdx,Array.getElem?_eq_getElem hb]
    simp only[Option.map_some,size_flatK,id]
    rw[if_pos ⟨by omega,by omega⟩,show inf.base+i*3+q-inf.base=i*3+q by omega,ah0 d' hlt' q1]
    rw[show d'[i]=x by rw[<-hxe];simp,q3]
 refine s1.trans (ah4 s1.hr (λc hc=>?_) ?_ ⟨rfl,rfl,rfl⟩)
 ·show(_++os)[c]?=_
  rw[Array.getElem?_append_left hc]
 ·show _<=(_++os).size
  rw[Array.size_append]
  exact Nat.le_add_right _ _
theorem alx(hm:P.follows .mixedOrders=true){f g fu:Nat}{cfg:Cfg}(hnil:evCall P cfg ad4 fu f [.c (.v (.sl 3 [] none)),.c (.v (.fn g []))] []=some (.tup [],[]))
  (hcall:∀ (blk off cap:Nat) (d:Array T3) (w:World),HoldsK encV 3 w blk off d->blk<w.heap.size->d.size<4611686018427387904->Calls P f #[.slice (some ⟨blk,off,none⟩) d.size cap,.func (.func g) #[] #[]] w λe w'=>
   e = .returned (.tuple #[])/\∃ d' n os,PermIn 0 d.size d d'/\SortedIn (ltOf λx y:T3=>Lib.compareInt x.1 y.1) 0 d.size d'/\w'=sortWorldK encV 3 w blk off n d' os) :
  aa7 P (λh args hp=>if h=f then sortP 3 g args hp else none):=by
 intro f' args h r h' hc Φ ρ w vals hr ha
 dsimp only at hc
 split at hc
 ·rename_i hf
  subst hf
  unfold sortP at hc
  split at hc
  ·rename_i n g' els
   split at hc
   ·rename_i hg
    subst hg
    split at hc
    ·rename_i l hl
     split at hc
     ·rename_i hn
      cases hc
      have hels:=ahE hl
      subst hels
      simp only[ARs]at ha
      obtain⟨v1,_,rfl,h1,v2,_,rfl,h2,rfl⟩:=ha
      simp only[AR,CR]at h1
      simp only[AR,CR,FVR]at h2
      obtain⟨arr2,rfl,h2,_⟩:=h2
      have:arr2 = #[]:=Array.eq_empty_of_size_eq_zero h2
      subst this
      obtain⟨p,k,rfl,hnk,hp,_,hx⟩:=h1
      obtain⟨_,hlen,hx⟩:=hx (.pur 3 (l.map encT)) rfl
      have hlen':n=l.length:=by simpa[Blk.len]using hlen
      subst hlen'
      cases l with
      | nil=>
       have hr0:HR Φ noRho [] w:=⟨hr.fro,λb k inf h=>by simp[live]at h,λb b' k k' inf inf' h=>by simp[live]at h,hr.glo,λb kk es inf h=>by simp[live]at h⟩
       have ha0:ARs Φ noRho [] [.c (.v (.sl 3 [] none)),.c (.v (.fn g' []))] [.slice p 0 k,.func (.func g') #[] #[]]:=by
        simp only[ARs,AR,CR,FVR]
        exact⟨_,_,rfl,⟨p,k,rfl,⟨by simp,by simp⟩,by simp,by simp⟩,_,_,rfl,⟨#[],rfl,rfl,by simp[FVRs]⟩,rfl⟩
       refine(acZ (ajT hm) (ai5 P) fu f' _ [] _ [] hnil Φ noRho w _ hr0 ha0).mono ?_
       rintro e w' ⟨v',Φ',ρ',rfl,st,hv'⟩
       exact⟨v',Φ,ρ,rfl,aiP hr st,by simpa only[AR,ARs]using hv'⟩
      | cons x l=>
       rcases hx with⟨hx,_⟩ | ⟨inf,hρ,rfl,_⟩
       ·simp at hx
       ·obtain⟨_,arr,ty,fz,hw,hf,ha,hle,he⟩:=hr.own 0 _ inf rfl rfl hρ
        have hle':inf.base+(x::l).length*3<=arr.size:=by simpa[Blk.len,Blk.sz]using hle
        have hH:=ak0 hw hf hle' he
        have hsz:(x::l).toArray.size=(x::l).length:=by simp
        have hcon:=hcall inf.c inf.base k (x::l).toArray w hH (Array.getElem?_eq_some_iff.1 hw).1 (by rw[hsz];exact hn.2)
        rw[hsz]at hcon
        refine Calls.mono hcon ?_
        rintro e w' ⟨rfl,d',m,os,hp,hs,rfl⟩
        have e1:=aiV (d:=(x::l).toArray) (by simpa using hn.1) (by rw[hsz];exact hp) (by rw[hsz];exact hs)
        have e2:d'.size=(x::l).length:=by
         have:=hp.1
         rw[this,hsz]
        have st:=anJ (n:=m) hr hρ hw hf ha hle' e2 os
        rw[e1]at st
        exact⟨_,Φ,ρ,rfl,st,by simp only[AR];exact⟨#[],rfl,by simp[ARs]⟩⟩
     ·cases hc
    ·cases hc
   ·cases hc
  ·cases hc
 ·cases hc
end Go.Ev
