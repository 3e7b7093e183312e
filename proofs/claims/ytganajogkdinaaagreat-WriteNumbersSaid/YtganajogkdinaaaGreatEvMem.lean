import Derived.Test.YtganajogkdinaaaGreatEvMap
import Derived.Laws.Cells
set_option linter.all false
namespace Go.Ev
variable[Glo]
set_option linter.unusedSimpArgs false
variable{P:Program}{Φ:Phi}{ρ:Rho}{H:Heap}{s:List A}{a:Act}{w:World}
theorem acr{c off:Nat}{arr:Array Value}{ty:TypeId}{fz:Nat×Nat}(h:w.heap[c]?=some (.cells arr ty fz)):w.cell? ⟨c,off,none⟩=arr[off]?:=by
 simp[World.cell?,h]
theorem afD{c off:Nat}{arr:Array Value}{ty:TypeId}{fz:Nat×Nat}{v:Value}(h:w.heap[c]?=some (.cells arr ty fz))(hv:arr[off]?=some v) :
  (load ⟨c,off,none⟩).run P w = .ok v w:=by
 simp[acr h,hv]
theorem aff:∀ {L:List C}{g:Nat->Option Value}{off:Nat},CRs Φ ρ H L g off->∃ vs:List Value,vs.length=L.length ∧
  (∀ (j:Nat) (u:Value),vs[j]?=some u->g (off+j)=some u)/\CRs Φ ρ H L (vs[·]?) 0/\∀ u∈vs,u.oneCell'=true
 | [],g,off,_=>⟨[],rfl,by simp,by simp[CRs],by simp⟩
 | x::r,g,off,h=>by
  simp only[CRs]at h
  obtain⟨⟨v,h1,h2⟩,h3⟩:=h
  obtain⟨vs,e1,e2,e3,e4⟩:=aff h3
  refine⟨v::vs,by simp[e1],λj u hj=>?_,?_,λu hu=>?_⟩
  ·cases j with
   | zero=>simp at hj;subst hj;exact h1
   | succ j=>
    have:=e2 j u (by simpa using hj)
    rwa[show off+1+j=off+(j+1)from by omega]at this
  ·simp only[CRs]
   refine⟨⟨v,rfl,h2⟩,CRs_iff.2 λi y hi=>?_⟩
   obtain⟨u,hu,hr⟩:=aaz e3 hi
   refine⟨u,?_,hr⟩
   rw[Nat.zero_add]at hu
   rw[show 0+1+i=i+1 from by omega]
   simpa using hu
  ·rcases List.mem_cons.1 hu with rfl | hu
   ·exact ad9 h2
   ·exact e4 u hu
theorem ahp:∀ {L:List (List C)}{sz:Nat}{g:Nat->Option Value}{off:Nat},CRe Φ ρ H L sz g off->∃ vs:List Value,vs.length=L.length*sz ∧
  (∀ (j:Nat) (u:Value),vs[j]?=some u->g (off+j)=some u)/\CRe Φ ρ H L sz (vs[·]?) 0/\∀ u∈vs,u.oneCell'=true
 | [],sz,g,off,_=>⟨[],by simp,by simp,by simp[CRe],by simp⟩
 | x::r,sz,g,off,h=>by
  simp only[CRe]at h
  obtain⟨h0,h1,h2⟩:=h
  obtain⟨v1,a1,a2,a3,a4⟩:=aff h1
  obtain⟨v2,b1,b2,b3,b4⟩:=ahp h2
  have hl:v1.length=sz:=a1.trans h0
  refine⟨v1++v2,by simp[hl,b1,Nat.add_mul,Nat.add_comm],λj u hj=>?_,?_,λu hu=>?_⟩
  ·rw[List.getElem?_append]at hj
   split at hj
   ·exact a2 j u hj
   ·have:=b2 _ u hj
    rwa[show off+sz+(j-v1.length)=off+j from by omega]at this
  ·simp only[CRe]
   refine⟨h0,CRs_iff.2 λi y hi=>?_,CRe_iff.2 λi e hi=>?_⟩
   ·obtain⟨u,hu,hr⟩:=aaz a3 hi
    have hlt:i<x.length:=(List.getElem?_eq_some_iff.1 hi).1
    refine⟨u,?_,hr⟩
    rw[List.getElem?_append_left (by omega)]
    exact hu
   ·obtain⟨q1,q2⟩:=CRe_iff.1 b3 i e hi
    refine⟨q1,CRs_iff.2 λj y hj=>?_⟩
    obtain⟨u,hu,hr⟩:=aaz q2 hj
    refine⟨u,?_,hr⟩
    rw[List.getElem?_append_right (by omega),<-hu]
    congr 1;omega
  ·rcases List.mem_append.1 hu with hu | hu
   ·exact a4 u hu
   ·exact b4 u hu
theorem ack{c off o n:Nat}{arr:Array Value}{ty t:TypeId}{fz:Nat×Nat}{cl:CL}{g:Bool}{r:A}(hw:w.heap[c]?=some (.cells arr ty fz))
  (hg:aggT P t=some g) (hn:szOf P t=some n) (h:cl.part g o n=some r) (hc:CLR Φ ρ H cl (arr[·]?) off) :
  ∃ v,(loadVar t ⟨c,off+o,none⟩).run P w = .ok v w/\AR Φ ρ H r v:=by
 simp only[loadVar,Sem.run_bind,ae7 hg,Result.andThen_ok]
 cases g with
 | true=>
  simp only[if_true,Sem.run_bind,aas hn,Result.andThen_ok]
  have key:∀ {L:List C},CRs Φ ρ H L (arr[·]?) off->o+n<=L.length->∃ vs:List Value,(loadCells ⟨c,off+o,none⟩ n).run P w = .ok vs.toArray w/\vs.length=n/\CRs Φ ρ H ((L.drop o).take n) (vs[·]?) 0:=by
   intro L hL hle
   have hsub:CRs Φ ρ H ((L.drop o).take n) (arr[·]?) (off+o):=by
    refine CRs_iff.2 λi x hi=>?_
    rw[List.getElem?_take]at hi
    split at hi
    ·rw[List.getElem?_drop]at hi
     have:=aaz hL hi
     rwa[<-Nat.add_assoc]at this
    ·cases hi
   obtain⟨vs,e1,e2,e3,e4⟩:=aff hsub
   have hlen:vs.length=n:=by rw[e1];simp;omega
   refine⟨vs,?_,hlen,e3⟩
   have:=run_loadCells_list (P:=P) w ⟨c,off+o,none⟩ vs (λj v hj=>by rw[addr_add,acr hw];exact e2 j v hj)
   rwa[hlen]at this
  cases cl with
  | p l=>
   simp only[CL.part]at h
   split at h
   ·rename_i hle
    cases h
    obtain⟨vs,e1,e2,e3⟩:=key (agI.2 hc) (by simpa using hle)
    rw[e1]
    refine⟨.agg vs.toArray,rfl,?_⟩
    simp only[AR]
    refine⟨_,rfl,by simp[e2];omega,?_⟩
    rw[<-List.map_drop,<-List.map_take,agI]at e3
    simpa using e3
   ·cases h
  | m l=>
   simp only[CL.part]at h
   split at h
   ·rename_i hle
    cases h
    obtain⟨vs,e1,e2,e3⟩:=key hc hle
    rw[e1]
    refine⟨.agg vs.toArray,rfl,?_⟩
    simp only[AR]
    exact⟨_,rfl,by simp[e2];omega,by simpa using e3⟩
   ·cases h
 | false=>
  simp only[Bool.false_eq_true,if_false]
  cases cl with
  | p l=>
   simp only[CL.part,Option.map_eq_some_iff]at h
   obtain⟨x,hx,rfl⟩:=h
   obtain⟨v,hv,hr⟩:=aaU hc hx
   exact⟨v,afD hw hv,by simpa[AR,CR]using hr⟩
  | m l=>
   simp only[CL.part,Option.map_eq_some_iff]at h
   obtain⟨x,hx,rfl⟩:=h
   obtain⟨v,hv,hr⟩:=aaz hc hx
   exact⟨v,afD hw hv,by simpa[AR]using hr⟩
theorem akv{k:Blk}{g:Nat->Option Value}{base i:Nat}{cl:CL}(h:ELR Φ ρ H k.el k.sz g base)(hi:k.at i=some cl) :
  cl.len=k.sz/\CLR Φ ρ H cl g (base+i*k.sz)/\i<k.len:=by
 cases k with
 | pur sz els=>
  simp only[Blk.at,Option.map_eq_some_iff]at hi
  obtain⟨l,hl,rfl⟩:=hi
  obtain⟨h1,h2⟩:=aaA.1 h i l hl
  exact⟨h1,h2,(List.getElem?_eq_some_iff.1 hl).1⟩
 | mix sz els=>
  simp only[Blk.at,Option.map_eq_some_iff]at hi
  obtain⟨l,hl,rfl⟩:=hi
  obtain⟨h1,h2⟩:=CRe_iff.1 h i l hl
  exact⟨h1,h2,(List.getElem?_eq_some_iff.1 hl).1⟩
 | mp=>cases hi
theorem alM{t:TypeId}{g:Bool}{n:Nat}{x r:A}{v:Value}(hg:aggT P t=some g)(hn:szOf P t=some n)(h:loadA H g n x=some r)(hx:AR Φ ρ H x v)(hr:HR Φ ρ H w) :
  ∃ z,(Instr.loadAt t v).run P w = .ok z w/\AR Φ ρ H r z:=by
 unfold loadA at h
 split at h
 ·simp only[AR,CR,FVR]at hx
  obtain⟨c,off,arr,rfl,h1,h2⟩:=hx
  obtain⟨ty,fz,hw⟩:=hr.fro _ _ h1
  simp only[Instr.loadAt,Instr.sureAddr,Sem.run_bind,Sem.run_pure,Result.andThen_ok]
  have:=ack (P:=P) (ρ:=ρ) (H:=H) (o:=0) hw hg hn h h2
  simpa using this
 ·rename_i b _ i o
  simp only[AR,CR]at hx
  obtain⟨p,rfl,hb,h1⟩:=hx
  split at h
  ·rename_i k hk
   obtain⟨hs,inf,h2,rfl⟩:=h1 k hk
   split at h
   ·rename_i cl hcl
    obtain⟨_,arr,ty,fz,hw,_,_,_,he⟩:=hr.own b k inf hk (Blk.cel_at hcl) h2
    obtain⟨e1,e2,_⟩:=akv he hcl
    simp only[Instr.loadAt,Instr.sureAddr,Sem.run_bind,Sem.run_pure,Result.andThen_ok]
    rw[<-hs]
    exact ack hw hg hn h e2
   ·cases h
  ·cases h
 ·cases h
theorem alF{e:EL}{sz:Nat}{g:Nat->Option Value}{off:Nat}(h:ELR Φ ρ H e sz g off):∃ vs:List Value,vs.length=e.len*sz ∧
  (∀ (j:Nat) (u:Value),vs[j]?=some u->g (off+j)=some u)/\ELR Φ ρ H e sz (vs[·]?) 0/\∀ u∈vs,u.oneCell'=true:=by
 obtain⟨vs,e1,e2,e3,e4⟩:=ahp (ELR_c.1 h)
 exact⟨vs,by rw[e1,EL.c_len],e2,ELR_c.2 e3,e4⟩
theorem ade{e:EL}{sz i n:Nat}{g:Nat->Option Value}{off:Nat}(h:ELR Φ ρ H e sz g off):ELR Φ ρ H (e.mid i n) sz g (off+i*sz):=by
 rw[ELR_c]at h ⊢
 rw[EL.mid_c]
 refine CRe_iff.2 λj x hj=>?_
 rw[List.getElem?_take]at hj
 split at hj
 ·rw[List.getElem?_drop]at hj
  have:=CRe_iff.1 h _ _ hj
  rwa[Nat.add_mul,<-Nat.add_assoc]at this
 ·cases hj
theorem ags{sz:Nat}{x:A}{v:Value}{e:EL}(h:elsA H sz x=some e)(hx:AR Φ ρ H x v)(hr:HR Φ ρ H w)(hsz:0<sz) :
  ∃ vs:List Value,vs.length=e.len*sz/\ELR Φ ρ H e sz (vs[·]?) 0/\(∀ u∈vs,u.oneCell'=true)/\(Builtin.lenOf v).run P w = .ok e.len w ∧
   (∀ w1:World,w1.heap=w.heap->∀ m,m<=e.len->(Builtin.firstCells sz m v).run P w1 = .ok (vs.take (m*sz)).toArray w1):=by
 have main:∀ {p:Option Addr}{k:Nat}{g:Nat->Option Value}{off:Nat},ELR Φ ρ H e sz g off->(∀ (j:Nat) (u:Value),g (off+j)=some u->j<e.len*sz->∃ ad,p=some ad/\w.cell? (ad.add j)=some u)->(p=none->e.len=0) →
   v = .slice p e.len k->∃ vs:List Value,vs.length=e.len*sz/\ELR Φ ρ H e sz (vs[·]?) 0/\(∀ u∈vs,u.oneCell'=true)/\(Builtin.lenOf v).run P w = .ok e.len w ∧
   (∀ w1:World,w1.heap=w.heap->∀ m,m<=e.len->(Builtin.firstCells sz m v).run P w1 = .ok (vs.take (m*sz)).toArray w1):=by
  intro p k g off he hcell hp hv
  obtain⟨vs,e1,e2,e3,e4⟩:=alF he
  subst hv
  refine⟨vs,e1,e3,e4,rfl,λw1 hw1 m hm=>?_⟩
  cases p with
  | none=>
   have h0:=hp rfl
   have:m=0:=by omega
   subst this
   simp[Builtin.firstCells]
  | some ad=>
   simp only[Builtin.firstCells]
   have hlen:(vs.take (m*sz)).length=m*sz:=by
    rw[List.length_take,e1]
    exact Nat.min_eq_left (Nat.mul_le_mul_right _ hm)
   have:=run_loadCells_list (P:=P) w1 ad (vs.take (m*sz)) (λj u hj=>by
    rw[show w1.cell? (ad.add j)=w.cell? (ad.add j)from by simp[World.cell?,hw1]]
    rw[List.getElem?_take]at hj
    split at hj
    ·have hlt:j<vs.length:=(List.getElem?_eq_some_iff.1 hj).1
     obtain⟨ad',h1,h2⟩:=hcell j u (e2 j u hj) (by omega)
     cases h1;exact h2
    ·cases hj)
   rwa[hlen]at this
 unfold elsA at h
 split at h
 ·rename_i z els _
  split at h
  ·rename_i hz
   cases h
   simp only[AR,CR,FVR]at hx
   obtain⟨p,k,rfl,_,h0,h1⟩:=hx
   rcases h1 with h1 | ⟨c,off,arr,rfl,h3,h4⟩
   ·subst h1
    exact main (g:=λ_=>none) (off:=0) (by simp[ELR,FVRe]) (by simp) (by simp[EL.len]) rfl
   ·obtain⟨ty,fz,hw⟩:=hr.fro _ _ h3
    by_cases hz0:z=0
    ·have:=h0.1 hz0
     subst this
     exact main (g:=λ_=>none) (off:=0) (by simp[ELR,FVRe]) (by simp) (by simp[EL.len]) rfl
    ·have:z=sz:=hz.resolve_right hz0
     subst this
     exact main (g:=(arr[·]?)) (off:=off) h4 (λj u hu _=>⟨_,rfl,by rw[addr_add,acr hw];exact hu⟩) (by simp) rfl
  ·cases h
 ·rename_i b z i n _
  split at h
  ·rename_i hz
   subst hz
   simp only[Option.map_eq_some_iff]at h
   obtain⟨k,hk,rfl⟩:=h
   simp only[AR,CR]at hx
   obtain⟨p,kk,rfl,hc,hpn,hb,h1⟩:=hx
   obtain⟨g1,g2,g3,g4⟩:=h1 k hk
   have hlen:(k.el.mid i n).len=n:=by rw[EL.mid_len,Blk.el_len];omega
   rcases g4 with⟨g4,g5⟩ | ⟨inf,g4,g5,g6⟩
   ·subst g4
    have hnil:ELR Φ ρ H (k.el.mid i 0) z (λ_=>none) 0:=by
     rw[ELR_c,EL.mid_c];simp[CRe]
    exact main hnil (by simp) (λ_=>hlen) (by rw[hlen])
   ·obtain⟨_,arr,ty,fz,hw,_,_,_,he⟩:=hr.own b k inf hk (Blk.cel (by omega)) g4
    rw[g1]at he
    refine main (g:=(arr[·]?)) (ade he) (λj u hu _=>⟨_,g5,by rw[addr_add,acr hw];exact hu⟩) (by simp[g5]) (by rw[hlen])
  ·cases h
 ·rename_i b z n
  split at h
  ·rename_i hz
   subst hz
   simp only[Option.map_eq_some_iff]at h
   obtain⟨k,hk,rfl⟩:=h
   simp only[AR,CR]at hx
   obtain⟨p,kk,rfl,hc,hpn,hb,h1⟩:=hx
   obtain⟨g1,g2,g4⟩:=h1 k hk
   have hlen:k.el.len=n:=by rw[Blk.el_len];omega
   rcases g4 with⟨g4,g5⟩ | ⟨inf,g4,g5,g6⟩
   ·have hnil:ELR Φ ρ H k.el z (λ_=>none) 0:=by
     rw[ELR_c]
     have:k.el.c=[]:=List.eq_nil_of_length_eq_zero (by rw[EL.c_len];omega)
     rw[this];simp[CRe]
    exact main hnil (by simp) (λ_=>by omega) (by rw[hlen])
   ·obtain⟨_,arr,ty,fz,hw,_,_,_,he⟩:=hr.own b k inf hk (Blk.cel (by omega)) g4
    rw[g1]at he
    exact main (g:=(arr[·]?)) he (λj u hu _=>⟨_,g5,by rw[addr_add,acr hw];exact hu⟩) (by simp[g5]) (by rw[hlen])
  ·cases h
 ·rename_i str
  split at h
  ·rename_i hz
   subst hz
   cases h
   simp only[AR,CR,FVR]at hx
   subst hx
   refine⟨str.data.toList.map λb=>.int .u8 b.toNat,by simp[EL.len],?_,?_,?_,?_⟩
   ·simp only[ELR]
    refine aaA.2 λi e hi=>?_
    rw[List.getElem?_map]at hi
    obtain⟨b,hb,rfl⟩:=Option.map_eq_some_iff.1 hi
    refine⟨rfl,?_⟩
    simp only[FVRs,and_true]
    exact⟨.int .u8 b.toNat,by simp[hb],by simp[FVR]⟩
   ·intro u hu
    obtain⟨b,_,rfl⟩:=List.mem_map.1 hu
    rfl
   ·show Result.ok str.size w=_
    simp[EL.len]
   ·intro w1 _ m hm
    simp only[Builtin.firstCells,Sem.run_pure]
    congr 1
    apply Array.ext'
    simp[ByteArray.extract,ByteArray.copySlice]
  ·cases h
 ·cases h
theorem aiW{l:List FV}{r:List (List FV)}{sz:Nat}{vs:List Value}(h:FVRe Φ (l::r) sz (vs[·]?) 0):l.length=sz/\FVRs Φ l (vs[·]?) 0/\FVRe Φ r sz ((vs.drop sz)[·]?) 0:=by
 simp only[FVRe]at h
 obtain⟨h0,h1,h2⟩:=h
 refine⟨h0,h1,aaA.2 λi e hi=>?_⟩
 obtain⟨q1,q2⟩:=aaA.1 h2 i e hi
 refine⟨q1,abf.2 λj x hj=>?_⟩
 obtain⟨v,hv,hr⟩:=aaU q2 hj
 refine⟨v,?_,hr⟩
 rw[List.getElem?_drop,<-hv]
 congr 1;omega
theorem aeG:∀ {l:List (List FV)}{bs:List UInt8}{vs:List Value},bytesOf l=some bs->FVRe Φ l 1 (vs[·]?) 0->vs.length=l.length →
  ∀ acc:ByteArray,(forIn (m:=Sem) vs acc (λc s=>(match c with
   |.int .u8 n=>pure (ForInStep.yield (s.push (UInt8.ofNat n.toNat)))
   | _ => do stuck "bytesToString: byte expected"; pure (ForInStep.yield s)))).run P w = .ok ⟨acc.data ++ bs.toArray⟩ w
 | [],bs,vs,h,_,hl,acc=>by
  simp[bytesOf]at h;subst h
  have:vs=[]:=List.eq_nil_of_length_eq_zero (by simpa using hl)
  subst this
  simp
 | [.int .u8 n]::r,bs,vs,h,he,hl,acc=>by
  simp only[bytesOf,Option.map_eq_some_iff]at h
  obtain⟨bs',h1,rfl⟩:=h
  obtain⟨_,h2,h3⟩:=aiW he
  cases vs with
  | nil=>simp at hl
  | cons v vs=>
   simp only[FVRs,FVR,and_true]at h2
   obtain⟨v',hv,rfl⟩:=h2
   simp at hv
   subst hv
   have ih:=aeG (vs:=vs) h1 (by simpa using h3) (by simpa using hl) (acc.push (UInt8.ofNat n.toNat))
   rw[List.forIn_cons]
   simp only[Sem.run_bind,Sem.run_pure,Result.andThen_ok]
   rw[ih]
   simp[ByteArray.push]
 | []::_,_,_,h,_,_,_=>by simp[bytesOf]at h
 | (x::y::_)::_,_,_,h,_,_,_=>by
  cases x <;> simp[bytesOf]at h
 | [.bool _]::_,_,_,h,_,_,_ | [.flt _ _]::_,_,_,h,_,_,_ | [.str _]::_,_,_,h,_,_,_ | [.nilp]::_,_,_,h,_,_,_ | [.nilfn]::_,_,_,h,_,_,_ | [.nili]::_,_,_,h,_,_,_
 | [.ref _]::_,_,_,h,_,_,_ | [.sl _ _ _]::_,_,_,h,_,_,_ | [.fn _ _]::_,_,_,h,_,_,_ | [.iface _ _]::_,_,_,h,_,_,_=>by simp[bytesOf]at h
 | [.int .u16 _]::_,_,_,h,_,_,_ | [.int .u32 _]::_,_,_,h,_,_,_ | [.int .u64 _]::_,_,_,h,_,_,_ | [.int .i8 _]::_,_,_,h,_,_,_ | [.int .i16 _]::_,_,_,h,_,_,_
 | [.int .i32 _]::_,_,_,h,_,_,_ | [.int .i64 _]::_,_,_,h,_,_,_=>by simp[bytesOf]at h
theorem am7{o:Oper}{r:A}(h:rdo P s H o.op=some r)(hs:SR Φ ρ H s a.tmps)(hr:HR Φ ρ H w) :
  ∃ z,(execOp a.eval o).run P w = .ok (.value z) w/\AR Φ ρ H r z:=by
 unfold rdo at h
 split at h
 ·rename_i t x ho
  split at h
  ·rename_i g n hg hn
   obtain⟨z,hz,hz'⟩:=alM hg hn h (aaN hs x) hr
   exact⟨z,by simp only[execOp,ho];exact val_run hz,hz'⟩
  ·cases h
 ·rename_i src dst x ho
  split at h
  ·rename_i e hu hd
   split at h
   ·rename_i l he hl
    obtain⟨hl,hns⟩:elsA H 1 (opd s x)=some (.p l)/\∀ t,opd s x ≠ .c (.v (.str t)):=by
     unfold elsN at hl
     split at hl
     ·cases hl
     ·rename_i hq;exact⟨hl,hq⟩
    simp only[Option.map_eq_some_iff]at h
    obtain⟨bs,hb,rfl⟩:=h
    obtain⟨vs,e1,e2,e3,e4,e5⟩:=ags (P:=P) hl (aaN hs x) hr (by omega)
    have e5:=e5 w rfl _ (Nat.le_refl _)
    rw[List.take_of_length_le (by omega)]at e5
    refine⟨.string ⟨bs.toArray⟩,?_,by simp[AR,CR,FVR]⟩
    simp only[execOp,ho]
    refine val_run ?_
    have hx:=aaN hs x
    have hsl:∃ p n k,a.eval x = .slice p n k:=by
     unfold elsA at hl
     split at hl
     ·rename_i hq;rw[hq]at hx;simp only[AR,CR,FVR]at hx;obtain⟨p,k,h1,_⟩:=hx;exact⟨_,_,_,h1⟩
     ·rename_i hq;rw[hq]at hx;simp only[AR,CR]at hx;obtain⟨p,k,h1,_⟩:=hx;exact⟨_,_,_,h1⟩
     ·rename_i hq;rw[hq]at hx;simp only[AR,CR]at hx;obtain⟨p,k,h1,_⟩:=hx;exact⟨_,_,_,h1⟩
     ·rename_i hq;exact absurd hq (hns _)
     ·cases hl
    obtain⟨p,n,k,hv⟩:=hsl
    rw[hv]at e4 e5 ⊢
    simp only[Builtin.lenOf,Sem.run_pure,Result.ok.injEq,and_true]at e4
    subst e4
    simp only[convert,Sem.run_bind,aaf hu,aaf hd,Result.andThen_ok]
    cases p with
    | none=>
     simp only[Builtin.firstCells,Sem.run_pure,Result.ok.injEq,and_true]at e5
     have hvs:vs=[]:=by cases vs with | nil=>rfl | cons=>simp at e5
     subst hvs
     have:l=[]:=List.eq_nil_of_length_eq_zero (by simpa[EL.len]using e1.symm)
     subst this
     simp[bytesOf]at hb
     subst hb
     simp only[aaf he,Sem.run_bind,Result.andThen_ok,Conv.bytesToString,Sem.run_pure]
     rfl
    | some ad=>
     simp only[Builtin.firstCells,Nat.mul_one]at e5
     simp only[aaf he,Sem.run_bind,Result.andThen_ok,Conv.bytesToString,e5,List.forIn_toArray]
     refine(congrArg (λq=>Result.andThen q _) (aeG hb e2 (by simpa[EL.len]using e1) ByteArray.empty)).trans ?_
     simp
   ·cases h
  ·cases h
 ·cases h
end Go.Ev
