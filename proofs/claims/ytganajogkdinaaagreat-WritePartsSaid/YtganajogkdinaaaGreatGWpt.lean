import Derived.Test.YtganajogkdinaaaGreatGWrh
import Derived.Test.YtganajogkdinaaaGreatGMatP
import Derived.Test.YtganajogkdinaaaGreatGPf
set_option linter.all false
namespace Go.R4
open Go.Proofs Go.Ev Mo
set_option maxRecDepth 100000
namespace Wr
open Lb
def Good(i:ag):Prop:=(aex i/\0<=i.N/\i.N<18446744073709551616)/\(insE i).length<=11
theorem aoZ{op:Int}(h:0<=op/\op<=64523):(preE op).length<=2/\(op<64512->(preE op).length=1):=by
 unfold preE
 refine⟨?_,λq=>by rw[if_neg (by omega)];rfl⟩
 split
 ·rw[acJ (by omega) (by omega)];simp
 ·simp
theorem aas{o a b n:Int}{l:List Int}{c:Nat}(hk:kn o=true)(hc:cls o=c)(ok:okA ⟨o,a,b,n,l⟩ c)(ha:(shp c).a=false->a=0)(hb:(shp c).b=false->b=0)(hn:(shp c).n=false->n=0)(hl:(shp c).l=false->l.length=0)(h0:0<=n)(h1:n<18446744073709551616)
  (hlen:(o<64512/\(behE ⟨o,a,b,n,l⟩).length<=10)∨(behE ⟨o,a,b,n,l⟩).length<=9):Good ⟨o,a,b,n,l⟩:=by
 subst hc
 refine⟨⟨⟨hk,ok,ha,hb,hn,hl⟩,h0,h1⟩,?_⟩
 obtain⟨p1,p2⟩:=aoZ (aix hk)
 simp only[insE,List.length_append]
 rcases hlen with⟨q,r⟩ | r
 ·have:=p2 q;omega
 ·omega
theorem lenU{n:Int}(h0:0<=n)(h1:n<=127):(encU n).length=1:=by rw[acJ h0 h1];rfl
theorem amH:opsL.all (λo=>kn o&&(cls o == 13))=true:=by decide +kernel
theorem al5:Mo.accL.all (λo=>kn o&&(cls o == 1)&&acc o)=true:=by decide +kernel
theorem akj{i:ag}(h:Fine i):Good i:=by
 cases h with
 | num h=>
  have:=List.all_eq_true.1 amH _ h
  simp only[Bool.and_eq_true,beq_iff_eq]at this
  exact aas this.1 this.2 trivial (λ_=>rfl) (λ_=>rfl) (λ_=>rfl) (λ_=>rfl) (by omega) (by omega) (.inr (by simp[behE,this.2]))
 | bare h=>
  rcases h with rfl | rfl | rfl | rfl <;> exact aas (c:=13) (by decide +kernel) (by decide +kernel) trivial (λ_=>rfl) (λ_=>rfl) (λ_=>rfl) (λ_=>rfl) (by omega) (by omega) (.inr (by decide +kernel))
 | i32 a b=>
  have c:cls 65=2:=by decide +kernel
  exact aas (c:=2) (by decide +kernel) c (by simp only[okA];omega) (λ_=>rfl) (λ_=>rfl) (λq=>by cases q) (λ_=>rfl) a (by omega) (.inl ⟨by omega,by simp only[behE,c];exact abL _ _⟩)
 | i64 a b=>
  have c:cls 66=3:=by decide +kernel
  exact aas (c:=3) (by decide +kernel) c trivial (λ_=>rfl) (λ_=>rfl) (λq=>by cases q) (λ_=>rfl) a (by omega) (.inl ⟨by omega,by simp only[behE,c];exact abL _ _⟩)
 | f64 a b=>
  have c:cls 68=3:=by decide +kernel
  exact aas (c:=3) (by decide +kernel) c trivial (λ_=>rfl) (λ_=>rfl) (λq=>by cases q) (λ_=>rfl) a (by omega) (.inl ⟨by omega,by simp only[behE,c];exact abL _ _⟩)
 | loc h a b=>
  rcases h with rfl | rfl | rfl
  ·have c:cls 32=7:=by decide +kernel
   exact aas (c:=7) (by decide +kernel) c (by simp only[okA];omega) (λq=>by cases q) (λ_=>rfl) (λ_=>rfl) (λ_=>rfl) (by omega) (by omega) (.inr (by simp only[behE,c];rw[lenU a (by omega)];omega))
  ·have c:cls 33=7:=by decide +kernel
   exact aas (c:=7) (by decide +kernel) c (by simp only[okA];omega) (λq=>by cases q) (λ_=>rfl) (λ_=>rfl) (λ_=>rfl) (by omega) (by omega) (.inr (by simp only[behE,c];rw[lenU a (by omega)];omega))
  ·have c:cls 34=7:=by decide +kernel
   exact aas (c:=7) (by decide +kernel) c (by simp only[okA];omega) (λq=>by cases q) (λ_=>rfl) (λ_=>rfl) (λ_=>rfl) (by omega) (by omega) (.inr (by simp only[behE,c];rw[lenU a (by omega)];omega))
 | glo h a b=>
  rcases h with rfl | rfl
  ·have c:cls 35=8:=by decide +kernel
   exact aas (c:=8) (by decide +kernel) c (by simp only[okA];omega) (λq=>by cases q) (λ_=>rfl) (λ_=>rfl) (λ_=>rfl) (by omega) (by omega) (.inr (by simp only[behE,c];rw[lenU a (by omega)];omega))
  ·have c:cls 36=8:=by decide +kernel
   exact aas (c:=8) (by decide +kernel) c (by simp only[okA];omega) (λq=>by cases q) (λ_=>rfl) (λ_=>rfl) (λ_=>rfl) (by omega) (by omega) (.inr (by simp only[behE,c];rw[lenU a (by omega)];omega))
 | acc h a b n0 n1=>
  have:=List.all_eq_true.1 al5 _ h
  simp only[Bool.and_eq_true,beq_iff_eq]at this
  obtain⟨⟨k,c⟩,_⟩:=this
  refine aas (c:=1) k c (by simp only[okA];omega) (λq=>by cases q) (λ_=>rfl) (λq=>by cases q) (λ_=>rfl) n0 (by omega) (.inr ?_)
  simp only[behE,c,accE,List.length_append]
  rw[lenU n0 (by omega)]
  split
  ·simp
  ·rw[List.length_cons,lenU a (by omega)];omega
 | mem h a b=>
  rcases h with rfl | rfl
  ·have c:cls 63=9:=by decide +kernel
   exact aas (c:=9) (by decide +kernel) c (by simp only[okA];omega) (λq=>by cases q) (λ_=>rfl) (λ_=>rfl) (λ_=>rfl) (by omega) (by omega) (.inr (by simp only[behE,c];rw[lenU a (by omega)];omega))
  ·have c:cls 64=9:=by decide +kernel
   exact aas (c:=9) (by decide +kernel) c (by simp only[okA];omega) (λq=>by cases q) (λ_=>rfl) (λ_=>rfl) (λ_=>rfl) (by omega) (by omega) (.inr (by simp only[behE,c];rw[lenU a (by omega)];omega))
 | ini a b e f=>
  have c:cls 64520=10:=by decide +kernel
  exact aas (c:=10) (by decide +kernel) c (by simp only[okA];omega) (λq=>by cases q) (λq=>by cases q) (λ_=>rfl) (λ_=>rfl) (by omega) (by omega) (.inr (by simp only[behE,c,List.length_append];rw[lenU a (by omega),lenU e (by omega)];omega))
 | dro a b=>
  have c:cls 64521=11:=by decide +kernel
  exact aas (c:=11) (by decide +kernel) c (by simp only[okA];omega) (λq=>by cases q) (λ_=>rfl) (λ_=>rfl) (λ_=>rfl) (by omega) (by omega) (.inr (by simp only[behE,c];rw[lenU a (by omega)];omega))
 | cop a b e f=>
  have c:cls 64522=12:=by decide +kernel
  exact aas (c:=12) (by decide +kernel) c (by simp only[okA];omega) (λq=>by cases q) (λq=>by cases q) (λ_=>rfl) (λ_=>rfl) (by omega) (by omega) (.inr (by simp only[behE,c,List.length_append];rw[lenU a (by omega),lenU e (by omega)];omega))
 | fil a b=>
  have c:cls 64523=9:=by decide +kernel
  exact aas (c:=9) (by decide +kernel) c (by simp only[okA];omega) (λq=>by cases q) (λ_=>rfl) (λ_=>rfl) (λ_=>rfl) (by omega) (by omega) (.inr (by simp only[behE,c];rw[lenU a (by omega)];omega))
 | call h a b=>
  rcases h with rfl | rfl
  ·have c:cls 16=6:=by decide +kernel
   exact aas (c:=6) (by decide +kernel) c (by simp only[okA];omega) (λq=>by cases q) (λ_=>rfl) (λ_=>rfl) (λ_=>rfl) (by omega) (by omega) (.inr (by simp only[behE,c];rw[lenU a (by omega)];omega))
  ·have c:cls 18=6:=by decide +kernel
   exact aas (c:=6) (by decide +kernel) c (by simp only[okA];omega) (λq=>by cases q) (λ_=>rfl) (λ_=>rfl) (λ_=>rfl) (by omega) (by omega) (.inr (by simp only[behE,c];rw[lenU a (by omega)];omega))
 | br h a b=>
  rcases h with rfl | rfl
  ·have c:cls 12=4:=by decide +kernel
   exact aas (c:=4) (by decide +kernel) c (by simp only[okA];omega) (λq=>by cases q) (λ_=>rfl) (λ_=>rfl) (λ_=>rfl) (by omega) (by omega) (.inr (by simp only[behE,c];rw[lenU a (by omega)];omega))
  ·have c:cls 13=4:=by decide +kernel
   exact aas (c:=4) (by decide +kernel) c (by simp only[okA];omega) (λq=>by cases q) (λ_=>rfl) (λ_=>rfl) (λ_=>rfl) (by omega) (by omega) (.inr (by simp only[behE,c];rw[lenU a (by omega)];omega))
 | @tab l h0 h1 h2=>
  have c:cls 14=5:=by decide +kernel
  have h3:=List.length_pos_iff.2 h0
  refine aas (c:=5) (by decide +kernel) c ⟨⟨h3,by dsimp only;omega⟩,λe he=>by have:=h2 e he;omega⟩ (λ_=>rfl) (λ_=>rfl) (λ_=>rfl) (λq=>by cases q) (by omega) (by omega) (.inr ?_)
  have:=aby (l:=l) (g:=encU) (c:=1) (λx hx=>by rw[lenU (h2 x hx).1 (by have:=h2 x hx;omega)];omega)
  simp only[behE,c,labE,List.length_append]
  rw[lenU (by omega) (by omega)];omega
theorem ae0:Good END:=aas (c:=13) (by decide +kernel) (by decide +kernel) trivial (λ_=>rfl) (λ_=>rfl) (λ_=>rfl) (λ_=>rfl) (by omega) (by omega) (.inr (by decide +kernel))
theorem aj3:Good ELSE:=aas (c:=13) (by decide +kernel) (by decide +kernel) trivial (λ_=>rfl) (λ_=>rfl) (λ_=>rfl) (λ_=>rfl) (by omega) (by omega) (.inr (by decide +kernel))
theorem afC{o a:Int}(ho:o=2∨o=3∨o=4)(h0:-4<=a)(h1:a<9):Good ⟨o,a,0,0,[]⟩:=by
 have hk:kn o=true:=by rcases ho with rfl | rfl | rfl <;> decide +kernel
 have c:cls o=0:=by rcases ho with rfl | rfl | rfl <;> decide +kernel
 exact aas (c:=0) hk c ⟨h0,by dsimp only;omega⟩ (λq=>by cases q) (λ_=>rfl) (λ_=>rfl) (λ_=>rfl) (by omega) (by omega) (.inl ⟨by omega,by simp only[behE,c];exact agP (akR (by omega) (by omega))⟩)
theorem alk{n:Nat}{c:List ag}(h:Seq n c):∀ i∈c,Good i:=by
 induction h with
 | nil=>intro i hi;cases hi
 | one h=>intro i hi;rw[List.mem_singleton.1 hi];exact akj h
 | app _ _ ha hb=>intro i hi;exact(List.mem_append.1 hi).elim (ha i) (hb i)
 | blk ho h0 h1 _ hb=>
  intro i hi
  rcases List.mem_cons.1 hi with rfl | hi
  ·exact afC (by omega) h0 h1
  ·rcases List.mem_append.1 hi with h | h
   ·exact hb i h
   ·rw[List.mem_singleton.1 h];exact ae0
 | ite h0 h1 _ _ hb hd=>
  intro i hi
  rcases List.mem_cons.1 hi with rfl | hi
  ·exact afC (by omega) h0 h1
  ·rcases List.mem_append.1 hi with h | h
   ·exact hb i h
   ·rcases List.mem_cons.1 h with rfl | h
    ·exact aj3
    ·rcases List.mem_append.1 h with h | h
     ·exact hd i h
     ·rw[List.mem_singleton.1 h];exact ae0
theorem acw{c:List ag}(h:abU c):∀ i∈c,Good i:=by
 obtain⟨_,b,rfl,hs⟩:=h
 intro i hi
 rcases List.mem_append.1 hi with h | h
 ·exact alk hs i h
 ·rw[List.mem_singleton.1 h];exact ae0
theorem anV{c:List ag}(h:abU c):Wp (λk=>aN.f k c) (λr=>r.1=0):=by
 obtain⟨hl,b,rfl,hs⟩:=h
 obtain⟨D,d1,d2,d3⟩:=hs.blocks
 exact(Mt.of_wp d1 d2 d3 (by omega) (by simp at hl;omega)).mono λr hr=>by rw[hr]
theorem aor{α:Type}{F:Nat->Option α}{P Q:α->Prop}(h:Wp F P)(k:Wp F Q):∃ a,P a/\Q a:=by
 obtain⟨a,ha,K,hK⟩:=h
 obtain⟨b,hb,J,hJ⟩:=k
 have h1:=hK (max K J) (by omega)
 have h2:=hJ (max K J) (by omega)
 rw[h1]at h2
 cases h2
 exact⟨a,ha,hb⟩
theorem amX{f:ai}(h:abU f.Code):er f=0:=by
 obtain⟨a,h1,h2⟩:=aor (an9 (f:=f) (by have:=h.1;omega)).1 (anV h)
 omega
theorem aec:∀ {l:List Int},(∀ x∈l,x=0)->acb l=0
 | [],_=>rfl
 | x::l,h=>by
  have:=h x (List.mem_cons_self ..)
  subst this
  simp only[acb]
  rw[if_neg (by omega)]
  exact aec λy hy=>h y (List.mem_cons_of_mem _ hy)
def nmB(s:ByteArray):Bool:=decide (s.size<=64)&&(Tx.cnt (strL s)).isSome
theorem aeg{s:ByteArray}(h:nmB s=true):age s:=by
 simp only[nmB,Bool.and_eq_true,decide_eq_true_eq]at h;exact h
def apart(l:List ByteArray):Bool:=l.all nmB&&(List.range l.length).all λj=>(List.range j).all λi=>match l[i]?,l[j]? with
 | some x,some y=>!ack x y
 |_,_=>true
theorem anC{l:List ae}(h:apart (l.map (·.Name))=true)(hi:∀ x∈l,(0<=x.Index/\x.Index<=2147483647)/\(x.Kind=0∨x.Kind=2∨x.Kind=3)):adE l:=λj e hj=>by
 simp only[apart,Bool.and_eq_true,List.all_eq_true]at h
 have hm:=List.mem_of_getElem? hj
 refine⟨aeg (h.1 _ (List.mem_map_of_mem hm)),(hi e hm).1,(hi e hm).2,λi x hij hx hn=>?_⟩
 have hjl:=(List.getElem?_eq_some_iff.1 hj).1
 have:=h.2 j (by rw[List.mem_range,List.length_map];exact hjl) i (List.mem_range.2 hij)
 rw[List.getElem?_map,List.getElem?_map,hx,hj]at this
 simp only[Option.map_some,Bool.not_eq_true']at this
 have e:ack x.Name e.Name=true:=(strEq_iff _ _).2 hn
 rw[e]at this
 cases this
def nms(b:Bool)(n:Nat):List ByteArray:=(bif b then[(⟨#[109,101,109,111,114,121]⟩:ByteArray)]else[])++(List.range n).map (λi=>(fexp i).Name)++[(⟨#[103,108,111,98,97,108]⟩:ByteArray)]
theorem am6:(List.range 5).all (λn=>apart (nms true n)&&apart (nms false n))=true:=by kernel_rfl
theorem aob(b:Bool){n:Nat}(h:n<=4):apart (nms b n)=true:=by
 have:=List.all_eq_true.1 am6 n (List.mem_range.2 (by omega))
 simp only[Bool.and_eq_true]at this
 cases b
 ·exact this.2
 ·exact this.1
section
variable{T:List ab}{I:List aj}{G:List ah}{D:List aB}{F:List ai}{M:List au}{E:List ae}(h:ModOk T I G D F M E)
include h
theorem aeH:E.length<=6/\∀ x∈E,(0<=x.Index/\x.Index<=2147483647)/\(x.Kind=0∨x.Kind=2∨x.Kind=3):=by
 obtain⟨g,g0,g1,e⟩:=h.exports
 have f2:=h.funcs.2.1
 have m2:=h.mems.1
 constructor
 ·rw[e]
  simp only[List.length_append,List.length_map,List.length_range,List.length_cons,List.length_nil]
  split <;> simp <;> omega
 ·intro x hx
  rw[e]at hx
  simp only[List.mem_append,List.mem_map,List.mem_range,List.mem_singleton]at hx
  rcases hx with(hx | ⟨i,hi,rfl⟩) | rfl
  ·split at hx
   ·simp at hx
   ·rename_i hM
    have:=List.length_pos_iff.2 hM
    rw[List.mem_singleton.1 hx]
    exact⟨⟨by dsimp only;omega,by dsimp only;omega⟩,.inr (.inl rfl)⟩
  ·simp only[fexp]
   exact⟨⟨by omega,by omega⟩,.inl trivial⟩
  ·exact⟨⟨g0,by dsimp only;omega⟩,.inr (.inr rfl)⟩
theorem amV:adE E:=by
 refine anC ?_ (aeH h).2
 obtain⟨g,g0,g1,e⟩:=h.exports
 have:E.map (·.Name)=nms (decide (M≠[])) F.length:=by
  rw[e]
  by_cases hM:M=[]
  ·simp[hM,nms]
  ·simp[hM,nms]
 rw[this]
 exact aob _ h.funcs.2.1
theorem afP:D.length<=2/\∀ d∈D,DatP d/\d.Bytes.length<=7:=by
 have m2:=h.mems.1
 rcases h.datas with⟨_,e⟩ | ⟨a,b,a0,a1,b0,b1,e⟩
 ·rw[e];exact⟨by simp,λd hd=>by cases hd⟩
 ·rw[e]
  refine⟨by simp,λd hd=>?_⟩
  simp only[List.mem_cons,List.not_mem_nil,or_false]at hd
  rcases hd with rfl | rfl
  ·exact⟨⟨λ_=>⟨⟨a0,by dsimp only;omega⟩,b0,by dsimp only;omega⟩,λq=>(by cases q),by simp⟩,by simp⟩
  ·exact⟨⟨λq=>(by cases q),λ_=>⟨rfl,rfl⟩,by simp⟩,by simp⟩
theorem right_ok{C:List aD}(hC:∀ c∈C,CusP c):ad5 ⟨T,I,F,M,G,E,D,C⟩:=by
 refine⟨⟨λt ht=>?_,λx hx=>?_,λf hf=>?_,λx hx=>?_,λg hg=>?_⟩,amV h,λd hd=>((afP h).2 d hd).1,hC⟩
 ·dsimp only at ht;rw[h.types]at ht
  simp only[List.mem_cons,List.not_mem_nil,or_false]at ht
  rcases ht with rfl | rfl | rfl | rfl | rfl | rfl | rfl | rfl | rfl <;> simp[TypeP,ae2]
 ·dsimp only at hx;rw[h.imports]at hx
  simp only[List.mem_cons,List.not_mem_nil,or_false]at hx
  rcases hx with rfl | rfl
  ·exact⟨aeg (by decide +kernel),aeg (by decide +kernel),by dsimp only;omega,by dsimp only;omega⟩
  ·exact⟨aeg (by decide +kernel),aeg (by decide +kernel),by dsimp only;omega,by dsimp only;omega⟩
 ·obtain⟨⟨a0,a1,a2,a3⟩,hc⟩:=h.funcs.2.2 f hf
  exact⟨⟨a0,by omega⟩,⟨by omega,λe he=>a3 e he⟩,by have:=hc.1;omega,λi hi=>(acw hc i hi).1.1⟩
 ·obtain⟨a0,a1,a2,a3⟩:=h.mems.2 x hx
  exact⟨by omega,by omega,by omega⟩
 ·dsimp only at hg;rw[h.globals]at hg
  simp only[List.mem_cons,List.not_mem_nil,or_false]at hg
  rcases hg with rfl | rfl | rfl | rfl
  ·exact⟨.inl rfl,λ_=>by dsimp only;omega⟩
  ·exact⟨.inr (.inl rfl),λq=>by cases q⟩
  ·exact⟨.inr (.inr rfl),λq=>by cases q⟩
  ·exact⟨.inl rfl,λ_=>by dsimp only;omega⟩
theorem ajP{C:List aD}:NumM ⟨T,I,F,M,G,E,D,C⟩:=by
 refine⟨λg hg=>?_,λf hf i hi=>(acw (h.funcs.2.2 f hf).2 i hi).1.2⟩
 dsimp only at hg;rw[h.globals]at hg
 simp only[List.mem_cons,List.not_mem_nil,or_false]at hg
 rcases hg with rfl | rfl | rfl | rfl <;> exact⟨by dsimp only;omega,by dsimp only;omega⟩
theorem amy{C:List aD}(hC:C.length<=16):Fit ⟨T,I,F,M,G,E,D,C⟩:=by
 have f2:=h.funcs.2.1
 have m2:=h.mems.1
 have e2:=(aeH h).1
 have d2:=(afP h).1
 have t2:T.length=9:=by rw[h.types];rfl
 have i2:I.length=2:=by rw[h.imports];rfl
 have g2:G.length=4:=by rw[h.globals];rfl
 have hR:=right_ok h (C:=[]) (λ_ h=>by cases h)
 refine⟨by dsimp only;omega,by dsimp only;omega,by dsimp only;omega,by dsimp only;omega,by dsimp only;omega,by dsimp only;omega,by dsimp only;omega,by dsimp only;omega,λt ht=>?_,λf hf=>?_⟩
 ·have:=hR.1.1 t ht
  exact⟨by have:=this.1.1;omega,by have:=this.2.1;omega⟩
 ·have:=hR.1.2.2.1 f hf
  refine⟨by have:=this.2.1.1;omega,by have:=this.2.2.1;omega,λi hi=>?_⟩
  have hi:=this.2.2.2 i hi
  rcases acs i.Op with⟨c,q⟩ | ⟨c,q⟩ | ⟨c,q⟩ | ⟨c,q⟩ | ⟨c,q⟩ | ⟨c,q⟩ | ⟨c,q⟩ | ⟨c,q⟩ | ⟨c,q⟩ | ⟨c,q⟩ | ⟨c,q⟩ | ⟨c,q⟩ | ⟨c,q⟩ | ⟨c,q⟩
  all_goals first
   | (have:=hi.2.2.2.2.2 (by rw[c];rfl);omega)
   | (have:=hi.2.1;rw[c]at this;have:=this.1.2;omega)
theorem aiP{C:List aD}(hC:C.length<=16):¬adW ⟨T,I,F,M,G,E,D,C⟩:=by
 have f2:=h.funcs.2.1
 have m2:=h.mems.1
 have e2:=(aeH h).1
 have d2:=(afP h).1
 have t2:T.length=9:=by rw[h.types];rfl
 have i2:I.length=2:=by rw[h.imports];rfl
 have g2:G.length=4:=by rw[h.globals];rfl
 unfold adW
 dsimp only
 rw[aai (by omega) (by omega)]
 omega
theorem an7{C:List aD}(hC:C.length<=16)(hc:∀ c∈C,CusP c):RP ⟨T,I,F,M,G,E,D,C⟩ 0:=.inr (.inl ⟨aiP h hC,right_ok h hc,rfl⟩)
theorem amF{C:List aD}(hC:C.length<=16)(hc:∀ c∈C,CusP c)(hb:(C.flatMap cusE).length<=1000):(modE ⟨T,I,F,M,G,E,D,C⟩).length<=1048576:=by
 have L:=aiY (amy h hC) (aiP h hC)
 obtain⟨⟨h1,h2,h3,h4,h5⟩,h6,h7,h8⟩:=right_ok h hc
 have hn:=ajP h (C:=C)
 have f2:=h.funcs.2.1
 have m2:=h.mems.1
 have e2:=(aeH h).1
 have d2:=(afP h).1
 have t2:T.length=9:=by rw[h.types];rfl
 have i2:I.length=2:=by rw[h.imports];rfl
 have g2:G.length=4:=by rw[h.globals];rfl
 have a1:=aaw (g:=typE) (l:=T) (by omega) λx hx=>afj (h1 x hx)
 have a2:=aaw (g:=impE) (l:=I) (by omega) λx hx=>aet (h2 x hx)
 have a3:=aaw (g:=fidE) (l:=F) (by omega) λx hx=>aeV (h3 x hx)
 have a5:=aaw (g:=memE) (l:=M) (by omega) λx hx=>aff (h4 x hx)
 have a6:=aaw (l:=G) (by omega) λx _=>aeu x
 have a7:=aaw (g:=expE) (l:=E) (by omega) λx hx=>afe (agZ h6 x hx)
 have a10:=aaw (g:=funE) (c:=223200) (l:=F) (by omega) λf hf=>by
  have q:=h.funcs.2.2 f hf
  have l1:=ahg (l:=f.Locals) (by have:=q.1.2.2.1;omega)
  have l2:=aby (l:=f.Code) (g:=insE) λi hi=>(acw q.2 i hi).2
  have l3:=q.2.1
  have l4:(locE f.Locals++codE f.Code).length<=223100:=by rw[List.length_append,codE];omega
  have:=ab8 (b:=locE f.Locals++codE f.Code) (by omega)
  unfold funE;omega
 have a11:=aaw (g:=datE) (c:=100) (l:=D) (by omega) λd hd=>by
  obtain⟨q,q7⟩:=(afP h).2 d hd
  have l1:=ab8 (b:=d.Bytes) (by omega)
  have l3:=acI 127 d.At
  unfold datE
  rw[List.length_append]
  split
  ·rename_i ha
   have l4:=aah (n:=d.Mem) (q.1 ha).1.1 (by have:=(q.1 ha).1.2;omega)
   rw[List.length_append]
   split <;> simp only[List.length_cons,List.length_nil] <;> omega
  ·simp only[List.length_cons,List.length_nil];omega
 have S:=aoa L (right_ok h hc) hn
 have x12:=S.x12
 have b1:=aaX (n:=1) (b:=eachE typE T) (by omega)
 have b2:=aaX (n:=2) (b:=eachE impE I) (by omega)
 have b3:=aaX (n:=3) (b:=eachE fidE F) (by omega)
 have b5:=aaX (n:=5) (b:=eachE memE M) (by omega)
 have b6:=aaX (n:=6) (b:=eachE gloE G) (by omega)
 have b7:=aaX (n:=7) (b:=eachE expE E) (by omega)
 have b10:=aaX (n:=10) (b:=eachE funE F) (by omega)
 have b11:=aaX (n:=11) (b:=eachE datE D) (by omega)
 simp only[modE,List.length_append,List.length_cons,List.length_nil]
 omega
theorem aiR{C:List aD}(hC:C.length<=16)(hc:∀ c∈C,CusP c)(hb:(C.flatMap cusE).length<=1000):Wp (λk=>aA.f k ⟨T,I,F,M,G,E,D,C⟩) (· = (0,modE ⟨T,I,F,M,G,E,D,C⟩)):=by
 refine(aiq (amy h hC) (ajP h) (an7 h hC hc)).mono λr hr=>?_
 rcases hr with⟨a,_⟩ | ⟨_,b⟩
 ·exact(a rfl).elim
 ·have:=amF h hC hc hb
  unfold Out at b
  rw[if_pos (aec λx hx=>by
   obtain⟨f,hf,rfl⟩:=List.mem_map.1 hx
   exact amX (h.funcs.2.2 f hf).2),if_neg (by omega)]at b
  exact b
end
end Wr
end Go.R4
namespace Go.R4
open Go.Proofs Go.Ev Mo
set_option maxRecDepth 100000
namespace Wr
open Lb
theorem acz(x y:List Int):strOf (x++y)=strOf x++strOf y:=by
 apply afU
 simp[strOf,u8s]
theorem strOf_len(l:List Int):(strOf l).size=l.length:=by
 simp only[strOf,u8s,ByteArray.size,List.size_toArray,List.length_map]
theorem ak2(i:ag):1<=(insE i).length:=by
 simp only[insE,preE,List.length_append]
 split <;> simp <;> omega
theorem agQ:∀ l:List ag,l.length<=(codE l).length
 | []=>by simp
 | x::l=>by
  have:=agQ l
  have:=ak2 x
  simp only[codE,List.flatMap_cons,List.length_append,List.length_cons]at *
  omega
theorem aoe{c:Int}{n:Nat}(hn:n<=1000000):0<=irem .i64 (iadd .i64 (iadd .i64 (irem .i64 c (iadd .i64 (n:Int) 1)) (n:Int)) 1) (iadd .i64 (n:Int) 1)/\irem .i64 (iadd .i64 (iadd .i64 (irem .i64 c (iadd .i64 (n:Int) 1)) (n:Int)) 1) (iadd .i64 (n:Int) 1)<=(n:Int):=by
 rw[aai (a:=(n:Int)) (by omega) (by omega)]
 have h1:-(n:Int)<=irem .i64 c ((n:Int)+1)/\irem .i64 c ((n:Int)+1)<=(n:Int):=by
  show -(n:Int)<=Int.tmod c ((n:Int)+1)/\Int.tmod c ((n:Int)+1)<=(n:Int)
  by_cases hc:0<=c
  ·have:=Int.tmod_nonneg ((n:Int)+1) hc
   have:=Int.tmod_lt_of_pos c (show 0<(n:Int)+1 by omega)
   omega
  ·have e:Int.tmod c ((n:Int)+1) = -Int.tmod (-c) ((n:Int)+1):=by rw[Int.neg_tmod];omega
   have:=Int.tmod_nonneg ((n:Int)+1) (show 0<=-c by omega)
   have:=Int.tmod_lt_of_pos (-c) (show 0<(n:Int)+1 by omega)
   omega
 rw[aai (a:=irem .i64 c ((n:Int)+1)) (by omega) (by omega),aai (by omega) (by omega)]
 show 0<=Int.tmod _ _/\Int.tmod _ _<=_
 have:=Int.tmod_nonneg ((n:Int)+1) (show 0<=irem .i64 c ((n:Int)+1)+(n:Int)+1 by omega)
 have:=Int.tmod_lt_of_pos (irem .i64 c ((n:Int)+1)+(n:Int)+1) (show 0<(n:Int)+1 by omega)
 omega
theorem alX{c:Int}{F:List ai}(hl:F.length<=1000)(hF:∀ f∈F,aeT f.Code):Wp (λk=>loopS (law8_WriteParts.b3 k c F) k (0:Int)) (aaT (λ_=>True) (λ_=>False)):=by
 refine .loop (λ(n:Nat) (v:Int)=>0<=v/\v+(n:Int)=F.length) (λn v hv=>?_) (n:=F.length) ⟨by omega,by omega⟩
 obtain⟨h1,h2⟩:=hv
 simp only[law8_WriteParts.b3]
 refine .ite (λhi=>.bind (.idx h1 hi) (λf hf=>?_)) (λhi=>.right (show aaT _ _ (.inl ())from trivial))
 have hc:=hF f (List.mem_of_getElem? hf)
 have h7:=hc.1
 obtain⟨q0,q1⟩:=aoe (c:=c) (n:=f.Code.length) (by omega)
 have en:iadd .i64 (f.Code.length:Int) 1≠0:=by rw[aai (by omega) (by omega)];omega
 generalize hy:irem .i64 (iadd .i64 (iadd .i64 (irem .i64 c (iadd .i64 (f.Code.length:Int) 1)) (f.Code.length:Int)) 1) (iadd .i64 (f.Code.length:Int) 1)=y at q0 q1
 refine .pos en (.pos en ?_)
 have ht:aeT (f.Code.take y.toNat):=⟨by rw[List.length_take];omega,λi hi=>hc.2 i (List.mem_of_mem_take hi)⟩
 have hd:aeT (f.Code.drop y.toNat):=⟨by rw[List.length_drop];omega,λi hi=>hc.2 i (List.mem_of_mem_drop hi)⟩
 have l1:=aeG ht
 have l2:=aeG hd
 have l3:=ht.1
 have l4:=hd.1
 refine .pos ⟨q0,q1⟩ (.pos ⟨q0,q1⟩ (.bind (acL hc) (λr hr=>.bind (acL ht) (λs hs=>.bind (acL hd) (λt ht'=>?_)))))
 subst hr hs ht'
 have e:ack (strOf (codE f.Code)) (strOf (codE (f.Code.take y.toNat))++strOf (codE (f.Code.drop y.toNat)))=true:=by
  rw[strEq_iff,<-acz]
  congr 1
  simp only[codE,<-List.flatMap_append,List.take_append_drop]
 refine .pos (by rw[strOf_len,strOf_len];omega) (.neg (by rw[e];simp) (.bind (acL hc) (λr hr=>?_)))
 subst hr
 have:=agQ f.Code
 exact .neg (by omega) (.left ⟨n-1,by omega,by rw[aai (by omega) (by omega)];omega,by rw[aai (by omega) (by omega)];omega⟩)
abbrev nCus(b:List Int):aD:=⟨(⟨#[110]⟩:ByteArray),b⟩
theorem ncus(b:List Int)(hb:b.length<=50):cusE (nCus b)=[0,((2+b.length:Nat):Int),1,110]++b:=by
 have e1:namE (⟨#[110]⟩:ByteArray)=[1,110]:=by decide +kernel
 rw[cusE,e1,secE,if_neg (by simp),lisE,acJ (by omega) (by simp;omega)]
 simp
 omega
theorem aon(j:Nat):dp.f (j+60)=some true:=by kernel_rfl
theorem ait:Wp (λk=>dp.f k) (· = true):=by
 refine .at_ 60 (λk hk=>?_) rfl
 obtain⟨k,rfl⟩:∃ j,k=j+60:=⟨k-60,by omega⟩
 exact aon k
theorem aln{T:List ab}{I:List aj}{G:List ah}{D:List aB}{F:List ai}{M:List au}{E:List ae}{C:List aD}:modE ⟨T,I,F,M,G,E,D,C⟩=modE ⟨T,I,F,M,G,E,D,[]⟩++C.flatMap cusE:=by
 have e:s12 ⟨T,I,F,M,G,E,D,C⟩=s12 ⟨T,I,F,M,G,E,D,[]⟩:=rfl
 simp only[modE,e,List.flatMap_nil,List.append_nil]
end Wr
open Wr in
theorem WriteParts{tape:List Int}{cut:Int}{b:List Int}(z0:tape.length*8<=bigN)(_:∀ y∈tape,inR .i64 y)(_:inR .i64 cut)(_:b.length*1<=bigN)(_:∀ y∈b,inR .u8 y):∃ k,law8_WriteParts.f k tape cut b=some true:=by
 have hbn:bigN=140737488351232:=rfl
 refine Wp.fuel (.succ ?_)
 simp only[law8_WriteParts.f]
 refine .bind (ajJ (by omega)) (λr hr=>?_)
 obtain⟨T,I,G,D,F,M,E⟩:=r
 dsimp only at hr ⊢
 have f2:=hr.funcs.2.1
 refine .alt (alX (by omega) λf hf=>⟨by have:=(hr.funcs.2.2 f hf).2.1;omega,λi hi=>(acw (hr.funcs.2.2 f hf).2 i hi).1⟩) (λ_ _=>?_) (λ_ h=>h.elim)
 refine .bind (aiR hr (C:=[]) (by simp) (λ_ h=>by cases h) (by simp)) (λr h1=>?_)
 subst h1
 dsimp only
 refine .seg (Q:=λx=>x.length<=50) (.ite (λh=>.pos ⟨by omega,by omega⟩ (.left (by rw[List.length_take];omega))) (λh=>.left (by omega))) (λb hb=>?_)
 have hC:∀ c∈[nCus b],CusP c:=λc hc=>by
  rw[List.mem_singleton.1 hc]
  exact⟨aeg (show nmB (⟨#[110]⟩:ByteArray)=true by decide +kernel),by dsimp only;omega⟩
 have e2:[nCus b].flatMap cusE=[0,((2+b.length:Nat):Int),1,110]++b:=by simp only[List.flatMap_cons,List.flatMap_nil,List.append_nil,ncus b hb]
 refine .bind (aiR hr (C:=[nCus b]) (by simp) hC (by rw[e2];simp;omega)) (λr h1=>?_)
 subst h1
 have hx:=amF hr (C:=[]) (by simp) (λ_ h=>by cases h) (by simp)
 rw[aln (C:=[nCus b]),e2]
 generalize modE ⟨T,I,F,M,G,E,D,[]⟩=x at hx
 dsimp only
 have el:(x++([0,((2+b.length:Nat):Int),1,110]++b)).length=x.length+4+b.length:=by simp;omega
 refine .pos rfl (.pos rfl (.pos (by rw[el,aai (a:=(x.length:Int)) (by omega) (by omega),aai (by omega) (by omega)];omega) ?_))
 refine .pos ⟨by omega,by omega,by rw[el];omega⟩ ?_
 rw[Int.toNat_natCast,Nat.sub_zero,List.drop_zero,List.take_left,List.drop_left]
 refine .pos ((strEq_iff _ _).2 rfl) (.pos ⟨by omega,by rw[el];omega,Nat.le_refl _⟩ ?_)
 have ei:icv .u8 (iadd .i64 2 (b.length:Int))=((2+b.length:Nat):Int):=by rw[aai (by omega) (by omega),ah5 (by omega) (by omega)];omega
 rw[ei,List.take_of_length_le (by rw[el];simp;omega)]
 have s1:(strOf [((2+b.length:Nat):Int)]).size=1:=by rw[strOf_len];rfl
 have s2:(strOf b).size=b.length:=strOf_len b
 have es:strOf ([0,((2+b.length:Nat):Int),1,110]++b)=(((⟨#[0]⟩:ByteArray)++strOf [((2+b.length:Nat):Int)])++(⟨#[1,110]⟩:ByteArray))++strOf b:=by
  have a0:(⟨#[0]⟩:ByteArray)=strOf [0]:=rfl
  have a1:(⟨#[1,110]⟩:ByteArray)=strOf [1,110]:=rfl
  rw[a0,a1,<-acz,<-acz,<-acz]
  rfl
 have z1:(⟨#[0]⟩:ByteArray).size=1:=rfl
 have z2:(⟨#[1,110]⟩:ByteArray).size=2:=rfl
 refine .pos (by rw[s1,z1];omega) (.pos (by rw[ByteArray.size_append,s1,z1,z2];omega) (.pos (by rw[ByteArray.size_append,ByteArray.size_append,s1,s2,z1,z2];omega) (.pos ((strEq_iff _ _).2 es) ?_)))
 exact .bind ait (λr hr=>.one hr)
end Go.R4
