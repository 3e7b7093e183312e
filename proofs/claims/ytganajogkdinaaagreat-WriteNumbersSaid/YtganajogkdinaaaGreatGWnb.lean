import Derived.Test.YtganajogkdinaaaGreatGWrh
import Derived.Test.YtganajogkdinaaaGreatGMatP
import Derived.Test.YtganajogkdinaaaGreatGPf
set_option linter.all false
namespace Go.R4
open Go.Proofs Go.Ev Mo
set_option maxRecDepth 100000
namespace Wr
open Lb
def Good(i:ag):Prop:=(ac3 i/\0<=i.N/\i.N<18446744073709551616)/\(insE i).length<=11
theorem apw{op:Int}(h:0<=op/\op<=64523):(preE op).length<=2/\(op<64512->(preE op).length=1):=by
 unfold preE
 refine⟨?_,λq=>by rw[if_neg (by omega)];rfl⟩
 split
 ·rw[adR (by omega) (by omega)];simp
 ·simp
theorem aav{o a b n:Int}{l:List Int}{c:Nat}(hk:kn o=true)(hc:cls o=c)(ok:okA ⟨o,a,b,n,l⟩ c)(ha:(shp c).a=false->a=0)(hb:(shp c).b=false->b=0)(hn:(shp c).n=false->n=0)(hl:(shp c).l=false->l.length=0)(h0:0<=n)(h1:n<18446744073709551616)
  (hlen:(o<64512/\(behE ⟨o,a,b,n,l⟩).length<=10)∨(behE ⟨o,a,b,n,l⟩).length<=9):Good ⟨o,a,b,n,l⟩:=by
 subst hc
 refine⟨⟨⟨hk,ok,ha,hb,hn,hl⟩,h0,h1⟩,?_⟩
 obtain⟨p1,p2⟩:=apw (ahQ hk)
 simp only[insE,List.length_append]
 rcases hlen with⟨q,r⟩ | r
 ·have:=p2 q;omega
 ·omega
theorem lenU{n:Int}(h0:0<=n)(h1:n<=127):(encU n).length=1:=by rw[adR h0 h1];rfl
theorem aox:opsL.all (λo=>kn o&&(cls o == 13))=true:=by decide +kernel
theorem ama:Mo.accL.all (λo=>kn o&&(cls o == 1)&&acc o)=true:=by decide +kernel
theorem akw{i:ag}(h:Fine i):Good i:=by
 cases h with
 | num h=>
  have:=List.all_eq_true.1 aox _ h
  simp only[Bool.and_eq_true,beq_iff_eq]at this
  exact aav this.1 this.2 trivial (λ_=>rfl) (λ_=>rfl) (λ_=>rfl) (λ_=>rfl) (by omega) (by omega) (.inr (by simp[behE,this.2]))
 | bare h=>
  rcases h with rfl | rfl | rfl | rfl <;> exact aav (c:=13) (by decide +kernel) (by decide +kernel) trivial (λ_=>rfl) (λ_=>rfl) (λ_=>rfl) (λ_=>rfl) (by omega) (by omega) (.inr (by decide +kernel))
 | i32 a b=>
  have c:cls 65=2:=by decide +kernel
  exact aav (c:=2) (by decide +kernel) c (by simp only[okA];omega) (λ_=>rfl) (λ_=>rfl) (λq=>by cases q) (λ_=>rfl) a (by omega) (.inl ⟨by omega,by simp only[behE,c];exact abD _ _⟩)
 | i64 a b=>
  have c:cls 66=3:=by decide +kernel
  exact aav (c:=3) (by decide +kernel) c trivial (λ_=>rfl) (λ_=>rfl) (λq=>by cases q) (λ_=>rfl) a (by omega) (.inl ⟨by omega,by simp only[behE,c];exact abD _ _⟩)
 | f64 a b=>
  have c:cls 68=3:=by decide +kernel
  exact aav (c:=3) (by decide +kernel) c trivial (λ_=>rfl) (λ_=>rfl) (λq=>by cases q) (λ_=>rfl) a (by omega) (.inl ⟨by omega,by simp only[behE,c];exact abD _ _⟩)
 | loc h a b=>
  rcases h with rfl | rfl | rfl
  ·have c:cls 32=7:=by decide +kernel
   exact aav (c:=7) (by decide +kernel) c (by simp only[okA];omega) (λq=>by cases q) (λ_=>rfl) (λ_=>rfl) (λ_=>rfl) (by omega) (by omega) (.inr (by simp only[behE,c];rw[lenU a (by omega)];omega))
  ·have c:cls 33=7:=by decide +kernel
   exact aav (c:=7) (by decide +kernel) c (by simp only[okA];omega) (λq=>by cases q) (λ_=>rfl) (λ_=>rfl) (λ_=>rfl) (by omega) (by omega) (.inr (by simp only[behE,c];rw[lenU a (by omega)];omega))
  ·have c:cls 34=7:=by decide +kernel
   exact aav (c:=7) (by decide +kernel) c (by simp only[okA];omega) (λq=>by cases q) (λ_=>rfl) (λ_=>rfl) (λ_=>rfl) (by omega) (by omega) (.inr (by simp only[behE,c];rw[lenU a (by omega)];omega))
 | glo h a b=>
  rcases h with rfl | rfl
  ·have c:cls 35=8:=by decide +kernel
   exact aav (c:=8) (by decide +kernel) c (by simp only[okA];omega) (λq=>by cases q) (λ_=>rfl) (λ_=>rfl) (λ_=>rfl) (by omega) (by omega) (.inr (by simp only[behE,c];rw[lenU a (by omega)];omega))
  ·have c:cls 36=8:=by decide +kernel
   exact aav (c:=8) (by decide +kernel) c (by simp only[okA];omega) (λq=>by cases q) (λ_=>rfl) (λ_=>rfl) (λ_=>rfl) (by omega) (by omega) (.inr (by simp only[behE,c];rw[lenU a (by omega)];omega))
 | acc h a b n0 n1=>
  have:=List.all_eq_true.1 ama _ h
  simp only[Bool.and_eq_true,beq_iff_eq]at this
  obtain⟨⟨k,c⟩,_⟩:=this
  refine aav (c:=1) k c (by simp only[okA];omega) (λq=>by cases q) (λ_=>rfl) (λq=>by cases q) (λ_=>rfl) n0 (by omega) (.inr ?_)
  simp only[behE,c,accE,List.length_append]
  rw[lenU n0 (by omega)]
  split
  ·simp
  ·rw[List.length_cons,lenU a (by omega)];omega
 | mem h a b=>
  rcases h with rfl | rfl
  ·have c:cls 63=9:=by decide +kernel
   exact aav (c:=9) (by decide +kernel) c (by simp only[okA];omega) (λq=>by cases q) (λ_=>rfl) (λ_=>rfl) (λ_=>rfl) (by omega) (by omega) (.inr (by simp only[behE,c];rw[lenU a (by omega)];omega))
  ·have c:cls 64=9:=by decide +kernel
   exact aav (c:=9) (by decide +kernel) c (by simp only[okA];omega) (λq=>by cases q) (λ_=>rfl) (λ_=>rfl) (λ_=>rfl) (by omega) (by omega) (.inr (by simp only[behE,c];rw[lenU a (by omega)];omega))
 | ini a b e f=>
  have c:cls 64520=10:=by decide +kernel
  exact aav (c:=10) (by decide +kernel) c (by simp only[okA];omega) (λq=>by cases q) (λq=>by cases q) (λ_=>rfl) (λ_=>rfl) (by omega) (by omega) (.inr (by simp only[behE,c,List.length_append];rw[lenU a (by omega),lenU e (by omega)];omega))
 | dro a b=>
  have c:cls 64521=11:=by decide +kernel
  exact aav (c:=11) (by decide +kernel) c (by simp only[okA];omega) (λq=>by cases q) (λ_=>rfl) (λ_=>rfl) (λ_=>rfl) (by omega) (by omega) (.inr (by simp only[behE,c];rw[lenU a (by omega)];omega))
 | cop a b e f=>
  have c:cls 64522=12:=by decide +kernel
  exact aav (c:=12) (by decide +kernel) c (by simp only[okA];omega) (λq=>by cases q) (λq=>by cases q) (λ_=>rfl) (λ_=>rfl) (by omega) (by omega) (.inr (by simp only[behE,c,List.length_append];rw[lenU a (by omega),lenU e (by omega)];omega))
 | fil a b=>
  have c:cls 64523=9:=by decide +kernel
  exact aav (c:=9) (by decide +kernel) c (by simp only[okA];omega) (λq=>by cases q) (λ_=>rfl) (λ_=>rfl) (λ_=>rfl) (by omega) (by omega) (.inr (by simp only[behE,c];rw[lenU a (by omega)];omega))
 | call h a b=>
  rcases h with rfl | rfl
  ·have c:cls 16=6:=by decide +kernel
   exact aav (c:=6) (by decide +kernel) c (by simp only[okA];omega) (λq=>by cases q) (λ_=>rfl) (λ_=>rfl) (λ_=>rfl) (by omega) (by omega) (.inr (by simp only[behE,c];rw[lenU a (by omega)];omega))
  ·have c:cls 18=6:=by decide +kernel
   exact aav (c:=6) (by decide +kernel) c (by simp only[okA];omega) (λq=>by cases q) (λ_=>rfl) (λ_=>rfl) (λ_=>rfl) (by omega) (by omega) (.inr (by simp only[behE,c];rw[lenU a (by omega)];omega))
 | br h a b=>
  rcases h with rfl | rfl
  ·have c:cls 12=4:=by decide +kernel
   exact aav (c:=4) (by decide +kernel) c (by simp only[okA];omega) (λq=>by cases q) (λ_=>rfl) (λ_=>rfl) (λ_=>rfl) (by omega) (by omega) (.inr (by simp only[behE,c];rw[lenU a (by omega)];omega))
  ·have c:cls 13=4:=by decide +kernel
   exact aav (c:=4) (by decide +kernel) c (by simp only[okA];omega) (λq=>by cases q) (λ_=>rfl) (λ_=>rfl) (λ_=>rfl) (by omega) (by omega) (.inr (by simp only[behE,c];rw[lenU a (by omega)];omega))
 | @tab l h0 h1 h2=>
  have c:cls 14=5:=by decide +kernel
  have h3:=List.length_pos_iff.2 h0
  refine aav (c:=5) (by decide +kernel) c ⟨⟨h3,by dsimp only;omega⟩,λe he=>by have:=h2 e he;omega⟩ (λ_=>rfl) (λ_=>rfl) (λ_=>rfl) (λq=>by cases q) (by omega) (by omega) (.inr ?_)
  have:=aaG (l:=l) (g:=encU) (c:=1) (λx hx=>by rw[lenU (h2 x hx).1 (by have:=h2 x hx;omega)];omega)
  simp only[behE,c,labE,List.length_append]
  rw[lenU (by omega) (by omega)];omega
theorem afg:Good END:=aav (c:=13) (by decide +kernel) (by decide +kernel) trivial (λ_=>rfl) (λ_=>rfl) (λ_=>rfl) (λ_=>rfl) (by omega) (by omega) (.inr (by decide +kernel))
theorem akf:Good ELSE:=aav (c:=13) (by decide +kernel) (by decide +kernel) trivial (λ_=>rfl) (λ_=>rfl) (λ_=>rfl) (λ_=>rfl) (by omega) (by omega) (.inr (by decide +kernel))
theorem afB{o a:Int}(ho:o=2∨o=3∨o=4)(h0:-4<=a)(h1:a<9):Good ⟨o,a,0,0,[]⟩:=by
 have hk:kn o=true:=by rcases ho with rfl | rfl | rfl <;> decide +kernel
 have c:cls o=0:=by rcases ho with rfl | rfl | rfl <;> decide +kernel
 exact aav (c:=0) hk c ⟨h0,by dsimp only;omega⟩ (λq=>by cases q) (λ_=>rfl) (λ_=>rfl) (λ_=>rfl) (by omega) (by omega) (.inl ⟨by omega,by simp only[behE,c];exact aeR (aih (by omega) (by omega))⟩)
theorem amy{n:Nat}{c:List ag}(h:Seq n c):∀ i∈c,Good i:=by
 induction h with
 | nil=>intro i hi;cases hi
 | one h=>intro i hi;rw[List.mem_singleton.1 hi];exact akw h
 | app _ _ ha hb=>intro i hi;exact(List.mem_append.1 hi).elim (ha i) (hb i)
 | blk ho h0 h1 _ hb=>
  intro i hi
  rcases List.mem_cons.1 hi with rfl | hi
  ·exact afB (by omega) h0 h1
  ·rcases List.mem_append.1 hi with h | h
   ·exact hb i h
   ·rw[List.mem_singleton.1 h];exact afg
 | ite h0 h1 _ _ hb hd=>
  intro i hi
  rcases List.mem_cons.1 hi with rfl | hi
  ·exact afB (by omega) h0 h1
  ·rcases List.mem_append.1 hi with h | h
   ·exact hb i h
   ·rcases List.mem_cons.1 h with rfl | h
    ·exact akf
    ·rcases List.mem_append.1 h with h | h
     ·exact hd i h
     ·rw[List.mem_singleton.1 h];exact afg
theorem afI{c:List ag}(h:acJ c):∀ i∈c,Good i:=by
 obtain⟨_,b,rfl,hs⟩:=h
 intro i hi
 rcases List.mem_append.1 hi with h | h
 ·exact amy hs i h
 ·rw[List.mem_singleton.1 h];exact afg
def nmB(s:ByteArray):Bool:=decide (s.size<=64)&&(Tx.cnt (strL s)).isSome
theorem af1{s:ByteArray}(h:nmB s=true):afp s:=by
 simp only[nmB,Bool.and_eq_true,decide_eq_true_eq]at h;exact h
def apart(l:List ByteArray):Bool:=l.all nmB&&(List.range l.length).all λj=>(List.range j).all λi=>match l[i]?,l[j]? with
 | some x,some y=>!abI x y
 |_,_=>true
theorem aov{l:List ae}(h:apart (l.map (·.Name))=true)(hi:∀ x∈l,(0<=x.Index/\x.Index<=2147483647)/\(x.Kind=0∨x.Kind=2∨x.Kind=3)):adD l:=λj e hj=>by
 simp only[apart,Bool.and_eq_true,List.all_eq_true]at h
 have hm:=List.mem_of_getElem? hj
 refine⟨af1 (h.1 _ (List.mem_map_of_mem hm)),(hi e hm).1,(hi e hm).2,λi x hij hx hn=>?_⟩
 have hjl:=(List.getElem?_eq_some_iff.1 hj).1
 have:=h.2 j (by rw[List.mem_range,List.length_map];exact hjl) i (List.mem_range.2 hij)
 rw[List.getElem?_map,List.getElem?_map,hx,hj]at this
 simp only[Option.map_some,Bool.not_eq_true']at this
 have e:abI x.Name e.Name=true:=(ab8 _ _).2 hn
 rw[e]at this
 cases this
def nms(b:Bool)(n:Nat):List ByteArray:=(bif b then[(⟨#[109,101,109,111,114,121]⟩:ByteArray)]else[])++(List.range n).map (λi=>(fexp i).Name)++[(⟨#[103,108,111,98,97,108]⟩:ByteArray)]
theorem an3:(List.range 5).all (λn=>apart (nms true n)&&apart (nms false n))=true:=by kernel_rfl
theorem apa(b:Bool){n:Nat}(h:n<=4):apart (nms b n)=true:=by
 have:=List.all_eq_true.1 an3 n (List.mem_range.2 (by omega))
 simp only[Bool.and_eq_true]at this
 cases b
 ·exact this.2
 ·exact this.1
section
variable{T:List af}{I:List ak}{G:List ai}{D:List aA}{F:List aj}{M:List au}{E:List ae}(h:ModOk T I G D F M E)
include h
theorem ajx:E.length<=6/\∀ x∈E,(0<=x.Index/\x.Index<=2147483647)/\(x.Kind=0∨x.Kind=2∨x.Kind=3):=by
 obtain⟨g,g0,g1,e⟩:=h.exports
 have f2:=h.funcs.2.1
 have m2:=h.mems.1
 constructor
 ·rw[e]
  simp only[List.length_append,List.length_map,List.length_range,List.length_cons,List.length_nil]
  split <;> simp <;> omega
 ·intro x hx
  rw[e]at hx
  simp only[List.mem_append,List.mem_map,List.mem_range,List.mem_singleton]at hx
  rcases hx with(hx | ⟨i,hi,rfl⟩) | rfl
  ·split at hx
   ·simp at hx
   ·rename_i hM
    have:=List.length_pos_iff.2 hM
    rw[List.mem_singleton.1 hx]
    exact⟨⟨by dsimp only;omega,by dsimp only;omega⟩,.inr (.inl rfl)⟩
  ·simp only[fexp]
   exact⟨⟨by omega,by omega⟩,.inl trivial⟩
  ·exact⟨⟨g0,by dsimp only;omega⟩,.inr (.inr rfl)⟩
theorem anx:adD E:=by
 refine aov ?_ (ajx h).2
 obtain⟨g,g0,g1,e⟩:=h.exports
 have:E.map (·.Name)=nms (decide (M≠[])) F.length:=by
  rw[e]
  by_cases hM:M=[]
  ·simp[hM,nms]
  ·simp[hM,nms]
 rw[this]
 exact apa _ h.funcs.2.1
theorem amG:D.length<=2/\∀ d∈D,DatP d/\d.Bytes.length<=7:=by
 have m2:=h.mems.1
 rcases h.datas with⟨_,e⟩ | ⟨a,b,a0,a1,b0,b1,e⟩
 ·rw[e];exact⟨by simp,λd hd=>by cases hd⟩
 ·rw[e]
  refine⟨by simp,λd hd=>?_⟩
  simp only[List.mem_cons,List.not_mem_nil,or_false]at hd
  rcases hd with rfl | rfl
  ·exact⟨⟨λ_=>⟨⟨a0,by dsimp only;omega⟩,b0,by dsimp only;omega⟩,λq=>(by cases q),by simp⟩,by simp⟩
  ·exact⟨⟨λq=>(by cases q),λ_=>⟨rfl,rfl⟩,by simp⟩,by simp⟩
theorem right_ok{C:List aI}(hC:∀ c∈C,CusP c):adz ⟨T,I,F,M,G,E,D,C⟩:=by
 refine⟨⟨λt ht=>?_,λx hx=>?_,λf hf=>?_,λx hx=>?_,λg hg=>?_⟩,anx h,λd hd=>((amG h).2 d hd).1,hC⟩
 ·dsimp only at ht;rw[h.types]at ht
  simp only[List.mem_cons,List.not_mem_nil,or_false]at ht
  rcases ht with rfl | rfl | rfl | rfl | rfl | rfl | rfl | rfl | rfl <;> simp[TypeP,adl]
 ·dsimp only at hx;rw[h.imports]at hx
  simp only[List.mem_cons,List.not_mem_nil,or_false]at hx
  rcases hx with rfl | rfl
  ·exact⟨af1 (by decide +kernel),af1 (by decide +kernel),by dsimp only;omega,by dsimp only;omega⟩
  ·exact⟨af1 (by decide +kernel),af1 (by decide +kernel),by dsimp only;omega,by dsimp only;omega⟩
 ·obtain⟨⟨a0,a1,a2,a3⟩,hc⟩:=h.funcs.2.2 f hf
  exact⟨⟨a0,by omega⟩,⟨by omega,λe he=>a3 e he⟩,by have:=hc.1;omega,λi hi=>(afI hc i hi).1.1⟩
 ·obtain⟨a0,a1,a2,a3⟩:=h.mems.2 x hx
  exact⟨by omega,by omega,by omega⟩
 ·dsimp only at hg;rw[h.globals]at hg
  simp only[List.mem_cons,List.not_mem_nil,or_false]at hg
  rcases hg with rfl | rfl | rfl | rfl
  ·exact⟨.inl rfl,λ_=>by dsimp only;omega⟩
  ·exact⟨.inr (.inl rfl),λq=>by cases q⟩
  ·exact⟨.inr (.inr rfl),λq=>by cases q⟩
  ·exact⟨.inl rfl,λ_=>by dsimp only;omega⟩
theorem ana{C:List aI}:NumM ⟨T,I,F,M,G,E,D,C⟩:=by
 refine⟨λg hg=>?_,λf hf i hi=>(afI (h.funcs.2.2 f hf).2 i hi).1.2⟩
 dsimp only at hg;rw[h.globals]at hg
 simp only[List.mem_cons,List.not_mem_nil,or_false]at hg
 rcases hg with rfl | rfl | rfl | rfl <;> exact⟨by dsimp only;omega,by dsimp only;omega⟩
theorem ao9{C:List aI}(hC:C.length<=16):Fit ⟨T,I,F,M,G,E,D,C⟩:=by
 have f2:=h.funcs.2.1
 have m2:=h.mems.1
 have e2:=(ajx h).1
 have d2:=(amG h).1
 have t2:T.length=9:=by rw[h.types];rfl
 have i2:I.length=2:=by rw[h.imports];rfl
 have g2:G.length=4:=by rw[h.globals];rfl
 have hR:=right_ok h (C:=[]) (λ_ h=>by cases h)
 refine⟨by dsimp only;omega,by dsimp only;omega,by dsimp only;omega,by dsimp only;omega,by dsimp only;omega,by dsimp only;omega,by dsimp only;omega,by dsimp only;omega,λt ht=>?_,λf hf=>?_⟩
 ·have:=hR.1.1 t ht
  exact⟨by have:=this.1.1;omega,by have:=this.2.1;omega⟩
 ·have:=hR.1.2.2.1 f hf
  refine⟨by have:=this.2.1.1;omega,by have:=this.2.2.1;omega,λi hi=>?_⟩
  have hi:=this.2.2.2 i hi
  rcases abh i.Op with⟨c,q⟩ | ⟨c,q⟩ | ⟨c,q⟩ | ⟨c,q⟩ | ⟨c,q⟩ | ⟨c,q⟩ | ⟨c,q⟩ | ⟨c,q⟩ | ⟨c,q⟩ | ⟨c,q⟩ | ⟨c,q⟩ | ⟨c,q⟩ | ⟨c,q⟩ | ⟨c,q⟩
  all_goals first
   | (have:=hi.2.2.2.2.2 (by rw[c];rfl);omega)
   | (have:=hi.2.1;rw[c]at this;have:=this.1.2;omega)
end
end Wr
end Go.R4
namespace Go.R4
open Go.Proofs Go.Ev Mo
set_option maxRecDepth 100000
namespace Wr
open Lb
theorem aoW(j:Nat):dV.f (j+60)=some true:=by kernel_rfl
theorem ajQ:Wp (λk=>dV.f k) (· = true):=by
 refine .at_ 60 (λk hk=>?_) rfl
 obtain⟨k,rfl⟩:∃ j,k=j+60:=⟨k-60,by omega⟩
 exact aoW k
theorem agb{l:List ag}(h:aeq l):Wp (λk=>aV.f k l) (· = codE l):=by
 have hl:=h.1
 refine .succ ?_
 simp only[aV.f]
 refine .bind (aaI (l:=l) (by omega) (h0:=[]) (g:=insE) (λn e hn he hm=>?_) (λh=>?_)) (λr hr=>.one (by rw[hr,List.nil_append,codE]))
 ·have:=acB h n
  have hi:=h.2 e hm
  have l1:=adP hi.1 hi.2.1 hi.2.2
  simp only[aV.b3]
  refine .pos (by omega) (.pos ⟨by omega,by omega⟩ (aj9 he (.bind (ahK hi.1 hi.2.1 hi.2.2) (λr hr=>?_))))
  subst hr
  exact .pos (aae (by simp only[List.nil_append];omega) (by simp only[List.nil_append];omega)) (.one rfl)
 ·simp only[aV.b3]
  exact .neg (by omega) (.one rfl)
theorem se(l:List Int):abI (abr l) (abr l)=true:=(ab8 _ _).2 rfl
theorem am9{α:Type}{i:ag}{l:List ag}(hl:i.L.length=0)(hn:0<=i.N/\i.N<18446744073709551616)(hm:∀ x∈l,x=i)(hs:l.length<=10){R:Option (Unit⊕α)}{P:α->Prop} :
  Wp (λk=>(bV.f k i).bind λr=>(if r=true then((aJ.f k l).bind λa=>((aV.f k l).bind λb=>(if(!(abI (abr a) (abr b)))=true then R else(some (.inl ())))))else(some (.inl ())))) (aaJ (λ_=>True) P):=by
 refine .bind (aeu i (by omega)) (λr hr=>.tif hr (λh=>?_) (λ_=>.left trivial))
 have hc:aeq l:=⟨by omega,λx hx=>by rw[hm x hx];exact⟨h,hn⟩⟩
 refine .bind (aem hc) (λa ha=>.bind (agb hc) (λb hb=>?_))
 subst ha hb
 exact .neg (by rw[se];simp) (.left trivial)
theorem afG{N:Nat}(hN:N<=1000000){B:Nat->Int->Option (Int⊕(Unit⊕Unit))}(h:∀ (x:Int),0<=x->x<N->Wp (λk=>B k x) (· = .inl (iadd .i64 x 1)))(he:Wp (λk=>B k (N:Int)) (· = .inr (.inl ()))) :
  Wp (λk=>loopS (B k) k (0:Int)) (aaJ (λ_=>True) (λ_=>False)):=by
 refine .loop (λ(n:Nat) (x:Int)=>0<=x/\x+(n:Int)=N) (λn x hv=>?_) (n:=N) ⟨by omega,by omega⟩
 obtain⟨h1,h2⟩:=hv
 by_cases hx:x<N
 ·refine(h x h1 hx).mono λr hr=>?_
  subst hr
  rw[aai (by omega) (by omega)]
  exact⟨n-1,by omega,by omega,by omega⟩
 ·have:x=N:=by omega
  subst this
  exact he.mono λr hr=>by subst hr;trivial
def nsL:List Int:=[0,1,63,64,127,128,2147483647,2147483648,4294967295,9223372036854775807,9223372036854775808,18446744073709551615]
theorem aps{n:Int}(h:n∈nsL):0<=n/\n<18446744073709551616:=by
 simp only[nsL,List.mem_cons,List.not_mem_nil,or_false]at h
 omega
theorem w11{op a n:Int}(hn:0<=n/\n<18446744073709551616):Wp (λk=>loopS (law8_WriteNumbers.b11 k op a n) k (0:Int)) (aaJ (λ_=>True) (λ_=>False)):=by
 refine afG (N:=2) (by omega) (λx h0 h1=>?_) ?_
 ·simp only[law8_WriteNumbers.b11]
  refine .pos (by omega) (.seg (Q:=λ_=>True) (.pos ⟨h0,by omega⟩ (.bind (.get (by simp;omega)) (λo _=>.seg (Q:=λ_=>True) ?_ (λ_ _=>?_)))) (λ_ _=>.one rfl))
  ·exact am9 (i:=⟨o,a,iand .i64 a 3,n,[]⟩) rfl hn (by simp) (by simp)
  ·exact am9 (i:=⟨o,a,0,0,[]⟩) rfl ⟨by dsimp only;omega,by dsimp only;omega⟩ (by simp) (by simp)
 ·simp only[law8_WriteNumbers.b11]
  exact .neg (by omega) (.one rfl)
theorem w8{op a:Int}:Wp (λk=>loopS (law8_WriteNumbers.b8 k op a) k (0:Int)) (aaJ (λ_=>True) (λ_=>False)):=by
 refine afG (N:=12) (by omega) (λx h0 h1=>?_) ?_
 ·simp only[law8_WriteNumbers.b8]
  refine .pos (by omega) (.pos ⟨h0,by omega⟩ (.bind (.get (by simp;omega)) (λn hn=>.alt (w11 (aps (List.mem_of_getElem? hn))) (λ_ _=>.one rfl) (λ_ h=>h.elim))))
 ·simp only[law8_WriteNumbers.b8]
  exact .neg (by omega) (.one rfl)
theorem w5{op:Int}:Wp (λk=>loopS (law8_WriteNumbers.b5 k op) k (0:Int)) (aaJ (λ_=>True) (λ_=>False)):=by
 refine afG (N:=12) (by omega) (λx h0 h1=>?_) ?_
 ·simp only[law8_WriteNumbers.b5]
  refine .pos (by omega) (.pos ⟨h0,by omega⟩ (.bind (.get (by simp;omega)) (λn hn=>.alt w8 (λ_ _=>.one rfl) (λ_ h=>h.elim))))
 ·simp only[law8_WriteNumbers.b5]
  exact .neg (by omega) (.one rfl)
theorem w2:Wp (λk=>loopS (law8_WriteNumbers.b2 k) k (0:Int)) (aaJ (λ_=>True) (λ_=>False)):=by
 refine afG (N:=272) (by omega) (λx h0 h1=>?_) ?_
 ·simp only[law8_WriteNumbers.b2]
  exact .pos (by omega) (.alt w5 (λ_ _=>.one rfl) (λ_ h=>h.elim))
 ·simp only[law8_WriteNumbers.b2]
  exact .neg (by omega) (.one rfl)
theorem w30{q:Int}:Wp (λk=>loopS (law8_WriteNumbers.b30 k q) k ((0:Int),([]:List Int))) (λl=>l.length<=1000):=by
 refine .loop (λ(n:Nat) (v:Int×List Int)=>0<=v.1/\v.1+(n:Int)=120/\(v.2.length:Int)=v.1) (λn v hv=>?_) (n:=120) ⟨by simp,by simp,by simp⟩
 obtain⟨x,l⟩:=v
 obtain⟨h1,h2,h3⟩:=hv
 dsimp only at h1 h2 h3
 simp only[law8_WriteNumbers.b30]
 refine .ite (λh=>.pos (aae (by omega) (by omega)) (.left ⟨n-1,by omega,?_⟩)) (λh=>.right (by omega))
 rw[aai (by omega) (by omega)]
 exact⟨by dsimp only;omega,by dsimp only;omega,by dsimp only;rw[List.length_append];simp;omega⟩
theorem w26:Wp (λk=>loopS (law8_WriteNumbers.b26 k) k (0:Int)) (aaJ (λ_=>True) (λ_=>False)):=by
 have hb:bigN=140737488351232:=rfl
 refine afG (N:=30) (by omega) (λx h0 h1=>?_) ?_
 ·simp only[law8_WriteNumbers.b26]
  refine .pos (by omega) (.bind w30 (λl hl=>.bind (akS (by omega)) (λr hr=>?_)))
  obtain⟨T,I,G,D,F,M,E⟩:=r
  dsimp only at hr ⊢
  exact .bind (ani (ao9 hr (by simp)) (ana hr)) (λr hr=>.neg (by simp[hr]) (.one rfl))
 ·simp only[law8_WriteNumbers.b26]
  exact .neg (by omega) (.one rfl)
end Wr
open Wr in
theorem WriteNumbers:∃ k,law8_WriteNumbers.f k=some true:=by
 refine Wp.fuel (.succ ?_)
 simp only[law8_WriteNumbers.f]
 refine .alt w2 (λ_ _=>?_) (λ_ h=>h.elim)
 have c:cls 14=5:=by decide +kernel
 have hc:aeq [⟨14,0,0,0,[3,0,64,1]⟩]:=⟨by simp,λi hi=>by
  rw[List.mem_singleton.1 hi]
  refine⟨⟨by decide +kernel,?_,λ_=>rfl,λ_=>rfl,λ_=>rfl,λq=>?_⟩,by dsimp only;omega,by dsimp only;omega⟩
  ·show okA _ (cls 14)
   rw[c]
   exact⟨⟨by simp,by simp⟩,λe he=>by simp at he;omega⟩
  ·rw[show cls (ag.mk 14 0 0 0 [3,0,64,1]).Op=5 from c]at q;cases q⟩
 refine .bind (aem hc) (λa ha=>.bind (agb hc) (λb hb=>?_))
 subst ha hb
 refine .neg (by rw[se];simp) (.alt w26 (λ_ _=>.bind ajQ (λr hr=>.one hr)) (λ_ h=>h.elim))
end Go.R4
