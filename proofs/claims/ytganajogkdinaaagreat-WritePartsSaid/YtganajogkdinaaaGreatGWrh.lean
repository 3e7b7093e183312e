import Derived.Test.YtganajogkdinaaaGreatGWrd
import Derived.Test.YtganajogkdinaaaGreatGSameP
set_option linter.all false
namespace Go.R4
open Go.Proofs Go.Ev
set_option maxRecDepth 100000
namespace Wr
open Lb
def eachE{α:Type}(g:α->List Int)(l:List α):List Int:=if l.length=0 then[]else encU l.length++l.flatMap g
theorem aaw{α:Type}{g:α->List Int}{c:Nat}{l:List α}(hl:l.length<=1000)(h:∀ x∈l,(g x).length<=c):(eachE g l).length<=c*l.length+11:=by
 have:=aah (n:=(l.length:Int)) (by omega) (by omega)
 have:=aby h
 unfold eachE
 split
 ·simp
 ·simp only[List.length_append];omega
theorem abV{α:Type}{g:α->List Int}(c:Nat){l:List α}(hl:l.length<=1000)(hc:∀ x∈l,(g x).length<=c)(hC:c<=10000000000){F:Nat->α->Option (List Int)}(hF:∀ x∈l,Wp (λk=>F k x) (· = g x)){B:Nat->(Int×List Int)->Option ((Int×List Int)⊕(List Int))}
  (eB:∀ k x h,B k (x,h)=if x<(l.length:Int)then((at? l x).bind λe=>((F k e).bind λr=>if aaf (h.length+r.length) 1 then some (.inl (iadd .i64 x 1,h++r))else none))else some (.inr h)) :
  Wp (λk=>if(l.length:Int)=0 then(some ([]:List Int))else((an.f k (l.length:Int)).bind λr22=>((loopS (B k) k ((0:Int),r22)).bind λh34=>(some h34)))) (· = eachE g l):=by
 have l1:=aah (n:=(l.length:Int)) (by omega) (by omega)
 have cl:c*l.length<=10000000000*1000:=Nat.mul_le_mul hC hl
 refine .ite (λh=>.one (by rw[eachE,if_pos (by omega)])) (λh=>.bind (abq (by omega) (by omega)) (λr hr=>?_))
 subst hr
 refine .bind (abp (l:=l) (by omega) (g:=g) (λn e hn he hm=>?_) (λh=>?_)) (λr hr=>.one (by rw[hr,eachE,if_neg (by omega)]))
 ·have:=aaQ hc n
  have l2:=hc e hm
  simp only[eB]
  refine .pos (by omega) (adw he (.bind (hF e hm) (λr hr=>?_)))
  subst hr
  exact .pos (aab (by simp only[List.length_append];omega) (by simp only[List.length_append];omega)) (.one rfl)
 ·simp only[eB]
  exact .neg (by omega) (.one rfl)
def secE(n:Int)(b:List Int):List Int:=if b.length=0 then[]else n::lisE b
theorem aaX{n:Int}{b:List Int}(h:b.length<=50000000000000):(secE n b).length<=b.length+12:=by
 have:=ab8 (b:=b) (by omega)
 unfold secE
 split
 ·simp
 ·simp only[List.length_cons];omega
theorem abo{n:Int}{b:List Int}(h:b.length<=50000000000000):Wp (λk=>ar.f k n b) (· = secE n b):=by
 have l1:=aah (n:=(b.length:Int)) (by omega) (by omega)
 refine .succ ?_
 simp only[ar.f]
 refine .ite (λhb=>.one (by rw[secE,if_pos (by omega)])) (λhb=>.bind (acD (by omega) (by omega) (by omega)) (λr hr=>?_))
 subst hr
 exact .pos (aab (by simp only[List.length_append];omega) (by simp only[List.length_append];omega)) (.one (by rw[secE,if_neg (by omega)];rfl))
def typE(t:ab):List Int:=96::(kndE t.Params++kndE t.Results)
theorem afj{t:ab}(h:TypeP t):(typE t).length<=39:=by
 have:=ads (l:=t.Params) (by have:=h.1.1;omega)
 have:=ads (l:=t.Results) (by have:=h.2.1;omega)
 have:=h.1.1
 have:=h.2.1
 simp only[typE,List.length_cons,List.length_append];omega
theorem anx{t:ab}(h:TypeP t):Wp (λk=>cn.f k t) (· = typE t):=by
 have l1:=ads (l:=t.Params) (by have:=h.1.1;omega)
 have l2:=ads (l:=t.Results) (by have:=h.2.1;omega)
 have:=h.1.1
 have:=h.2.1
 refine .succ ?_
 simp only[cn.f]
 refine .bind (afO (by omega)) (λr hr=>.bind (afO (by omega)) (λs hs=>?_))
 subst hr hs
 exact .bind (aeS (by simp only[List.length_cons,List.length_nil];omega)) (λr hr=>.one (by rw[hr,List.append_assoc];rfl))
def impE(x:aj):List Int:=namE x.Module++(namE x.Name++(0::encU x.fType))
theorem aet{x:aj}(h:ImpP x):(impE x).length<=162:=by
 have:=abO h.1.1
 have:=abO h.2.1.1
 have:=aah (n:=x.fType) h.2.2.1 (by have:=h.2.2.2;omega)
 simp only[impE,List.length_cons,List.length_append];omega
theorem anJ{x:aj}(h:ImpP x):Wp (λk=>cp.f k x) (· = impE x):=by
 have l1:=abO h.1.1
 have l2:=abO h.2.1.1
 obtain⟨h1,h2,h3,h4⟩:=h
 have l3:=aah (n:=x.fType) h3 (by omega)
 refine .succ ?_
 simp only[cp.f]
 refine .bind (acS h1.1) (λr hr=>.bind (acS h2.1) (λs hs=>.bind (abq h3 (by omega)) (λt ht=>?_)))
 subst hr hs ht
 exact .bind (aid (by simp only[List.length_cons,List.length_nil];omega)) (λr hr=>.one (by rw[hr,List.append_assoc,List.append_assoc];rfl))
def fidE(f:ai):List Int:=encU f.fType
theorem aeV{f:ai}(h:FunP f):(fidE f).length<=11:=aah h.1.1 (by have:=h.1.2;omega)
theorem anv{f:ai}(h:FunP f):Wp (λk=>co.f k f) (· = fidE f):=by
 refine .succ ?_
 simp only[co.f]
 exact .bind (abq h.1.1 (by have:=h.1.2;omega)) (λr hr=>.one hr)
def memE(x:au):List Int:=1::(encU x.Min++encU x.Max)
theorem aff{x:au}(h:MemP x):(memE x).length<=23:=by
 obtain⟨h1,h2,h3⟩:=h
 have:=aah (n:=x.Min) h1 (by omega)
 have:=aah (n:=x.Max) (by omega) (by omega)
 simp only[memE,List.length_cons,List.length_append];omega
theorem am2{x:au}(h:MemP x):Wp (λk=>cm.f k x) (· = memE x):=by
 obtain⟨h1,h2,h3⟩:=h
 have l1:=aah (n:=x.Min) h1 (by omega)
 have l2:=aah (n:=x.Max) (by omega) (by omega)
 refine .succ ?_
 simp only[cm.f]
 refine .bind (abq h1 (by omega)) (λr hr=>.bind (abq (by omega) (by omega)) (λs hs=>?_))
 subst hr hs
 exact .bind (aeS (by simp only[List.length_cons,List.length_nil];omega)) (λr hr=>.one (by rw[hr,List.append_assoc];rfl))
def varE(g:ah):Int:=if g.Var=true then 1 else 0
def gloE(g:ah):List Int:=[icv .u8 g.fType,varE g]++begE g.fType g.Init
def GloN(g:ah):Prop:=0<=g.Init/\g.Init<18446744073709551616
theorem aeu(g:ah):(gloE g).length<=14:=by
 have:=acI g.fType g.Init
 simp only[gloE,List.length_cons,List.length_append,List.length_nil];omega
theorem anj{t:Int}(h:ae2 t)(e:opT t=65):t=127:=by
 rcases h with rfl | rfl | rfl
 ·rfl
 ·cases e
 ·cases e
theorem anX{g:ah}(h:GloP g)(hn:GloN g):Wp (λk=>cN.f k g) (· = gloE g):=by
 have l1:=acI g.fType g.Init
 refine .succ ?_
 simp only[cN.f]
 refine .seg (Q:=(· = varE g)) (.ite (λh=>.left (by rw[varE,if_pos h])) (λh=>.left (by rw[varE,if_neg h]))) (λx hx=>?_)
 subst hx
 refine .bind (aef hn.1 hn.2 (λe=>h.2 (anj h.1 e))) (λr hr=>?_)
 subst hr
 exact .pos (aab (by omega) (by omega)) (.one rfl)
def expE(x:ae):List Int:=namE x.Name++(icv .u8 x.Kind::encU x.Index)
def ExpQ(x:ae):Prop:=x.Name.size<=64/\0<=x.Index/\x.Index<=2147483647
theorem afe{x:ae}(h:ExpQ x):(expE x).length<=87:=by
 have:=abO h.1
 have:=aah h.2.1 (by have:=h.2.2;omega)
 simp only[expE,List.length_cons,List.length_append];omega
theorem anR{x:ae}(h:ExpQ x):Wp (λk=>cj.f k x) (· = expE x):=by
 have l1:=abO h.1
 have l2:=aah h.2.1 (by have:=h.2.2;omega)
 refine .succ ?_
 simp only[cj.f]
 refine .bind (acS h.1) (λr hr=>.bind (abq h.2.1 (by have:=h.2.2;omega)) (λs hs=>?_))
 subst hr hs
 exact .bind (aeS (by simp only[List.length_cons,List.length_nil];omega)) (λr hr=>.one (by rw[hr,List.append_assoc];rfl))
def funE(f:ai):List Int:=lisE (locE f.Locals++codE f.Code)
def FunN(f:ai):Prop:=∀ i∈f.Code,0<=i.N/\i.N<18446744073709551616
theorem ama{f:ai}(h:FunP f)(hn:FunN f):aeT f.Code:=⟨by have:=h.2.2.1;omega,λi hi=>⟨h.2.2.2 i hi,hn i hi⟩⟩
theorem agL{f:ai}(h:FunP f)(hn:FunN f):(locE f.Locals++codE f.Code).length<=13766000:=by
 have:=ahg h.2.1.1
 have:=aeG (ama h hn)
 have:=h.2.2.1
 rw[List.length_append];omega
theorem ahi{f:ai}(h:FunP f)(hn:FunN f):(funE f).length<=13766011:=by
 have:=agL h hn
 have:=ab8 (b:=locE f.Locals++codE f.Code) (by omega)
 unfold funE;omega
theorem ana{f:ai}(h:FunP f)(hn:FunN f):Wp (λk=>dq.f k f) (· = funE f):=by
 have hb:=agL h hn
 rw[List.length_append]at hb
 refine .succ ?_
 simp only[dq.f]
 refine .bind (ahQ h.2.1.1) (λr hr=>.bind (acL (ama h hn)) (λs hs=>?_))
 subst hr hs
 exact .pos (aab (by omega) (by omega)) (.bind (acD (by omega) (by rw[List.length_append];omega) (by rw[List.length_append];omega)) (λr hr=>.one hr))
def datE(d:aB):List Int:=(if d.Active=true then(if d.Mem=0 then[0]else 2::encU d.Mem)++begE 127 d.At else[1])++lisE d.Bytes
theorem agJ{d:aB}(h:DatP d):(datE d).length<=1048620:=by
 have l1:=ab8 (b:=d.Bytes) (by have:=h.2.2;omega)
 have l2:=h.2.2
 have l3:=acI 127 d.At
 unfold datE
 rw[List.length_append]
 split
 ·rename_i ha
  have l4:=aah (n:=d.Mem) (h.1 ha).1.1 (by have:=(h.1 ha).1.2;omega)
  rw[List.length_append]
  split <;> simp only[List.length_cons,List.length_nil] <;> omega
 ·simp only[List.length_cons,List.length_nil];omega
theorem amU{d:aB}(h:DatP d):0<=d.At/\d.At<=2147483647/\iand .u64 (icv .u64 d.At) 4294967295=d.At/\icv .u64 d.At=d.At:=by
 have h1:0<=d.At/\d.At<=2147483647:=by
  cases ha:d.Active with
  | true=>exact⟨(h.1 ha).2.1,(h.1 ha).2.2⟩
  | false=>have:=(h.2.1 ha).2;omega
 have e1:icv .u64 d.At=d.At:=aiN h1.1 (by omega)
 refine⟨h1.1,h1.2,?_,e1⟩
 rw[e1,abT (k:=.u64) (j:=32) (by decide) (by decide)]
 omega
theorem anU{d:aB}(h:DatP d):Wp (λk=>de.f k d) (· = datE d):=by
 have l1:=ab8 (b:=d.Bytes) (by have:=h.2.2;omega)
 have l2:=h.2.2
 have l3:=acI 127 d.At
 obtain⟨a0,a1,a2,a3⟩:=amU h
 refine .succ ?_
 simp only[de.f,a2]
 refine .bind (ai0 (by omega) (by omega) (by omega)) (λr hr=>.bind (aef a0 (by omega) (λ_=>by omega)) (λs hs=>?_))
 have hr':r=lisE d.Bytes:=hr
 subst hr' hs
 refine .ite (λha=>?_) (λha=>?_)
 ·have ha':d.Active=false:=by simpa using ha
  exact .pos (aab (by omega) (by omega)) (.one (by rw[datE,ha'];rfl))
 ·have ha':d.Active=true:=by simpa using ha
  refine .ite (λhm=>?_) (λhm=>?_)
  ·exact .bind (aeS (by simp only[List.length_cons,List.length_nil];omega)) (λr hr=>.one (by rw[hr,datE,if_pos ha',if_pos hm]))
  ·have l4:=aah (n:=d.Mem) (h.1 ha').1.1 (by have:=(h.1 ha').1.2;omega)
   refine .bind (abq (h.1 ha').1.1 (by have:=(h.1 ha').1.2;omega)) (λr hr=>?_)
   subst hr
   exact .bind (aid (by simp only[List.length_cons,List.length_nil];omega)) (λr hr=>.one (by rw[hr,datE,if_pos ha',if_neg hm];rfl))
def cusE(c:aD):List Int:=secE 0 (namE c.Name++c.Bytes)
theorem akr{c:aD}(h:CusP c):(namE c.Name++c.Bytes).length<=1048651:=by
 have:=abO h.1.1
 have:=h.2
 rw[List.length_append];omega
theorem ahn{c:aD}(h:CusP c):(cusE c).length<=1048663:=by
 have:=akr h
 have:=aaX (n:=0) (b:=namE c.Name++c.Bytes) (by omega)
 unfold cusE;omega
end Wr
end Go.R4
namespace Go.R4
open Go.Proofs Go.Ev
set_option maxRecDepth 100000
namespace Wr
open Lb
noncomputable def er(f:ai):Int:=if h:f.Code.length<=100000 then(Mt.of_both h).choose else 0
theorem an9{f:ai}(h:f.Code.length<=100000):Wp (λk=>aN.f k f.Code) (λr=>r.1=er f)/\Wp (λk=>cR.f k f.Code) (λr=>r.1=er f):=by
 obtain⟨S,_,h1,h2⟩:=(Mt.of_both h).choose_spec
 have e:er f=(Mt.of_both h).choose:=by unfold er;rw[dif_pos h]
 exact⟨h1.mono λr hr=>by rw[hr,e],h2.mono λr hr=>by rw[hr,e]⟩
def acb:List Int->Int
 | []=>0
 | x::r=>if x≠0 then x else acb r
theorem alf{fs:List ai}(hl:fs.length<=1000){E:ai->Int}{β:Type}{F:Nat->ai->Option (Int×β)}(hF:∀ f∈fs,Wp (λk=>F k f) (λr=>r.1=E f)){B:Nat->Int->Option (Int⊕(Unit⊕Int))}
  (eB:∀ k v,B k v=if v<(fs.length:Int)then((at? fs v).bind λe=>((F k e).bind λ(r,_)=>if r=0 then some (.inl (iadd .i64 v 1))else some (.inr (.inr r))))else some (.inr (.inl ()))) :
  Wp (λk=>loopS (B k) k (0:Int)) (aaT (λ_=>acb (fs.map E)=0) (λo=>o=acb (fs.map E)/\o≠0)):=by
 refine .loop (λ(n:Nat) (v:Int)=>∃ i:Nat,v=(i:Int)/\i+n=fs.length/\acb ((fs.drop i).map E)=acb (fs.map E)) (λn v hv=>?_) (n:=fs.length) ⟨0,rfl,by omega,by simp⟩
 obtain⟨i,rfl,h1,h2⟩:=hv
 simp only[eB]
 refine .ite (λhi=>?_) (λhi=>.right ?_)
 ·have hi':i<fs.length:=by omega
  rw[List.drop_eq_getElem_cons hi',List.map_cons]at h2
  refine adw (List.getElem?_eq_getElem hi') (.bind (hF _ (List.getElem_mem hi')) (λr hr=>?_))
  obtain⟨r1,r2⟩:=r
  dsimp only at hr ⊢
  simp only[acb]at h2
  refine .ite (λh0=>.left ⟨n-1,by omega,i+1,by rw[aai (by omega) (by omega)];omega,by omega,?_⟩) (λh0=>.right ?_)
  ·rw[if_neg (by rw[<-hr];simpa using h0)]at h2
   exact h2
  ·rw[if_pos (by rw[<-hr];exact h0)]at h2
   exact⟨by rw[hr,h2],h0⟩
 ·rw[List.drop_of_length_le (by omega)]at h2
  exact h2.symm
def askI(i:ag):Prop:=i.Op=64520∨i.Op=64521
theorem am0{m:ay}(h1:m.Funcs.length<=1000)(h2:∀ f∈m.Funcs,f.Code.length<=100000):Wp (λk=>cZ.f k m) (Tell (¬∀ f∈m.Funcs,∀ i∈f.Code,¬askI i)):=by
 refine .succ ?_
 simp only[cZ.f]
 refine af7 (.succ ?_)
 simp only[bi.f]
 refine aau (.succ ?_)
 simp only[be.f]
 refine aaV m.Funcs (by omega) (λf=>∀ i∈f.Code,¬askI i) (λf hf=>.succ ?_)
 simp only[cU.f]
 refine af7 (.succ ?_)
 simp only[bh.f]
 refine aau (.succ ?_)
 simp only[bf.f]
 refine aaV f.Code (by have:=h2 f hf;omega) (λi=>¬askI i) (λi _=>.succ ?_)
 simp only[ci.f]
 exact .ite (λh=>.one (.yes (by simp only[askI];omega))) (λh=>.one (.dec (by simp only[askI];omega)))
structure Lens(m:ay):Prop where
 t:m.Types.length<=64
 i:m.Imports.length<=256
 f:m.Funcs.length<=256
 me:m.Mems.length<=4
 g:m.Globals.length<=256
 d:m.Datas.length<=16
 e:m.Exports.length<=256
 c:m.Customs.length<=16
theorem aiY{m:ay}(hm:Fit m)(h:¬adW m):Lens m:=by
 unfold adW at h
 have h1:=hm.li
 have h2:=hm.lf
 rw[aai (by omega) (by omega)]at h
 exact⟨by omega,by omega,by omega,by omega,by omega,by omega,by omega,by omega⟩
structure NumM(m:ay):Prop where
 g:∀ g∈m.Globals,GloN g
 f:∀ f∈m.Funcs,FunN f
theorem agZ{l:List ae}(h:adE l):∀ x∈l,ExpQ x:=λx hx=>by
 obtain⟨j,hj⟩:=List.getElem?_of_mem hx
 obtain⟨g1,g2,g3,_⟩:=h j x hj
 exact⟨g1.1,g2.1,g2.2⟩
abbrev hd:List Int:=[0,97,115,109,1,0,0,0]
open Classical in
noncomputable def s12(m:ay):List Int:=if 0<m.Datas.length ∨ ¬∀ f∈m.Funcs,∀ i∈f.Code,¬askI i then secE 12 (encU m.Datas.length)else[]
noncomputable def modE(m:ay):List Int:=
 hd++secE 1 (eachE typE m.Types)++secE 2 (eachE impE m.Imports)++secE 3 (eachE fidE m.Funcs)++secE 5 (eachE memE m.Mems)++secE 6 (eachE gloE m.Globals)++secE 7 (eachE expE m.Exports)++s12 m++secE 10 (eachE funE m.Funcs)++secE 11 (eachE datE m.Datas)++m.Customs.flatMap cusE
structure Sz(m:ay):Prop where
 e1:(eachE typE m.Types).length<=4000000000
 e2:(eachE impE m.Imports).length<=4000000000
 e3:(eachE fidE m.Funcs).length<=4000000000
 e5:(eachE memE m.Mems).length<=4000000000
 e6:(eachE gloE m.Globals).length<=4000000000
 e7:(eachE expE m.Exports).length<=4000000000
 e10:(eachE funE m.Funcs).length<=4000000000
 e11:(eachE datE m.Datas).length<=4000000000
 c:∀ n,((m.Customs.take n).flatMap cusE).length<=4000000000
 x12:(s12 m).length<=23
theorem aoa{m:ay}(hl:Lens m)(h:ad5 m)(hn:NumM m):Sz m:=by
 obtain⟨l1,l2,l3,l4,l5,l6,l7,l8⟩:=hl
 obtain⟨⟨h1,h2,h3,h4,h5⟩,h6,h7,h8⟩:=h
 have a1:=aaw (g:=typE) (l:=m.Types) (by omega) λx hx=>afj (h1 x hx)
 have a2:=aaw (g:=impE) (l:=m.Imports) (by omega) λx hx=>aet (h2 x hx)
 have a3:=aaw (g:=fidE) (l:=m.Funcs) (by omega) λx hx=>aeV (h3 x hx)
 have a5:=aaw (g:=memE) (l:=m.Mems) (by omega) λx hx=>aff (h4 x hx)
 have a6:=aaw (l:=m.Globals) (by omega) λx _=>aeu x
 have a7:=aaw (g:=expE) (l:=m.Exports) (by omega) λx hx=>afe (agZ h6 x hx)
 have a10:=aaw (g:=funE) (l:=m.Funcs) (by omega) λx hx=>ahi (h3 x hx) (hn.f x hx)
 have a11:=aaw (g:=datE) (l:=m.Datas) (by omega) λx hx=>agJ (h7 x hx)
 refine⟨by omega,by omega,by omega,by omega,by omega,by omega,by omega,by omega,λn=>?_,?_⟩
 ·have:=aaQ (l:=m.Customs) (g:=cusE) (c:=1048663) (λx hx=>ahn (h8 x hx)) n
  omega
 ·have:=aah (n:=(m.Datas.length:Int)) (by omega) (by omega)
  have:=aaX (n:=12) (b:=encU (m.Datas.length:Int)) (by omega)
  unfold s12
  split
  ·omega
  ·simp
theorem rm2{a b:List Int}(ha:a.length<=50000000000000)(hb:b.length<=50000000000000):aaf (a.length+b.length) 1:=aab (by omega) (by omega)
noncomputable def Out(m:ay)(r:Int×List Int):Prop:=if acb (m.Funcs.map er)=0 then(if((modE m).length:Int)>1048576 then r=(3,[])else r=(0,modE m))else r=(acb (m.Funcs.map er),[])
theorem Out.eq{m:ay}{r s:Int×List Int}(h:Out m r)(k:Out m s):r=s:=by
 unfold Out at h k
 split at h
 ·split at h
  ·rw[if_pos ‹_›,if_pos ‹_›]at k;rw[h,k]
  ·rw[if_pos ‹_›,if_neg ‹_›]at k;rw[h,k]
 ·rw[if_neg ‹_›]at k;rw[h,k]
end Wr
end Go.R4
namespace Go.R4
open Go.Proofs Go.Ev
set_option maxRecDepth 100000
namespace Wr
open Lb
theorem secL{n:Int}{b:List Int}(h:b.length<=4000000000):(secE n b).length<=4000000012:=by
 have:=aaX (n:=n) (b:=b) (by omega)
 omega
theorem aiq{m:ay}(hm:Fit m)(hn:NumM m){e:Int}(hr:RP m e):Wp (λk=>aA.f k m) (λr=>(e≠0/\r=(e,[]))∨(e=0/\Out m r)):=by
 refine .succ ?_
 simp only[aA.f]
 refine .bind (ak0 m hm) (λr0 hr0=>?_)
 have:=hr0.eq hr
 subst this
 refine .ite (λh0=>?_) (λh0=>.one (.inl ⟨h0,rfl⟩))
 have ok:¬adW m/\ad5 m:=by
  rcases hr with⟨_,q⟩ | ⟨a,b,_⟩ | ⟨_,_,q⟩
  ·omega
  ·exact⟨a,b⟩
  ·omega
 have L:=aiY hm ok.1
 have S:=aoa L ok.2 hn
 obtain⟨⟨h1,h2,h3,h4,h5⟩,h6,h7,h8⟩:=ok.2
 have hc:∀ f∈m.Funcs,f.Code.length<=100000:=λf hf=>by have:=(h3 f hf).2.2.1;omega
 have lf:=L.f
 refine .alt (alf (by omega) (E:=er) (F:=λk f=>aN.f k f.Code) (λf hf=>(an9 (hc f hf)).1) (λk v=>rfl)) (λ_ hz=>?_) (λo ho=>.one (.inr ⟨h0,?_⟩))
 rotate_left
 ·unfold Out
  rw[if_neg (by rw[<-ho.1];exact ho.2),ho.1]
 have b1:=secL (n:=1) S.e1
 have b2:=secL (n:=2) S.e2
 have b3:=secL (n:=3) S.e3
 have b5:=secL (n:=5) S.e5
 have b6:=secL (n:=6) S.e6
 have b7:=secL (n:=7) S.e7
 have b10:=secL (n:=10) S.e10
 have b11:=secL (n:=11) S.e11
 have x12:=S.x12
 refine .bind (.succ (by simp only[bw.f];exact abV (g:=typE) 39 (by have:=L.t;omega) (λx hx=>afj (h1 x hx)) (by omega) (λx hx=>anx (h1 x hx)) (λk x h=>rfl))) (λr hr=>?_)
 subst hr
 refine .bind (abo (by have:=S.e1;omega)) (λr hr=>?_)
 subst hr
 refine .pos (rm2 (a:=hd) (by decide) (by omega)) ?_
 refine .bind (.succ (by simp only[bu.f];exact abV (g:=impE) 162 (by have:=L.i;omega) (λx hx=>aet (h2 x hx)) (by omega) (λx hx=>anJ (h2 x hx)) (λk x h=>rfl))) (λr hr=>?_)
 subst hr
 refine .bind (abo (by have:=S.e2;omega)) (λr hr=>?_)
 subst hr
 refine .pos (rm2 (by simp only[List.length_append,List.length_cons,List.length_nil];omega) (by omega)) ?_
 refine .bind (.succ (by simp only[bz.f];exact abV (g:=fidE) 11 (by omega) (λx hx=>aeV (h3 x hx)) (by omega) (λx hx=>anv (h3 x hx)) (λk x h=>rfl))) (λr hr=>?_)
 subst hr
 refine .bind (abo (by have:=S.e3;omega)) (λr hr=>?_)
 subst hr
 refine .pos (rm2 (by simp only[List.length_append,List.length_cons,List.length_nil];omega) (by omega)) ?_
 refine .bind (.succ (by simp only[bv.f];exact abV (g:=memE) 23 (by have:=L.me;omega) (λx hx=>aff (h4 x hx)) (by omega) (λx hx=>am2 (h4 x hx)) (λk x h=>rfl))) (λr hr=>?_)
 subst hr
 refine .bind (abo (by have:=S.e5;omega)) (λr hr=>?_)
 subst hr
 refine .pos (rm2 (by simp only[List.length_append,List.length_cons,List.length_nil];omega) (by omega)) ?_
 refine .bind (.succ (by simp only[bk.f];exact abV (g:=gloE) 14 (by have:=L.g;omega) (λx _=>aeu x) (by omega) (λx hx=>anX (h5 x hx) (hn.g x hx)) (λk x h=>rfl))) (λr hr=>?_)
 subst hr
 refine .bind (abo (by have:=S.e6;omega)) (λr hr=>?_)
 subst hr
 refine .pos (rm2 (by simp only[List.length_append,List.length_cons,List.length_nil];omega) (by omega)) ?_
 refine .bind (.succ (by simp only[bx.f];exact abV (g:=expE) 87 (by have:=L.e;omega) (λx hx=>afe (agZ h6 x hx)) (by omega) (λx hx=>anR (agZ h6 x hx)) (λk x h=>rfl))) (λr hr=>?_)
 subst hr
 refine .bind (abo (by have:=S.e7;omega)) (λr hr=>?_)
 subst hr
 refine .pos (rm2 (by simp only[List.length_append,List.length_cons,List.length_nil];omega) (by omega)) ?_
 generalize hA:((((((hd++secE 1 (eachE typE m.Types))++secE 2 (eachE impE m.Imports))++secE 3 (eachE fidE m.Funcs))++secE 5 (eachE memE m.Mems))++secE 6 (eachE gloE m.Globals))++secE 7 (eachE expE m.Exports))=A
 have lA:A.length<=24000000100/\8<=A.length:=by rw[<-hA];simp only[List.length_append,List.length_cons,List.length_nil];omega
 have ld:=L.d
 refine .seg (Q:=(· = A++s12 m)) ?_ (λq hq=>?_)
 ·have u:=aah (n:=(m.Datas.length:Int)) (by omega) (by omega)
  have sl:=aaX (n:=12) (b:=encU (m.Datas.length:Int)) (by omega)
  refine .ite (λhd=>.bind (abq (by omega) (by omega)) (λr hr=>?_)) (λhd=>.bind (am0 (by omega) hc) (λr hr=>.tif hr (λha=>.bind (abq (by omega) (by omega)) (λr hr=>?_)) (λha=>.left ?_)))
  ·subst hr
   refine .bind (abo (by omega)) (λr hr=>?_)
   subst hr
   exact .pos (rm2 (by omega) (by omega)) (.left (by unfold s12;rw[if_pos (.inl (by omega))]))
  ·subst hr
   refine .bind (abo (by omega)) (λr hr=>?_)
   subst hr
   exact .pos (rm2 (by omega) (by omega)) (.left (by unfold s12;rw[if_pos (.inr ha)]))
  ·unfold s12;rw[if_neg (λq=>q.elim (λq=>by omega) ha),List.append_nil]
 subst hq
 refine .bind (.succ (by simp only[aW.f];exact abV (g:=funE) 13766011 (by omega) (λx hx=>ahi (h3 x hx) (hn.f x hx)) (by omega) (λx hx=>ana (h3 x hx) (hn.f x hx)) (λk x h=>rfl))) (λr hr=>?_)
 subst hr
 refine .bind (abo (by have:=S.e10;omega)) (λr hr=>?_)
 subst hr
 refine .pos (rm2 (by simp only[List.length_append];omega) (by omega)) ?_
 refine .bind (.succ (by simp only[bB.f];exact abV (g:=datE) 1048620 (by omega) (λx hx=>agJ (h7 x hx)) (by omega) (λx hx=>anU (h7 x hx)) (λk x h=>rfl))) (λr hr=>?_)
 subst hr
 refine .bind (abo (by have:=S.e11;omega)) (λr hr=>?_)
 subst hr
 refine .pos (rm2 (by simp only[List.length_append];omega) (by omega)) ?_
 generalize hB:((A++s12 m)++secE 10 (eachE funE m.Funcs))++secE 11 (eachE datE m.Datas)=B
 have lB:B.length<=33000000200/\8<=B.length:=by rw[<-hB];simp only[List.length_append];omega
 have lc:=L.c
 refine .bind (abp (l:=m.Customs) (by omega) (g:=cusE) (λn e hn he hm=>?_) (λh=>?_)) (λr hr=>?_)
 ·have t:=S.c n
  have c1:=akr (h8 e hm)
  have c2:=ahn (h8 e hm)
  rw[List.length_append]at c1
  simp only[aA.b23]
  refine .pos (by omega) (adw he (.bind (acS (h8 e hm).1.1) (λr hr=>?_)))
  subst hr
  refine .pos (rm2 (by omega) (by omega)) (.bind (abo (by rw[List.length_append];omega)) (λr hr=>?_))
  have hr':r=cusE e:=hr
  subst hr'
  exact .pos (rm2 (by simp only[List.length_append];omega) (by omega)) (.one rfl)
 ·simp only[aA.b23]
  exact .neg (by omega) (.one rfl)
 have er:r=modE m:=by rw[hr,<-hB,<-hA,modE]
 have l8:8<=(modE m).length:=by rw[<-er,hr,List.length_append];omega
 rw[er]
 refine .ite (λhb=>.one (.inr ⟨h0,?_⟩)) (λhb=>.bind (Q:=(· = (modE m).length)) (.succ ?_) (λr hr=>?_))
 ·unfold Out;rw[if_pos hz,if_pos hb]
 ·simp only[dF.f]
  exact .pos ⟨by omega,by omega,by omega,by omega,by omega,by omega,by omega⟩ (.one (by omega))
 ·subst hr
  refine .pos (Nat.le_refl _) (.one (.inr ⟨h0,?_⟩))
  unfold Out;rw[if_pos hz,if_neg hb,List.take_length]
end Wr
end Go.R4
namespace Go.R4
open Go.Proofs Go.Ev
set_option maxRecDepth 100000
namespace Wr
open Lb
end Wr
end Go.R4
