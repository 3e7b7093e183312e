import Derived.Test.YtganajogkdinaaaGreatGWrd
import Derived.Test.YtganajogkdinaaaGreatGSameP
set_option linter.all false
namespace Go.R4
open Go.Proofs Go.Ev
set_option maxRecDepth 100000
namespace Wr
open Lb
def eachE{α:Type}(g:α->List Int)(l:List α):List Int:=if l.length=0 then[]else encU l.length++l.flatMap g
theorem abm{α:Type}{g:α->List Int}{c:Nat}{l:List α}(hl:l.length<=1000)(h:∀ x∈l,(g x).length<=c):(eachE g l).length<=c*l.length+11:=by
 have:=aag (n:=(l.length:Int)) (by omega) (by omega)
 have:=aaG h
 unfold eachE
 split
 ·simp
 ·simp only[List.length_append];omega
theorem ab1{α:Type}{g:α->List Int}(c:Nat){l:List α}(hl:l.length<=1000)(hc:∀ x∈l,(g x).length<=c)(hC:c<=10000000000){F:Nat->α->Option (List Int)}(hF:∀ x∈l,Wp (λk=>F k x) (· = g x)){B:Nat->(Int×List Int)->Option ((Int×List Int)⊕(List Int))}
  (eB:∀ k x h,B k (x,h)=if x<(l.length:Int)then((at? l x).bind λe=>((F k e).bind λr=>if aad (h.length+r.length) 1 then some (.inl (iadd .i64 x 1,h++r))else none))else some (.inr h)) :
  Wp (λk=>if(l.length:Int)=0 then(some ([]:List Int))else((ap.f k (l.length:Int)).bind λr22=>((loopS (B k) k ((0:Int),r22)).bind λh34=>(some h34)))) (· = eachE g l):=by
 have l1:=aag (n:=(l.length:Int)) (by omega) (by omega)
 have cl:c*l.length<=10000000000*1000:=Nat.mul_le_mul hC hl
 refine .ite (λh=>.one (by rw[eachE,if_pos (by omega)])) (λh=>.bind (abu (by omega) (by omega)) (λr hr=>?_))
 subst hr
 refine .bind (aaI (l:=l) (by omega) (g:=g) (λn e hn he hm=>?_) (λh=>?_)) (λr hr=>.one (by rw[hr,eachE,if_neg (by omega)]))
 ·have:=aax hc n
  have l2:=hc e hm
  simp only[eB]
  refine .pos (by omega) (aaM he (.bind (hF e hm) (λr hr=>?_)))
  subst hr
  exact .pos (aae (by simp only[List.length_append];omega) (by simp only[List.length_append];omega)) (.one rfl)
 ·simp only[eB]
  exact .neg (by omega) (.one rfl)
def secE(n:Int)(b:List Int):List Int:=if b.length=0 then[]else n::lisE b
theorem adT{n:Int}{b:List Int}(h:b.length<=50000000000000):(secE n b).length<=b.length+12:=by
 have:=adN (b:=b) (by omega)
 unfold secE
 split
 ·simp
 ·simp only[List.length_cons];omega
theorem abA{n:Int}{b:List Int}(h:b.length<=50000000000000):Wp (λk=>av.f k n b) (· = secE n b):=by
 have l1:=aag (n:=(b.length:Int)) (by omega) (by omega)
 refine .succ ?_
 simp only[av.f]
 refine .ite (λhb=>.one (by rw[secE,if_pos (by omega)])) (λhb=>.bind (acH (by omega) (by omega) (by omega)) (λr hr=>?_))
 subst hr
 exact .pos (aae (by simp only[List.length_append];omega) (by simp only[List.length_append];omega)) (.one (by rw[secE,if_neg (by omega)];rfl))
theorem ab9{α:Type}{g:α->List Int}{n:Int}(hn:0<=n/\n<=255){l:List α}(hl:l.length<=1000){b:List Int}(hb:b=l.flatMap g)(h:b.length<=40000000000000):Wp (λk=>aB.f k n (l.length:Int) b) (· = secE n (eachE g l)):=by
 have l1:=aag (n:=(l.length:Int)) (by omega) (by omega)
 have l0:=afq (l.length:Int)
 refine .succ ?_
 simp only[aB.f]
 refine .ite (λh0=>.one (by rw[eachE,if_pos (by omega)];rfl)) (λh0=>.bind (abj (by omega) (by omega)) (λr hr=>?_))
 subst hr
 have ee:eachE g l=encU (l.length:Int)++b:=by rw[eachE,if_neg (by omega),hb]
 have el:(encU (l.length:Int)++b).length<=40000000000011:=by rw[List.length_append];omega
 have l2:=aag (n:=((encU (l.length:Int)++b).length:Int)) (by omega) (by omega)
 refine .pos (aae (by omega) (by omega)) (.bind (abj (by omega) (by omega)) (λr hr=>?_))
 subst hr
 refine .pos (aae (by omega) (by omega)) (.pos (aae (by simp only[List.length_append,List.length_cons,List.length_nil]at *;omega) (by simp only[List.length_append,List.length_cons,List.length_nil]at *;omega)) (.one ?_))
 rw[aef hn.1 hn.2,ee,secE,if_neg (by rw[List.length_append];omega),lisE,List.append_assoc]
 rfl
def typE(t:af):List Int:=96::(kndE t.Params++kndE t.Results)
theorem adJ{t:af}(h:TypeP t):(typE t).length<=39:=by
 have:=acg (l:=t.Params) (by have:=h.1.1;omega)
 have:=acg (l:=t.Results) (by have:=h.2.1;omega)
 have:=h.1.1
 have:=h.2.1
 simp only[typE,List.length_cons,List.length_append];omega
theorem anh{t:af}(h:TypeP t):Wp (λk=>cL.f k t) (· = typE t):=by
 have l1:=acg (l:=t.Params) (by have:=h.1.1;omega)
 have l2:=acg (l:=t.Results) (by have:=h.2.1;omega)
 have:=h.1.1
 have:=h.2.1
 refine .succ ?_
 simp only[cL.f]
 refine .bind (afS (by omega)) (λr hr=>.bind (afS (by omega)) (λs hs=>?_))
 subst hr hs
 exact .bind (afs (by simp only[List.length_cons,List.length_nil];omega)) (λr hr=>.one (by rw[hr,List.append_assoc];rfl))
def impE(x:ak):List Int:=namE x.Module++(namE x.Name++(0::encU x.fType))
theorem adU{x:ak}(h:ImpP x):(impE x).length<=162:=by
 have:=abd h.1.1
 have:=abd h.2.1.1
 have:=aag (n:=x.fType) h.2.2.1 (by have:=h.2.2.2;omega)
 simp only[impE,List.length_cons,List.length_append];omega
theorem aob{x:ak}(h:ImpP x):Wp (λk=>cN.f k x) (· = impE x):=by
 have l1:=abd h.1.1
 have l2:=abd h.2.1.1
 obtain⟨h1,h2,h3,h4⟩:=h
 have l3:=aag (n:=x.fType) h3 (by omega)
 refine .succ ?_
 simp only[cN.f]
 refine .bind (acK h1.1) (λr hr=>.bind (acK h2.1) (λs hs=>.bind (abu h3 (by omega)) (λt ht=>?_)))
 subst hr hs ht
 exact .bind (ajG (by simp only[List.length_cons,List.length_nil];omega)) (λr hr=>.one (by rw[hr,List.append_assoc,List.append_assoc];rfl))
def fidE(f:aj):List Int:=encU f.fType
theorem acF{f:aj}(h:FunP f):(fidE f).length<=11:=aag h.1.1 (by have:=h.1.2;omega)
theorem anR{f:aj}(h:FunP f):Wp (λk=>cP.f k f) (· = fidE f):=by
 refine .succ ?_
 simp only[cP.f]
 exact .bind (abu h.1.1 (by have:=h.1.2;omega)) (λr hr=>.one hr)
def memE(x:au):List Int:=1::(encU x.Min++encU x.Max)
theorem adM{x:au}(h:MemP x):(memE x).length<=23:=by
 obtain⟨h1,h2,h3⟩:=h
 have:=aag (n:=x.Min) h1 (by omega)
 have:=aag (n:=x.Max) (by omega) (by omega)
 simp only[memE,List.length_cons,List.length_append];omega
theorem aou{x:au}(h:MemP x):Wp (λk=>cR.f k x) (· = memE x):=by
 obtain⟨h1,h2,h3⟩:=h
 have l1:=aag (n:=x.Min) h1 (by omega)
 have l2:=aag (n:=x.Max) (by omega) (by omega)
 refine .succ ?_
 simp only[cR.f]
 refine .bind (abu h1 (by omega)) (λr hr=>.bind (abu (by omega) (by omega)) (λs hs=>?_))
 subst hr hs
 exact .bind (afs (by simp only[List.length_cons,List.length_nil];omega)) (λr hr=>.one (by rw[hr,List.append_assoc];rfl))
def varE(g:ai):Int:=if g.Var=true then 1 else 0
def gloE(g:ai):List Int:=[icv .u8 g.fType,varE g]++begE g.fType g.Init
def GloN(g:ai):Prop:=0<=g.Init/\g.Init<18446744073709551616
theorem adG(g:ai):(gloE g).length<=14:=by
 have:=aci g.fType g.Init
 simp only[gloE,List.length_cons,List.length_append,List.length_nil];omega
theorem anZ{t:Int}(h:adl t)(e:opT t=65):t=127:=by
 rcases h with rfl | rfl | rfl
 ·rfl
 ·cases e
 ·cases e
theorem ang{g:ai}(h:GloP g)(hn:GloN g):Wp (λk=>du.f k g) (· = gloE g):=by
 have l1:=aci g.fType g.Init
 refine .succ ?_
 simp only[du.f]
 refine .seg (Q:=(· = varE g)) (.ite (λh=>.left (by rw[varE,if_pos h])) (λh=>.left (by rw[varE,if_neg h]))) (λx hx=>?_)
 subst hx
 refine .bind (aeM hn.1 hn.2 (λe=>h.2 (anZ h.1 e))) (λr hr=>?_)
 subst hr
 exact .pos (aae (by omega) (by omega)) (.one rfl)
def expE(x:ae):List Int:=namE x.Name++(icv .u8 x.Kind::encU x.Index)
def ExpQ(x:ae):Prop:=x.Name.size<=64/\0<=x.Index/\x.Index<=2147483647
theorem adS{x:ae}(h:ExpQ x):(expE x).length<=87:=by
 have:=abd h.1
 have:=aag h.2.1 (by have:=h.2.2;omega)
 simp only[expE,List.length_cons,List.length_append];omega
theorem an5{x:ae}(h:ExpQ x):Wp (λk=>cQ.f k x) (· = expE x):=by
 have l1:=abd h.1
 have l2:=aag h.2.1 (by have:=h.2.2;omega)
 refine .succ ?_
 simp only[cQ.f]
 refine .bind (acK h.1) (λr hr=>.bind (abu h.2.1 (by have:=h.2.2;omega)) (λs hs=>?_))
 subst hr hs
 exact .bind (afs (by simp only[List.length_cons,List.length_nil];omega)) (λr hr=>.one (by rw[hr,List.append_assoc];rfl))
def funE(f:aj):List Int:=lisE (locE f.Locals++codE f.Code)
def FunN(f:aj):Prop:=∀ i∈f.Code,0<=i.N/\i.N<18446744073709551616
theorem ajk{f:aj}(h:FunP f)(hn:FunN f):aeq f.Code:=⟨by have:=h.2.2.1;omega,λi hi=>⟨h.2.2.2 i hi,hn i hi⟩⟩
theorem aeS{f:aj}(h:FunP f)(hn:FunN f):(locE f.Locals++codE f.Code).length<=13766000:=by
 have:=amx h.2.1.1
 have:=ale (ajk h hn)
 have:=h.2.2.1
 rw[List.length_append];omega
theorem adK{f:aj}(h:FunP f)(hn:FunN f):(funE f).length<=13766011:=by
 have:=aeS h hn
 have:=adN (b:=locE f.Locals++codE f.Code) (by omega)
 unfold funE;omega
theorem aok{f:aj}(h:FunP f)(hn:FunN f):Wp (λk=>dR.f k f) (· = funE f):=by
 have hb:=aeS h hn
 rw[List.length_append]at hb
 refine .succ ?_
 simp only[dR.f]
 refine .bind (ain h.2.1.1) (λr hr=>.bind (alU (ajk h hn)) (λs hs=>?_))
 subst hr hs
 exact .pos (aae (by omega) (by omega)) (.bind (acH (by omega) (by rw[List.length_append];omega) (by rw[List.length_append];omega)) (λr hr=>.one hr))
def datE(d:aA):List Int:=(if d.Active=true then(if d.Mem=0 then[0]else 2::encU d.Mem)++begE 127 d.At else[1])++lisE d.Bytes
theorem acN{d:aA}(h:DatP d):(datE d).length<=1048620:=by
 have l1:=adN (b:=d.Bytes) (by have:=h.2.2;omega)
 have l2:=h.2.2
 have l3:=aci 127 d.At
 unfold datE
 rw[List.length_append]
 split
 ·rename_i ha
  have l4:=aag (n:=d.Mem) (h.1 ha).1.1 (by have:=(h.1 ha).1.2;omega)
  rw[List.length_append]
  split <;> simp only[List.length_cons,List.length_nil] <;> omega
 ·simp only[List.length_cons,List.length_nil];omega
theorem aiT{d:aA}(h:DatP d):0<=d.At/\d.At<=2147483647/\iand .u64 (icv .u64 d.At) 4294967295=d.At/\icv .u64 d.At=d.At:=by
 have h1:0<=d.At/\d.At<=2147483647:=by
  cases ha:d.Active with
  | true=>exact⟨(h.1 ha).2.1,(h.1 ha).2.2⟩
  | false=>have:=(h.2.1 ha).2;omega
 have e1:icv .u64 d.At=d.At:=agu h1.1 (by omega)
 refine⟨h1.1,h1.2,?_,e1⟩
 rw[e1,abv (k:=.u64) (j:=32) (by decide) (by decide)]
 omega
theorem anO{d:aA}(h:DatP d):Wp (λk=>dM.f k d) (· = datE d):=by
 have l1:=adN (b:=d.Bytes) (by have:=h.2.2;omega)
 have l2:=h.2.2
 have l3:=aci 127 d.At
 obtain⟨a0,a1,a2,a3⟩:=aiT h
 refine .succ ?_
 simp only[dM.f,a2]
 refine .bind (akQ (by omega) (by omega) (by omega)) (λr hr=>.bind (aeM a0 (by omega) (λ_=>by omega)) (λs hs=>?_))
 have hr':r=lisE d.Bytes:=hr
 subst hr' hs
 refine .ite (λha=>?_) (λha=>?_)
 ·have ha':d.Active=false:=by simpa using ha
  exact .pos (aae (by omega) (by omega)) (.one (by rw[datE,ha'];rfl))
 ·have ha':d.Active=true:=by simpa using ha
  refine .ite (λhm=>?_) (λhm=>?_)
  ·exact .bind (afs (by simp only[List.length_cons,List.length_nil];omega)) (λr hr=>.one (by rw[hr,datE,if_pos ha',if_pos hm]))
  ·have l4:=aag (n:=d.Mem) (h.1 ha').1.1 (by have:=(h.1 ha').1.2;omega)
   refine .bind (abu (h.1 ha').1.1 (by have:=(h.1 ha').1.2;omega)) (λr hr=>?_)
   subst hr
   exact .bind (ajG (by simp only[List.length_cons,List.length_nil];omega)) (λr hr=>.one (by rw[hr,datE,if_pos ha',if_neg hm];rfl))
theorem anf{d:aA}(h:DatP d):Wp (λk=>ej.f k d) (· = datE d):=by
 have l1:=aag (n:=(d.Bytes.length:Int)) (by omega) (by have:=h.2.2;omega)
 have l2:=h.2.2
 have l3:=aci 127 d.At
 obtain⟨a0,a1,a2,a3⟩:=aiT h
 refine .succ ?_
 simp only[ej.f,a3]
 refine .seg (Q:=λx=>x=(if d.Active=true then(if d.Mem=0 then[0]else 2::encU d.Mem)++begE 127 d.At else[1])/\x.length<=30) ?_ (λx hx=>?_)
 ·refine .ite (λha=>?_) (λha=>.left ⟨by rw[if_neg ha],by simp⟩)
  have l4:=aag (n:=d.Mem) (h.1 ha).1.1 (by have:=(h.1 ha).1.2;omega)
  refine .seg (Q:=λx=>x=if d.Mem=0 then[0]else 2::encU d.Mem) ?_ (λx hx=>?_)
  ·refine .ite (λhm=>.bind (abj (h.1 ha).1.1 (by have:=(h.1 ha).1.2;omega)) (λr hr=>?_)) (λhm=>.left (by rw[if_pos (by have:=(h.1 ha).1.1;omega)]))
   subst hr
   exact .pos (aae (by omega) (by omega)) (.left (by rw[if_neg (by omega)];rfl))
  ·have hxl:x.length<=12:=by rw[hx];split <;> simp only[List.length_cons,List.length_nil] <;> omega
   refine .bind afU (λr hr=>?_)
   subst hr
   exact .pos (aae (by omega) (by omega)) (.left ⟨by rw[if_pos ha,hx],by rw[List.length_append];omega⟩)
 ·obtain⟨hx,hxl⟩:=hx
  refine .bind (abj (by omega) (by omega)) (λr hr=>?_)
  subst hr
  refine .pos (aae (by omega) (by omega)) (.pos (aae (by rw[List.length_append];omega) (by rw[List.length_append];omega)) (.one ?_))
  rw[datE,<-hx,lisE,List.append_assoc]
def cusE(c:aI):List Int:=secE 0 (namE c.Name++c.Bytes)
theorem agG{c:aI}(h:CusP c):(namE c.Name++c.Bytes).length<=1048651:=by
 have:=abd h.1.1
 have:=h.2
 rw[List.length_append];omega
theorem ae2{c:aI}(h:CusP c):(cusE c).length<=1048663:=by
 have:=agG h
 have:=adT (n:=0) (b:=namE c.Name++c.Bytes) (by omega)
 unfold cusE;omega
end Wr
end Go.R4
namespace Go.R4
open Go.Proofs Go.Ev
set_option maxRecDepth 100000
namespace Wr
open Lb
noncomputable def er(f:aj):Int:=if h:f.Code.length<=100000 then(Mt.of_both h).choose else 0
theorem aoQ{f:aj}(h:f.Code.length<=100000):Wp (λk=>bt.f k f.Code) (λr=>r.1=er f)/\Wp (λk=>bE.f k f.Code) (λr=>r.1=er f):=by
 obtain⟨S,_,h1,h2⟩:=(Mt.of_both h).choose_spec
 have e:er f=(Mt.of_both h).choose:=by unfold er;rw[dif_pos h]
 exact⟨h1.mono λr hr=>by rw[hr,e],h2.mono λr hr=>by rw[hr,e]⟩
def acS:List Int->Int
 | []=>0
 | x::r=>if x≠0 then x else acS r
theorem ahl{fs:List aj}(hl:fs.length<=1000){E:aj->Int}{β:Type}{F:Nat->aj->Option (Int×β)}(hF:∀ f∈fs,Wp (λk=>F k f) (λr=>r.1=E f)){B:Nat->Int->Option (Int⊕(Unit⊕Int))}
  (eB:∀ k v,B k v=if v<(fs.length:Int)then((at? fs v).bind λe=>((F k e).bind λ(r,_)=>if r=0 then some (.inl (iadd .i64 v 1))else some (.inr (.inr r))))else some (.inr (.inl ()))) :
  Wp (λk=>loopS (B k) k (0:Int)) (aaJ (λ_=>acS (fs.map E)=0) (λo=>o=acS (fs.map E)/\o≠0)):=by
 refine .loop (λ(n:Nat) (v:Int)=>∃ i:Nat,v=(i:Int)/\i+n=fs.length/\acS ((fs.drop i).map E)=acS (fs.map E)) (λn v hv=>?_) (n:=fs.length) ⟨0,rfl,by omega,by simp⟩
 obtain⟨i,rfl,h1,h2⟩:=hv
 simp only[eB]
 refine .ite (λhi=>?_) (λhi=>.right ?_)
 ·have hi':i<fs.length:=by omega
  rw[List.drop_eq_getElem_cons hi',List.map_cons]at h2
  refine aaM (List.getElem?_eq_getElem hi') (.bind (hF _ (List.getElem_mem hi')) (λr hr=>?_))
  obtain⟨r1,r2⟩:=r
  dsimp only at hr ⊢
  simp only[acS]at h2
  refine .ite (λh0=>.left ⟨n-1,by omega,i+1,by rw[aai (by omega) (by omega)];omega,by omega,?_⟩) (λh0=>.right ?_)
  ·rw[if_neg (by rw[<-hr];simpa using h0)]at h2
   exact h2
  ·rw[if_pos (by rw[<-hr];exact h0)]at h2
   exact⟨by rw[hr,h2],h0⟩
 ·rw[List.drop_of_length_le (by omega)]at h2
  exact h2.symm
def askI(i:ag):Prop:=i.Op=64520∨i.Op=64521
theorem an4{m:an}(h1:m.Funcs.length<=1000)(h2:∀ f∈m.Funcs,f.Code.length<=100000):Wp (λk=>dH.f k m) (Tell (¬∀ f∈m.Funcs,∀ i∈f.Code,¬askI i)):=by
 refine .succ ?_
 simp only[dH.f]
 refine agJ (.succ ?_)
 simp only[bA.f]
 refine aat (.succ ?_)
 simp only[bv.f]
 refine aa1 m.Funcs (by omega) (λf=>∀ i∈f.Code,¬askI i) (λf hf=>.succ ?_)
 simp only[dz.f]
 refine agJ (.succ ?_)
 simp only[bB.f]
 refine aat (.succ ?_)
 simp only[bw.f]
 refine aa1 f.Code (by have:=h2 f hf;omega) (λi=>¬askI i) (λi _=>.succ ?_)
 simp only[cK.f]
 exact .ite (λh=>.one (.yes (by simp only[askI];omega))) (λh=>.one (.dec (by simp only[askI];omega)))
theorem aog{m:an}(h1:m.Funcs.length<=1000)(h2:∀ f∈m.Funcs,f.Code.length<=100000):Wp (λk=>bC.f k m) (Tell (¬∀ f∈m.Funcs,∀ i∈f.Code,¬askI i)):=by
 refine .succ ?_
 simp only[bC.f]
 refine .alt (aaS (O:=Unit) m.Funcs (by omega) (λf=>∀ i∈f.Code,¬askI i) (λ_ _=>True) (B:=λk x=>(at? m.Funcs x).bind λe99=>altB (loopS (bC.b5 k e99) k (0:Int)) (λ_=>(some (.inl (iadd .i64 x 1)))) (λ_=>(some (.inr (.inr ()))))) (λn f hn hf=>aaM hn ?_)) (λ_ q=>.one (.no λp=>p q)) (λo q=>.one (.yes q.1))
 refine .alt (aaS (O:=Unit) f.Code (by have:=h2 f hf;omega) (λi=>¬askI i) (λ_ _=>True) (B:=λk x=>(at? f.Code x).bind λe=>if e.Op=64520 then some (.inr (.inr ()))else if e.Op=64521 then some (.inr (.inr ()))else some (.inl (iadd .i64 x 1))) (λj i hj hi=>aaM hj ?_)) (λ_ q=>.one (.on q)) (λo q=>.one (.off q.1))
 exact .ite (λh=>.one (.off (by simp only[askI];omega))) (λh=>.ite (λh'=>.one (.off (by simp only[askI];omega))) (λh'=>.one (.on (by simp only[askI];omega))))
structure Lens(m:an):Prop where
 t:m.Types.length<=64
 i:m.Imports.length<=256
 f:m.Funcs.length<=256
 me:m.Mems.length<=4
 g:m.Globals.length<=256
 d:m.Datas.length<=16
 e:m.Exports.length<=256
 c:m.Customs.length<=16
theorem aj8{m:an}(hm:Fit m)(h:¬ad6 m):Lens m:=by
 unfold ad6 at h
 have h1:=hm.li
 have h2:=hm.lf
 rw[aai (by omega) (by omega)]at h
 exact⟨by omega,by omega,by omega,by omega,by omega,by omega,by omega,by omega⟩
structure NumM(m:an):Prop where
 g:∀ g∈m.Globals,GloN g
 f:∀ f∈m.Funcs,FunN f
theorem aeD{l:List ae}(h:adD l):∀ x∈l,ExpQ x:=λx hx=>by
 obtain⟨j,hj⟩:=List.getElem?_of_mem hx
 obtain⟨g1,g2,g3,_⟩:=h j x hj
 exact⟨g1.1,g2.1,g2.2⟩
abbrev hd:List Int:=[0,97,115,109,1,0,0,0]
open Classical in
noncomputable def s12(m:an):List Int:=if 0<m.Datas.length ∨ ¬∀ f∈m.Funcs,∀ i∈f.Code,¬askI i then secE 12 (encU m.Datas.length)else[]
noncomputable def modE(m:an):List Int:=
 hd++secE 1 (eachE typE m.Types)++secE 2 (eachE impE m.Imports)++secE 3 (eachE fidE m.Funcs)++secE 5 (eachE memE m.Mems)++secE 6 (eachE gloE m.Globals)++secE 7 (eachE expE m.Exports)++s12 m++secE 10 (eachE funE m.Funcs)++secE 11 (eachE datE m.Datas)++m.Customs.flatMap cusE
structure Sz(m:an):Prop where
 e1:(eachE typE m.Types).length<=4000000000
 e2:(eachE impE m.Imports).length<=4000000000
 e3:(eachE fidE m.Funcs).length<=4000000000
 e5:(eachE memE m.Mems).length<=4000000000
 e6:(eachE gloE m.Globals).length<=4000000000
 e7:(eachE expE m.Exports).length<=4000000000
 e10:(eachE funE m.Funcs).length<=4000000000
 e11:(eachE datE m.Datas).length<=4000000000
 c:∀ n,((m.Customs.take n).flatMap cusE).length<=4000000000
 x12:(s12 m).length<=23
theorem aoC{m:an}(hl:Lens m)(h:adz m)(hn:NumM m):Sz m:=by
 obtain⟨l1,l2,l3,l4,l5,l6,l7,l8⟩:=hl
 obtain⟨⟨h1,h2,h3,h4,h5⟩,h6,h7,h8⟩:=h
 have a1:=abm (g:=typE) (l:=m.Types) (by omega) λx hx=>adJ (h1 x hx)
 have a2:=abm (g:=impE) (l:=m.Imports) (by omega) λx hx=>adU (h2 x hx)
 have a3:=abm (g:=fidE) (l:=m.Funcs) (by omega) λx hx=>acF (h3 x hx)
 have a5:=abm (g:=memE) (l:=m.Mems) (by omega) λx hx=>adM (h4 x hx)
 have a6:=abm (l:=m.Globals) (by omega) λx _=>adG x
 have a7:=abm (g:=expE) (l:=m.Exports) (by omega) λx hx=>adS (aeD h6 x hx)
 have a10:=abm (g:=funE) (l:=m.Funcs) (by omega) λx hx=>adK (h3 x hx) (hn.f x hx)
 have a11:=abm (g:=datE) (l:=m.Datas) (by omega) λx hx=>acN (h7 x hx)
 refine⟨by omega,by omega,by omega,by omega,by omega,by omega,by omega,by omega,λn=>?_,?_⟩
 ·have:=aax (l:=m.Customs) (g:=cusE) (c:=1048663) (λx hx=>ae2 (h8 x hx)) n
  omega
 ·have:=aag (n:=(m.Datas.length:Int)) (by omega) (by omega)
  have:=adT (n:=12) (b:=encU (m.Datas.length:Int)) (by omega)
  unfold s12
  split
  ·omega
  ·simp
theorem rm2{a b:List Int}(ha:a.length<=50000000000000)(hb:b.length<=50000000000000):aad (a.length+b.length) 1:=aae (by omega) (by omega)
noncomputable def Out(m:an)(r:Int×List Int):Prop:=if acS (m.Funcs.map er)=0 then(if((modE m).length:Int)>1048576 then r=(3,[])else r=(0,modE m))else r=(acS (m.Funcs.map er),[])
theorem Out.eq{m:an}{r s:Int×List Int}(h:Out m r)(k:Out m s):r=s:=by
 unfold Out at h k
 split at h
 ·split at h
  ·rw[if_pos ‹_›,if_pos ‹_›]at k;rw[h,k]
  ·rw[if_pos ‹_›,if_neg ‹_›]at k;rw[h,k]
 ·rw[if_neg ‹_›]at k;rw[h,k]
end Wr
end Go.R4
namespace Go.R4
open Go.Proofs Go.Ev
set_option maxRecDepth 100000
namespace Wr
open Lb
theorem secL{n:Int}{b:List Int}(h:b.length<=4000000000):(secE n b).length<=4000000012:=by
 have:=adT (n:=n) (b:=b) (by omega)
 omega
theorem ai4{m:an}(hm:Fit m)(hn:NumM m){e:Int}(hr:RP m e):Wp (λk=>aM.f k m) (λr=>(e≠0/\r=(e,[]))∨(e=0/\Out m r)):=by
 refine .succ ?_
 simp only[aM.f]
 refine .bind (ahr m hm) (λr0 hr0=>?_)
 have:=hr0.eq hr
 subst this
 refine .ite (λh0=>?_) (λh0=>.one (.inl ⟨h0,rfl⟩))
 have ok:¬ad6 m/\adz m:=by
  rcases hr with⟨_,q⟩ | ⟨a,b,_⟩ | ⟨_,_,q⟩
  ·omega
  ·exact⟨a,b⟩
  ·omega
 have L:=aj8 hm ok.1
 have S:=aoC L ok.2 hn
 obtain⟨⟨h1,h2,h3,h4,h5⟩,h6,h7,h8⟩:=ok.2
 have hc:∀ f∈m.Funcs,f.Code.length<=100000:=λf hf=>by have:=(h3 f hf).2.2.1;omega
 have lf:=L.f
 refine .alt (ahl (by omega) (E:=er) (F:=λk f=>bt.f k f.Code) (λf hf=>(aoQ (hc f hf)).1) (λk v=>rfl)) (λ_ hz=>?_) (λo ho=>.one (.inr ⟨h0,?_⟩))
 rotate_left
 ·unfold Out
  rw[if_neg (by rw[<-ho.1];exact ho.2),ho.1]
 have b1:=secL (n:=1) S.e1
 have b2:=secL (n:=2) S.e2
 have b3:=secL (n:=3) S.e3
 have b5:=secL (n:=5) S.e5
 have b6:=secL (n:=6) S.e6
 have b7:=secL (n:=7) S.e7
 have b10:=secL (n:=10) S.e10
 have b11:=secL (n:=11) S.e11
 have x12:=S.x12
 refine .bind (.succ (by simp only[bO.f];exact ab1 (g:=typE) 39 (by have:=L.t;omega) (λx hx=>adJ (h1 x hx)) (by omega) (λx hx=>anh (h1 x hx)) (λk x h=>rfl))) (λr hr=>?_)
 subst hr
 refine .bind (abA (by have:=S.e1;omega)) (λr hr=>?_)
 subst hr
 refine .pos (rm2 (a:=hd) (by decide) (by omega)) ?_
 refine .bind (.succ (by simp only[bK.f];exact ab1 (g:=impE) 162 (by have:=L.i;omega) (λx hx=>adU (h2 x hx)) (by omega) (λx hx=>aob (h2 x hx)) (λk x h=>rfl))) (λr hr=>?_)
 subst hr
 refine .bind (abA (by have:=S.e2;omega)) (λr hr=>?_)
 subst hr
 refine .pos (rm2 (by simp only[List.length_append,List.length_cons,List.length_nil];omega) (by omega)) ?_
 refine .bind (.succ (by simp only[bJ.f];exact ab1 (g:=fidE) 11 (by omega) (λx hx=>acF (h3 x hx)) (by omega) (λx hx=>anR (h3 x hx)) (λk x h=>rfl))) (λr hr=>?_)
 subst hr
 refine .bind (abA (by have:=S.e3;omega)) (λr hr=>?_)
 subst hr
 refine .pos (rm2 (by simp only[List.length_append,List.length_cons,List.length_nil];omega) (by omega)) ?_
 refine .bind (.succ (by simp only[bR.f];exact ab1 (g:=memE) 23 (by have:=L.me;omega) (λx hx=>adM (h4 x hx)) (by omega) (λx hx=>aou (h4 x hx)) (λk x h=>rfl))) (λr hr=>?_)
 subst hr
 refine .bind (abA (by have:=S.e5;omega)) (λr hr=>?_)
 subst hr
 refine .pos (rm2 (by simp only[List.length_append,List.length_cons,List.length_nil];omega) (by omega)) ?_
 refine .bind (.succ (by simp only[bP.f];exact ab1 (g:=gloE) 14 (by have:=L.g;omega) (λx _=>adG x) (by omega) (λx hx=>ang (h5 x hx) (hn.g x hx)) (λk x h=>rfl))) (λr hr=>?_)
 subst hr
 refine .bind (abA (by have:=S.e6;omega)) (λr hr=>?_)
 subst hr
 refine .pos (rm2 (by simp only[List.length_append,List.length_cons,List.length_nil];omega) (by omega)) ?_
 refine .bind (.succ (by simp only[bI.f];exact ab1 (g:=expE) 87 (by have:=L.e;omega) (λx hx=>adS (aeD h6 x hx)) (by omega) (λx hx=>an5 (aeD h6 x hx)) (λk x h=>rfl))) (λr hr=>?_)
 subst hr
 refine .bind (abA (by have:=S.e7;omega)) (λr hr=>?_)
 subst hr
 refine .pos (rm2 (by simp only[List.length_append,List.length_cons,List.length_nil];omega) (by omega)) ?_
 generalize hA:((((((hd++secE 1 (eachE typE m.Types))++secE 2 (eachE impE m.Imports))++secE 3 (eachE fidE m.Funcs))++secE 5 (eachE memE m.Mems))++secE 6 (eachE gloE m.Globals))++secE 7 (eachE expE m.Exports))=A
 have lA:A.length<=24000000100/\8<=A.length:=by rw[<-hA];simp only[List.length_append,List.length_cons,List.length_nil];omega
 have ld:=L.d
 refine .seg (Q:=(· = A++s12 m)) ?_ (λq hq=>?_)
 ·have u:=aag (n:=(m.Datas.length:Int)) (by omega) (by omega)
  have sl:=adT (n:=12) (b:=encU (m.Datas.length:Int)) (by omega)
  refine .ite (λhd=>.bind (abu (by omega) (by omega)) (λr hr=>?_)) (λhd=>.bind (an4 (by omega) hc) (λr hr=>.tif hr (λha=>.bind (abu (by omega) (by omega)) (λr hr=>?_)) (λha=>.left ?_)))
  ·subst hr
   refine .bind (abA (by omega)) (λr hr=>?_)
   subst hr
   exact .pos (rm2 (by omega) (by omega)) (.left (by unfold s12;rw[if_pos (.inl (by omega))]))
  ·subst hr
   refine .bind (abA (by omega)) (λr hr=>?_)
   subst hr
   exact .pos (rm2 (by omega) (by omega)) (.left (by unfold s12;rw[if_pos (.inr ha)]))
  ·unfold s12;rw[if_neg (λq=>q.elim (λq=>by omega) ha),List.append_nil]
 subst hq
 refine .bind (.succ (by simp only[bc.f];exact ab1 (g:=funE) 13766011 (by omega) (λx hx=>adK (h3 x hx) (hn.f x hx)) (by omega) (λx hx=>aok (h3 x hx) (hn.f x hx)) (λk x h=>rfl))) (λr hr=>?_)
 subst hr
 refine .bind (abA (by have:=S.e10;omega)) (λr hr=>?_)
 subst hr
 refine .pos (rm2 (by simp only[List.length_append];omega) (by omega)) ?_
 refine .bind (.succ (by simp only[bQ.f];exact ab1 (g:=datE) 1048620 (by omega) (λx hx=>acN (h7 x hx)) (by omega) (λx hx=>anO (h7 x hx)) (λk x h=>rfl))) (λr hr=>?_)
 subst hr
 refine .bind (abA (by have:=S.e11;omega)) (λr hr=>?_)
 subst hr
 refine .pos (rm2 (by simp only[List.length_append];omega) (by omega)) ?_
 generalize hB:((A++s12 m)++secE 10 (eachE funE m.Funcs))++secE 11 (eachE datE m.Datas)=B
 have lB:B.length<=33000000200/\8<=B.length:=by rw[<-hB];simp only[List.length_append];omega
 have lc:=L.c
 refine .bind (aaI (l:=m.Customs) (by omega) (g:=cusE) (λn e hn he hm=>?_) (λh=>?_)) (λr hr=>?_)
 ·have t:=S.c n
  have c1:=agG (h8 e hm)
  have c2:=ae2 (h8 e hm)
  rw[List.length_append]at c1
  simp only[aM.b23]
  refine .pos (by omega) (aaM he (.bind (acK (h8 e hm).1.1) (λr hr=>?_)))
  subst hr
  refine .pos (rm2 (by omega) (by omega)) (.bind (abA (by rw[List.length_append];omega)) (λr hr=>?_))
  have hr':r=cusE e:=hr
  subst hr'
  exact .pos (rm2 (by simp only[List.length_append];omega) (by omega)) (.one rfl)
 ·simp only[aM.b23]
  exact .neg (by omega) (.one rfl)
 have er:r=modE m:=by rw[hr,<-hB,<-hA,modE]
 have l8:8<=(modE m).length:=by rw[<-er,hr,List.length_append];omega
 rw[er]
 refine .ite (λhb=>.one (.inr ⟨h0,?_⟩)) (λhb=>.bind (Q:=(· = (modE m).length)) (.succ ?_) (λr hr=>?_))
 ·unfold Out;rw[if_pos hz,if_pos hb]
 ·simp only[eF.f]
  exact .pos ⟨by omega,by omega,by omega,by omega,by omega,by omega,by omega⟩ (.one (by omega))
 ·subst hr
  refine .pos (Nat.le_refl _) (.one (.inr ⟨h0,?_⟩))
  unfold Out;rw[if_pos hz,if_neg hb,List.take_length]
end Wr
end Go.R4
namespace Go.R4
open Go.Proofs Go.Ev
set_option maxRecDepth 100000
namespace Wr
open Lb
theorem rm3{n b:Nat}(ha:n<=50000000000000)(hb:b<=50000000000000):aad (n+b) 1:=aae (by omega) (by omega)
theorem abW{α:Type}{g:α->List Int}(c:Nat){l:List α}(hl:l.length<=1000)(hc:∀ x∈l,(g x).length<=c)(hC:c<=10000000000){h0:List Int}(hh:h0.length<=40000000000){B:Nat->(Int×List Int)->Option ((Int×List Int)⊕(List Int))}{G:Nat->Int->List Int->α->Option ((Int×List Int)⊕(List Int))}
  (eB:∀ k x h,B k (x,h)=if x<(l.length:Int)then((at? l x).bind λe=>G k x h e)else some (.inr h))
  (hG:∀ e∈l,∀ (x:Int) (h:List Int),h.length<=11000000000000->Wp (λk=>G k x h e) (· = .inl (iadd .i64 x 1,h++g e))):Wp (λk=>loopS (B k) k ((0:Int),h0)) (· = h0++l.flatMap g):=by
 have cl:c*l.length<=10000000000*1000:=Nat.mul_le_mul hC hl
 refine aaI (l:=l) (by omega) (g:=g) (λn e hn he hm=>?_) (λh=>?_)
 ·have:=aax hc n
  simp only[eB]
  exact .pos (by omega) (aaM he (hG e hm _ _ (by simp only[List.length_append];omega)))
 ·simp only[eB]
  exact .neg (by omega) (.one rfl)
noncomputable def behM(m:an):List Int:=secE 6 (eachE gloE m.Globals)++secE 7 (eachE expE m.Exports)++s12 m++secE 10 (eachE funE m.Funcs)++secE 11 (eachE datE m.Datas)++m.Customs.flatMap cusE
theorem ah6{m:an}(L:Lens m)(hR:adz m)(hn:NumM m):Wp (λk=>aN.f k m) (· = behM m):=by
 have S:=aoC L hR hn
 obtain⟨⟨h1,h2,h3,h4,h5⟩,h6,h7,h8⟩:=hR
 have hc:∀ f∈m.Funcs,f.Code.length<=100000:=λf hf=>by have:=(h3 f hf).2.2.1;omega
 have lf:=L.f
 have ld:=L.d
 have lc:=L.c
 have le:=L.e
 have lg:=L.g
 have b6:=secL (n:=6) S.e6
 have b7:=secL (n:=7) S.e7
 have b10:=secL (n:=10) S.e10
 have b11:=secL (n:=11) S.e11
 have x12:=S.x12
 refine .succ ?_
 simp only[aN.f]
 refine .bind (abW (g:=gloE) 14 (l:=m.Globals) (by omega) (λx _=>adG x) (by omega) (by simp) (λk x h=>rfl) (λe he x h hh=>?_)) (λr hr=>?_)
 ·have l1:=aci e.fType e.Init
  refine .seg (Q:=(· = varE e)) (.ite (λh=>.left (by rw[varE,if_pos h])) (λh=>.left (by rw[varE,if_neg h]))) (λv hv=>?_)
  subst hv
  refine .pos (rm3 (by omega) (by omega)) (.bind afU (λr hr=>?_))
  subst hr
  exact .pos (rm3 (by simp only[List.length_append,List.length_cons,List.length_nil];omega) (by omega)) (.one (by rw[List.append_assoc];rfl))
 subst hr
 rw[List.nil_append]
 refine .bind (ab9 (g:=gloE) (by omega) (by omega) rfl (by have:=aaG (l:=m.Globals) (λx _=>adG x);omega)) (λr hr=>?_)
 subst hr
 refine .pos (aae (by omega) (by omega)) ?_
 refine .bind (abW (g:=expE) 87 (l:=m.Exports) (by omega) (λx hx=>adS (aeD h6 x hx)) (by omega) (by simp) (λk x h=>rfl) (λe he x h hh=>?_)) (λr hr=>?_)
 ·have q:=aeD h6 e he
  have l1:=abd q.1
  have l2:=aag q.2.1 (by have:=q.2.2;omega)
  refine .bind (ac6 q.1) (λr hr=>?_)
  subst hr
  refine .pos (rm3 (by omega) (by omega)) (.pos (rm3 (by simp only[List.length_append];omega) (by omega)) (.bind (abj q.2.1 (by have:=q.2.2;omega)) (λr hr=>?_)))
  subst hr
  exact .pos (rm3 (by simp only[List.length_append,List.length_cons,List.length_nil];omega) (by omega)) (.one (by simp only[expE,List.append_assoc];rfl))
 subst hr
 rw[List.nil_append]
 refine .bind (ab9 (g:=expE) (by omega) (by omega) rfl (by have:=aaG (g:=expE) (l:=m.Exports) (λx hx=>adS (aeD h6 x hx));omega)) (λr hr=>?_)
 subst hr
 refine .pos (rm3 (by omega) (by omega)) ?_
 generalize hA:secE 6 (eachE gloE m.Globals)++secE 7 (eachE expE m.Exports)=A
 have lA:A.length<=8000000024:=by rw[<-hA];simp only[List.length_append];omega
 refine .seg (Q:=(· = A++s12 m)) ?_ (λq hq=>?_)
 ·have u:=aag (n:=(m.Datas.length:Int)) (by omega) (by omega)
  have up:=afq (m.Datas.length:Int)
  refine .seg (Q:=Tell (0<m.Datas.length ∨ ¬∀ f∈m.Funcs,∀ i∈f.Code,¬askI i)) ?_ (λx hx=>.tif hx (λh=>.bind (abj (by omega) (by omega)) (λr hr=>?_)) (λh=>.left ?_))
  ·exact .ite (λh=>.left (.yes (.inl (by omega)))) (λh=>.bind (aog (by omega) hc) (λr hr=>.left (hr.iff ⟨.inr,λq=>q.elim (λq=>by omega) id⟩)))
  ·subst hr
   have u2:=aag (n:=((encU (m.Datas.length:Int)).length:Int)) (by omega) (by omega)
   refine .pos (rm3 (by omega) (by omega)) (.bind (abj (by omega) (by omega)) (λr hr=>?_))
   subst hr
   refine .pos (rm3 (by simp only[List.length_append,List.length_cons,List.length_nil];omega) (by omega)) (.pos (rm3 (by simp only[List.length_append,List.length_cons,List.length_nil];omega) (by omega)) (.left ?_))
   unfold s12
   rw[if_pos h,secE,if_neg (by omega),lisE]
   simp only[List.append_assoc]
   rfl
  ·unfold s12;rw[if_neg h,List.append_nil]
 subst hq
 refine .bind (abW (g:=funE) 13766011 (l:=m.Funcs) (by omega) (λx hx=>adK (h3 x hx) (hn.f x hx)) (by omega) (by simp) (λk x h=>rfl) (λe he x h hh=>?_)) (λr hr=>?_)
 ·have hb:=aeS (h3 e he) (hn.f e he)
  have hb2:=hb
  rw[List.length_append]at hb2
  have l1:=aag (n:=((locE e.Locals++codE e.Code).length:Int)) (by omega) (by omega)
  refine .bind (ah9 (h3 e he).2.1.1) (λr hr=>.bind (alj (ajk (h3 e he) (hn.f e he))) (λs hs=>?_))
  subst hr hs
  refine .pos (rm3 (by omega) (by omega)) (.bind (abj (by omega) (by omega)) (λr hr=>?_))
  subst hr
  exact .pos (rm3 (by omega) (by omega)) (.pos (rm3 (by simp only[List.length_append]at *;omega) (by omega)) (.one (by simp only[funE,lisE,List.append_assoc])))
 subst hr
 rw[List.nil_append]
 refine .bind (ab9 (g:=funE) (by omega) (by omega) rfl (by have:=aaG (g:=funE) (l:=m.Funcs) (λx hx=>adK (h3 x hx) (hn.f x hx));omega)) (λr hr=>?_)
 subst hr
 refine .pos (rm3 (by simp only[List.length_append];omega) (by omega)) ?_
 refine .bind (abW (g:=datE) 1048620 (l:=m.Datas) (by omega) (λx hx=>acN (h7 x hx)) (by omega) (by simp) (λk x h=>rfl) (λe he x h hh=>?_)) (λr hr=>?_)
 ·have l1:=acN (h7 e he)
  refine .bind (anf (h7 e he)) (λr hr=>?_)
  subst hr
  exact .pos (rm3 (by omega) (by omega)) (.one rfl)
 subst hr
 rw[List.nil_append]
 refine .bind (ab9 (g:=datE) (by omega) (by omega) rfl (by have:=aaG (g:=datE) (l:=m.Datas) (λx hx=>acN (h7 x hx));omega)) (λr hr=>?_)
 subst hr
 refine .pos (rm3 (by simp only[List.length_append];omega) (by omega)) ?_
 refine .bind (abW (g:=cusE) 1048663 (l:=m.Customs) (by omega) (λx hx=>ae2 (h8 x hx)) (by omega) (by simp only[List.length_append];omega) (λk x h=>rfl) (λe he x h hh=>?_)) (λr hr=>.one ?_)
 ·have c1:=agG (h8 e he)
  have c2:=c1
  rw[List.length_append]at c2
  have l0:=afq (e.Name.size:Int)
  have l1:=aag (n:=((namE e.Name++e.Bytes).length:Int)) (by omega) (by omega)
  refine .bind (ac6 (h8 e he).1.1) (λr hr=>?_)
  subst hr
  refine .pos (rm3 (by omega) (by omega)) (.pos (rm3 (by omega) (by omega)) (.bind (abj (by omega) (by omega)) (λr hr=>?_)))
  subst hr
  refine .pos (rm3 (by simp only[List.length_append,List.length_cons,List.length_nil];omega) (by omega)) (.pos (rm3 (by simp only[List.length_append,List.length_cons,List.length_nil]at *;omega) (by omega)) (.one ?_))
  rw[cusE,secE,if_neg (by simp only[namE,List.length_append];omega),lisE]
  simp only[List.append_assoc]
  rfl
 ·rw[hr,behM,hA]
theorem agB{m:an}(hl:m.Funcs.length<=1000)(hc:∀ f∈m.Funcs,f.Code.length<=100000):Wp (λk=>cp.f k m) (· = acS (m.Funcs.map er)):=by
 refine .succ ?_
 simp only[cp.f]
 exact .alt (ahl hl (E:=er) (F:=λk f=>bE.f k f.Code) (λf hf=>(aoQ (hc f hf)).2) (λk v=>rfl)) (λ_ h=>.one h.symm) (λo h=>.one h.1)
theorem ajq{m:an}(hm:Fit m)(hn:NumM m){e:Int}(hr:RP m e):Wp (λk=>be.f k m) (λr=>(e≠0/\r=(e,[]))∨(e=0/\Out m r)):=by
 refine .succ ?_
 simp only[be.f]
 refine .bind (akq m hm) (λr0 hr0=>?_)
 have:=hr0.eq hr
 subst this
 refine .ite (λh0=>?_) (λh0=>.one (.inl ⟨h0,rfl⟩))
 have ok:¬ad6 m/\adz m:=by
  rcases hr with⟨_,q⟩ | ⟨a,b,_⟩ | ⟨_,_,q⟩
  ·omega
  ·exact⟨a,b⟩
  ·omega
 have L:=aj8 hm ok.1
 have S:=aoC L ok.2 hn
 have hRP:=ok.2
 obtain⟨⟨h1,h2,h3,h4,h5⟩,h6,h7,h8⟩:=ok.2
 have hc:∀ f∈m.Funcs,f.Code.length<=100000:=λf hf=>by have:=(h3 f hf).2.2.1;omega
 have lf:=L.f
 have lt:=L.t
 have li:=L.i
 have lm:=L.me
 refine .bind (agB (by omega) hc) (λr hr=>?_)
 subst hr
 refine .ite (λhz=>?_) (λhz=>.one (.inr ⟨h0,by unfold Out;rw[if_neg hz]⟩))
 have b1:=secL (n:=1) S.e1
 have b2:=secL (n:=2) S.e2
 have b3:=secL (n:=3) S.e3
 have b5:=secL (n:=5) S.e5
 refine .bind (abW (g:=typE) 39 (l:=m.Types) (by omega) (λx hx=>adJ (h1 x hx)) (by omega) (by simp) (λk x h=>rfl) (λe he x h hh=>?_)) (λr hr=>?_)
 ·have q1:=(h1 e he).1.1
  have q2:=(h1 e he).2.1
  have l1:=acg (l:=e.Params) (by omega)
  have l2:=acg (l:=e.Results) (by omega)
  refine .pos (rm3 (by omega) (by omega)) (.bind (afV (by omega)) (λr hr=>?_))
  subst hr
  refine .pos (rm3 (by simp only[List.length_append,List.length_cons,List.length_nil];omega) (by omega)) (.bind (afV (by omega)) (λr hr=>?_))
  subst hr
  exact .pos (rm3 (by simp only[List.length_append,List.length_cons,List.length_nil];omega) (by omega)) (.one (by simp only[typE,List.append_assoc];rfl))
 subst hr
 rw[List.nil_append]
 refine .bind (ab9 (g:=typE) (by omega) (by omega) rfl (by have:=aaG (g:=typE) (l:=m.Types) (λx hx=>adJ (h1 x hx));omega)) (λr hr=>?_)
 subst hr
 refine .pos (rm2 (a:=hd) (by decide) (by omega)) ?_
 refine .bind (abW (g:=impE) 162 (l:=m.Imports) (by omega) (λx hx=>adU (h2 x hx)) (by omega) (by simp) (λk x h=>rfl) (λe he x h hh=>?_)) (λr hr=>?_)
 ·obtain⟨q1,q2,q3,q4⟩:=h2 e he
  have l1:=abd q1.1
  have l2:=abd q2.1
  have l3:=aag q3 (by omega)
  refine .bind (ac6 q1.1) (λr hr=>?_)
  subst hr
  refine .pos (rm3 (by omega) (by omega)) (.bind (ac6 q2.1) (λr hr=>?_))
  subst hr
  refine .pos (rm3 (by simp only[List.length_append];omega) (by omega)) (.pos (rm3 (by simp only[List.length_append];omega) (by omega)) (.bind (abj q3 (by omega)) (λr hr=>?_)))
  subst hr
  exact .pos (rm3 (by simp only[List.length_append,List.length_cons,List.length_nil];omega) (by omega)) (.one (by simp only[impE,List.append_assoc];rfl))
 subst hr
 rw[List.nil_append]
 refine .bind (ab9 (g:=impE) (by omega) (by omega) rfl (by have:=aaG (g:=impE) (l:=m.Imports) (λx hx=>adU (h2 x hx));omega)) (λr hr=>?_)
 subst hr
 refine .pos (rm3 (by simp only[List.length_append,List.length_cons,List.length_nil];omega) (by omega)) ?_
 refine .bind (abW (g:=fidE) 11 (l:=m.Funcs) (by omega) (λx hx=>acF (h3 x hx)) (by omega) (by simp) (λk x h=>rfl) (λe he x h hh=>?_)) (λr hr=>?_)
 ·have l1:=acF (h3 e he)
  refine .bind (abj (h3 e he).1.1 (by have:=(h3 e he).1.2;omega)) (λr hr=>?_)
  have hr':r=fidE e:=hr
  subst hr'
  exact .pos (rm3 (by omega) (by omega)) (.one rfl)
 subst hr
 rw[List.nil_append]
 refine .bind (ab9 (g:=fidE) (by omega) (by omega) rfl (by have:=aaG (g:=fidE) (l:=m.Funcs) (λx hx=>acF (h3 x hx));omega)) (λr hr=>?_)
 subst hr
 refine .pos (rm3 (by simp only[List.length_append,List.length_cons,List.length_nil];omega) (by omega)) ?_
 refine .bind (abW (g:=memE) 23 (l:=m.Mems) (by omega) (λx hx=>adM (h4 x hx)) (by omega) (by simp) (λk x h=>rfl) (λe he x h hh=>?_)) (λr hr=>?_)
 ·obtain⟨q1,q2,q3⟩:=h4 e he
  have l1:=aag (n:=e.Min) q1 (by omega)
  have l2:=aag (n:=e.Max) (by omega) (by omega)
  refine .pos (rm3 (by omega) (by omega)) (.bind (abj q1 (by omega)) (λr hr=>?_))
  subst hr
  refine .pos (rm3 (by simp only[List.length_append,List.length_cons,List.length_nil];omega) (by omega)) (.bind (abj (by omega) (by omega)) (λr hr=>?_))
  subst hr
  exact .pos (rm3 (by simp only[List.length_append,List.length_cons,List.length_nil];omega) (by omega)) (.one (by simp only[memE,List.append_assoc];rfl))
 subst hr
 rw[List.nil_append]
 refine .bind (ab9 (g:=memE) (by omega) (by omega) rfl (by have:=aaG (g:=memE) (l:=m.Mems) (λx hx=>adM (h4 x hx));omega)) (λr hr=>?_)
 subst hr
 refine .pos (rm3 (by simp only[List.length_append,List.length_cons,List.length_nil];omega) (by omega)) ?_
 refine .bind (ah6 L hRP hn) (λr hr=>?_)
 subst hr
 have lb:(behM m).length<=24000000100:=by
  have b6:=secL (n:=6) S.e6
  have b7:=secL (n:=7) S.e7
  have b10:=secL (n:=10) S.e10
  have b11:=secL (n:=11) S.e11
  have x12:=S.x12
  have xc:=S.c m.Customs.length
  rw[List.take_length]at xc
  simp only[behM,List.length_append];omega
 refine .pos (rm3 (by simp only[List.length_append,List.length_cons,List.length_nil];omega) (by omega)) ?_
 have e:((((hd++secE 1 (eachE typE m.Types))++secE 2 (eachE impE m.Imports))++secE 3 (eachE fidE m.Funcs))++secE 5 (eachE memE m.Mems))++behM m=modE m:=by simp only[modE,behM,List.append_assoc]
 rw[e]
 exact .ite (λhb=>.one (.inr ⟨h0,by unfold Out;rw[if_pos hz,if_pos hb]⟩)) (λhb=>.one (.inr ⟨h0,by unfold Out;rw[if_pos hz,if_neg hb]⟩))
theorem ani{m:an}(hm:Fit m)(hn:NumM m):Wp (λk=>ew.f k m) (· = true):=by
 obtain⟨e,he,_⟩:=ahr m hm
 refine .succ ?_
 simp only[ew.f]
 refine .bind (ai4 hm hn he) (λr hr=>.bind (ajq hm hn he) (λs hs=>?_))
 have:r=s:=by
  rcases hr with⟨a,b⟩ | ⟨a,b⟩
  ·rcases hs with⟨c,d⟩ | ⟨c,d⟩
   ·rw[b,d]
   ·exact(a c).elim
  ·rcases hs with⟨c,d⟩ | ⟨c,d⟩
   ·exact(c a).elim
   ·exact b.eq d
 subst this
 exact .pos ((ab8 _ _).2 rfl) (.one (by simp))
end Wr
end Go.R4
