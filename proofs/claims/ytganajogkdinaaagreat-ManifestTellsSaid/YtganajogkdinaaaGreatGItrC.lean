import Derived.Test.YtganajogkdinaaaGreatGItr
import Derived.Test.YtganajogkdinaaaGreatEvItr
set_option linter.all false
namespace Go.R4
open Go.Proofs Go.Ev
set_option maxRecDepth 100000
def regO:Nat->Code->Array Oper
 | id,.region i ops _=>if i=id then ops else #[]
 | id,.seq a b=>regO id a++regO id b
 | id,.cond _ a b=>regO id a++regO id b
 | id,.block _ a=>regO id a
 | id,.loop a=>regO id a
 |_,_=>#[]
noncomputable def ao6:Code:=(Tryz.f220.body).getD .skip
noncomputable def oB(i:Nat):Array Oper:=regO i ao6
theorem al0:Tryz.f220.body=some (.seq (.region 0 (oB 0) false) (.block 0 (.loop (.seq (.seq (.region 1 (oB 1) false) (.cond (.tmp 8) .skip (.exit 0))) (.seq (.block 1 (.seq (.region 3 (oB 3) false) (.cond (.tmp 18) .ret .skip))) (.region 2 (oB 2) false)))))):=by kernel_rfl
abbrev aoy:List A:=[.und,.und,.und,.und,.und,.und,.und,.und,.und,.und,.und,.und,.und,.und,.und]
abbrev sBk(r:A)(i:Int):List A:=.und::r :: .und::A.int .i64 i::aoy
structure SlB(yv v1:Value)(i:Int)(t:Array Value):Prop where
 size:t.size=19
 y:t[0]?=some yv
 v:t[1]?=some v1
 i:t[3]?=some (.int .i64 i)
theorem SlB.sr{Φ:Phi}{yv v1:Value}{i:Int}{t:Array Value}{r:A}(h:SlB yv v1 i t)(hr:AR Φ (λ_=>none) [] r v1):SR Φ (λ_=>none) [] (sBk r i) t:=by
 refine aiA (by simp[h.size]) λj x hx=>?_
 match j with
 | 0=>simp at hx;exact .inl hx.symm
 | 1=>simp at hx;subst hx;exact .inr ⟨_,h.v,hr⟩
 | 2=>simp at hx;exact .inl hx.symm
 | 3=>simp at hx;subst hx;exact .inr ⟨_,h.i,by simp only[AR,CR,FVR]⟩
 | j+4=>
  left
  have hj:j<15:=by
   have:=(List.getElem?_eq_some_iff.1 hx).1
   simp at this;omega
  rcases j with _ |_ |_ |_ |_ |_ |_ |_ |_ |_ |_ |_ |_ |_ |_ | j <;> first | (simp at hx;exact hx.symm) | omega
abbrev refA(els:List (List FV))(cap:Option Nat):A:=.c (.v (.ref [.sl 2 els cap]))
theorem adM{Φ:Phi}{s:List A}{t:Array Value}{i:Nat}{n:Int}(h:SR Φ (λ_=>none) [] s t)(hs:s[i]?=some (A.int .i64 n)):t[i]?=some (.int .i64 n):=by
 obtain⟨v,h1,h2⟩:=h.2 i _ hs
 simp only[AR,CR,FVR]at h2
 rw[h1,h2]
theorem bB0(els:List (List FV))(cap:Option Nat):evOps Tryz.prog noCf (oB 0) (oB 0).toList ⟨.und::refA els cap :: .und :: .und::aoy,[]⟩ =
  some ⟨[.und,refA els cap,.und,A.int .i64 (IntKind.i64.wrap ((els.length:Int)-1)),.c (.v (.sl 2 els cap)),A.int .i64 els.length,A.int .i64 (IntKind.i64.wrap ((els.length:Int)-1)),.und,.und,.und,.und,.und,.und,.und,.und,.und,.und,.und,.und],[]⟩:=by kernel_rfl
theorem bB1(r:A)(i:Int):evOps Tryz.prog noCf (oB 1) (oB 1).toList ⟨sBk r i,[]⟩=some ⟨[.und,r,.und,A.int .i64 i,.und,.und,.und,A.int .i64 i,A.bool (decide (i≥0)),.und,.und,.und,.und,.und,.und,.und,.und,.und,.und],[]⟩:=by kernel_rfl
theorem bB2(r:A)(i:Int):evOps Tryz.prog noCf (oB 2) (oB 2).toList ⟨sBk r i,[]⟩=some ⟨[.und,r,.und,A.int .i64 (IntKind.i64.wrap (i-1)),.und,.und,.und,.und,.und,A.int .i64 i,A.int .i64 (IntKind.i64.wrap (i-1)),.und,.und,.und,.und,.und,.und,.und,.und],[]⟩:=by kernel_rfl
noncomputable abbrev yB(k:Nat):Oper:=(oB 3)[k]!
theorem l3:(oB 3).toList=yB 0::([yB 1,yB 2,yB 3]++([yB 4]++([yB 5]++(yB 6::([yB 7]++[]))))):=by kernel_rfl
theorem m3a(els:List (List FV))(cap:Option Nat)(i:Int):evOps Tryz.prog noCf (oB 3) [yB 1,yB 2,yB 3] ⟨sBk (refA els cap) i,[]⟩ =
  some ⟨[.und,refA els cap,.und,A.int .i64 i,.und,.und,.und,.und,.und,.und,.und,.und,A.int .i64 i,.c (.v (.sl 2 els cap)),A.int .i64 i,.und,.und,.und,.und],[]⟩:=by kernel_rfl
theorem ev1{P:Program}{cf:aai}{ops:Array Oper}{o:Oper}{st:St}{x:A}(hg:o.guard=none)(h:evOp P cf st.s st.h o.op=some (x,st.h)):evOps P cf ops [o] st=some ⟨putA st.s o.dst x,st.h⟩:=by
 simp only[evOps,acf,hg,h]
theorem m3b(els:List (List FV))(cap:Option Nat)(j:Nat){e:List FV}(he:els[j]?=some e):evOps Tryz.prog noCf (oB 3) [yB 4] ⟨[.und,refA els cap,.und,A.int .i64 j,.und,.und,.und,.und,.und,.und,.und,.und,A.int .i64 j,.c (.v (.sl 2 els cap)),A.int .i64 j,.und,.und,.und,.und],[]⟩ =
  some ⟨[.und,refA els cap,.und,A.int .i64 j,.und,.und,.und,.und,.und,.und,.und,.und,A.int .i64 j,.c (.v (.sl 2 els cap)),A.int .i64 j,.c (.v (.ref e)),.und,.und,.und],[]⟩:=by
 have hop:(yB 4).op = .indexAddr 30 (.tmp 13) (.tmp 14):=by kernel_rfl
 have hd:(yB 4).dst=some 15:=by kernel_rfl
 have h1:adH Tryz.prog 30=some 64:=by kernel_rfl
 have h2:szOf Tryz.prog 64=some 2:=by kernel_rfl
 have e2:indexAddrA Tryz.prog 30 (.c (.v (.sl 2 els cap))) (A.int .i64 (j:Int))=some (.c (.v (.ref e))):=by
  simp only[indexAddrA,h1,h2]
  rw[if_pos ⟨trivial,by omega⟩]
  simp only[Int.toNat_natCast,he]
 refine(ev1 (x:=.c (.v (.ref e))) (by kernel_rfl) ?_).trans (by rw[hd];rfl)
 rw[hop]
 show(indexAddrA Tryz.prog 30 (.c (.v (.sl 2 els cap))) (A.int .i64 (j:Int))).map (λa=>(a,([]:Heap)))=_
 rw[e2];rfl
theorem m3c(els:List (List FV))(cap:Option Nat)(i:Int)(x0 x1:FV):evOps Tryz.prog noCf (oB 3) [yB 5] ⟨[.und,refA els cap,.und,A.int .i64 i,.und,.und,.und,.und,.und,.und,.und,.und,A.int .i64 i,.c (.v (.sl 2 els cap)),A.int .i64 i,.c (.v (.ref [x0,x1])),.und,.und,.und],[]⟩ =
  some ⟨[.und,refA els cap,.und,A.int .i64 i,.und,.und,.und,.und,.und,.und,.und,.und,A.int .i64 i,.c (.v (.sl 2 els cap)),A.int .i64 i,.c (.v (.ref [x0,x1])),.agp [x0,x1],.und,.und],[]⟩:=by kernel_rfl
abbrev s17(x y:A):List A:=[.und,.und,.und,.und,.und,.und,.und,.und,.und,.und,.und,.und,.und,.und,.und,.und,.und,x,y]
theorem m3d(b:Bool):evOps Tryz.prog noCf (oB 3) [yB 7] ⟨s17 (A.bool b) .und,[]⟩=some ⟨s17 (A.bool b) (A.bool !b),[]⟩:=by kernel_rfl
theorem aja{els:List (List FV)}{j:Nat}{e:List FV}(hj:j<els.length)(he:els[els.length-1-j]?=some e):(rowsB els)[j]?=some [A.int .i64 ((els.length-1-j:Nat):Int),.agp e]:=by
 unfold rowsB afD
 rw[List.getElem?_map,List.getElem?_reverse (by simpa using hj),List.getElem?_map,List.getElem?_zipIdx]
 simp only[List.length_map,List.length_zipIdx,he,Option.map_some,Nat.zero_add]
theorem hr0{Φ:Phi}{W:World}(h:∀ c arr,Φ c=some arr->∃ ty fz,W.heap[c]?=some (.cells arr ty fz)):HR Φ (λ_=>none) [] W:=
 ⟨h,(λb k inf hl=>by simp[live]at hl),(λb b' k k' inf inf' hl=>by simp[live]at hl),(λc arr h=>nomatch h),(λb kk es inf hl=>by simp[live]at hl)⟩
theorem abe{a:Act}{i:Nat}{v:Value}(h:a.tmps[i]?=some v):a.eval (.tmp i)=v:=by
 simp[Act.eval,Array.getD_eq_getD_getElem?,h]
theorem afC{n:Int}(h0:-9223372036854775808<=n)(h1:n<=9223372036854775807):IntKind.i64.wrap n=n:=by
 simp only[IntKind.wrap,IntKind.bits,IntKind.signed]
 by_cases h:0<=n
 ·have:n % 18446744073709551616=n:=Int.emod_eq_of_lt h (by omega)
  simp[this];omega
 ·have:n % 18446744073709551616=n+18446744073709551616:=by omega
  simp[this];omega
theorem SlB.keep{yv v1:Value}{i:Int}{t t':Array Value}(h:SlB yv v1 i t)(hs:t'.size=t.size)(hk:∀ j:Nat,j=0∨j=1∨j=3->t'[j]?=t[j]?):SlB yv v1 i t':=
 ⟨hs.trans h.size,(hk 0 (.inl rfl)).trans h.y,(hk 1 (.inr (.inl rfl))).trans h.v,(hk 3 (.inr (.inr rfl))).trans h.i⟩
theorem ab3{l:List Oper}{i:Nat}(h:l.all (λo=>!(o.dst == some i))=true):∀ o∈l,o.dst≠some i:=by
 intro o ho e
 have:=List.all_eq_true.1 h o ho
 simp[e]at this
def muB(a:Act):Nat:=match a.tmps[3]? with
 | some (Value.int _ i)=>(i+1).toNat
 |_=>0
theorem aom{els:List (List FV)}{cap:Option Nat}(hN:els.length<=4611686018427387904)(he2:∀ e∈els,e.length=2){Φ0:Phi}{v1:Value}{l:Nat}{w:World}{J:Nat->World->Prop}{Jx:World->Prop}(hv:AR Φ0 (λ_=>none) [] (refA els cap) v1)
  (hJ:∀ i W,J i W->∀ c arr,Φ0 c=some arr->∃ ty fz,W.heap[c]?=some (.cells arr ty fz))
  (hy:∀ i row,(rowsB els)[i]?=some row->∀ W,J i W->∀ args:List Value,ARs Φ0 (λ_=>none) [] row args->∃ fn tmps asg bd,(Instr.yield l args.toArray).run Tryz.prog W = .ok (.round l fn tmps asg bd) W ∧
   ∀ n,RoundIn (WF none) n Tryz.prog l fn tmps asg bd W λe W'=>(e = .returned (.bool true)/\J (i+1) W')∨(e = .returned (.bool false)/\Jx W'))
  (h0:J 0 w) (n:Nat):CallsIn (WF none) n Tryz.prog 220 #[.func (.yield l) #[] #[],v1] w λe W=>∃ v,e = .returned v/\(J (rowsB els).length W∨Jx W):=by
 have hlen:(rowsB els).length=els.length:=by simp[rowsB,afD]
 refine callsIn_of_wp Tryz.func220 al0 trivial ?_
 have hnt:Tryz.f220.ntmps=19:=by kernel_rfl
 have fin:∀ (a:Act) (W:World),a.defers=[]->(J (rowsB els).length W∨Jx W)->bodyPost Tryz.prog Tryz.f220 (λe W=>∃ v,e = .returned v/\(J (rowsB els).length W∨Jx W)) .ret a W:=λa W hd hw=>
  ⟨hd,.tuple #[],by kernel_rfl,_,rfl,hw⟩
 have finN:∀ (a:Act) (W:World),a.defers=[]->(J (rowsB els).length W∨Jx W)->bodyPost Tryz.prog Tryz.f220 (λe W=>∃ v,e = .returned v/\(J (rowsB els).length W∨Jx W)) .normal a W:=λa W hd hw=>
  ⟨hd,.tuple #[],by kernel_rfl,_,rfl,hw⟩
 rw[hnt]
 -- region 0
 have hsz:(#[Value.func (.yield l) #[] #[],v1]++Array.replicate (19-(#[Value.func (.yield l) #[] #[],v1]:Array Value).size) undef).size=19:=by simp
 refine wpIn_seq (wpIn_region_list ?_)
 rw[<-List.append_nil (oB 0).toList]
 refine opsQ (Φ:=Φ0) (ρ:=λ_=>none) (bB0 els cap) (by kernel_rfl) (aiA (by simp) λj x hx=>?_) (hr0 (hJ 0 w h0)) ?_
 ·match j with
  | 0=>simp at hx;exact .inl hx.symm
  | 1=>simp at hx;subst hx;exact .inr ⟨v1,by simp,hv⟩
  | 2=>simp at hx;exact .inl hx.symm
  | 3=>simp at hx;exact .inl hx.symm
  | j+4=>
   left
   have hj:j<15:=by
    have:=(List.getElem?_eq_some_iff.1 hx).1
    simp at this;omega
   rcases j with _ |_ |_ |_ |_ |_ |_ |_ |_ |_ |_ |_ |_ |_ |_ | j <;> first | (simp at hx;exact hx.symm) | omega
 intro a1 sr1 d1 k1
 have hw1:IntKind.i64.wrap ((els.length:Int)-1)=(els.length:Int)-1:=afC (by omega) (by omega)
 have sl1:SlB (.func (.yield l) #[] #[]) v1 ((els.length:Int)-1) a1.tmps:=by
  refine⟨by rw[<-sr1.1];rfl,?_,?_,?_⟩
  ·rw[k1 0 (by decide +kernel)];simp
  ·rw[k1 1 (by decide +kernel)];simp
  ·have:=adM (i:=3) (n:=IntKind.i64.wrap ((els.length:Int)-1)) sr1 rfl
   rw[this,hw1]
 show(Code.block 0 _).wpIn (WF none) n Tryz.prog _ a1 w
 refine wpIn_block (wpIn_loop (λa W=>∃ j:Nat,j<=els.length/\J j W/\a.defers=[]/\SlB (.func (.yield l) #[] #[]) v1 ((els.length:Int)-1-(j:Int)) a.tmps)
  (λa _=>muB a) ⟨0,by omega,h0,d1,by simpa using sl1⟩ ?_)
 rintro a W ⟨j,hj,hjw,hd,sl⟩
 have hm:∀ {b:Act}{i:Int},SlB (.func (.yield l) #[] #[]) v1 i b.tmps->muB b=(i+1).toNat:=λh=>by unfold muB;rw[h.i]
 refine wpIn_seq (wpIn_seq (wpIn_region_list ?_))
 rw[<-List.append_nil (oB 1).toList]
 refine opsQ (Φ:=Φ0) (ρ:=λ_=>none) (bB1 (refA els cap) _) (by kernel_rfl) (sl.sr hv) (hr0 (hJ j W hjw)) ?_
 intro a2 sr2 d2 k2
 have sl2:SlB (.func (.yield l) #[] #[]) v1 ((els.length:Int)-1-(j:Int)) a2.tmps:=by
  refine sl.keep (by rw[<-sr2.1,sl.size];rfl) λq hq=>k2 q (ab3 ?_)
  rcases hq with rfl | rfl | rfl <;> kernel_rfl
 have hc:a2.eval (.tmp 8) = .bool (decide ((els.length:Int)-1-(j:Int)≥0)):=by
  obtain⟨v,g1,g2⟩:=sr2.2 8 _ rfl
  simp only[AR,CR,FVR]at g2
  rw[abe g1,g2]
 refine wpIn_cond hc ?_
 by_cases hlt:j<els.length
 ·rw[decide_eq_true (by omega),if_pos rfl]
  refine wpIn_skip ?_
  show(Code.seq _ _).wpIn (WF none) n Tryz.prog _ a2 W
  have hji:(els.length:Int)-1-(j:Int)=((els.length-1-j:Nat):Int):=by omega
  obtain⟨e,he⟩:∃ e,els[els.length-1-j]?=some e:=⟨_,List.getElem?_eq_getElem (by omega)⟩
  have hel:=he2 e (List.mem_of_getElem? he)
  obtain⟨x0,x1,rfl⟩:∃ x0 x1,e=[x0,x1]:=by
   match e,hel with
   | [x0,x1],_=>exact⟨x0,x1,rfl⟩
  refine wpIn_seq (wpIn_block (wpIn_seq (wpIn_region_list ?_)))
  rw[l3]
  refine amX (x:=.tmp 0) (by kernel_rfl) (by kernel_rfl) ?_
  have hd0:(yB 0).dst=some 11:=by kernel_rfl
  rw[hd0,abe sl2.y]
  have h11:11<a2.tmps.size:=by rw[sl2.size];decide
  obtain⟨a3,ha3⟩:∃ a3,a2.put (some 11) (.func (.yield l) #[] #[])=a3:=⟨_,rfl⟩
  have t3:a3.tmps=a2.tmps.setIfInBounds 11 (.func (.yield l) #[] #[]):=by rw[<-ha3];rfl
  have d3:a3.defers=a2.defers:=by rw[<-ha3];rfl
  have y3:a3.tmps[11]?=some (.func (.yield l) #[] #[]):=by rw[t3];simp[h11]
  have sl3:SlB (.func (.yield l) #[] #[]) v1 ((els.length:Int)-1-(j:Int)) a3.tmps:=by
   refine sl2.keep (by rw[t3];simp) λq hq=>?_
   rw[t3,Array.getElem?_setIfInBounds_ne (by omega)]
  rw[ha3]
  refine opsQ (Φ:=Φ0) (ρ:=λ_=>none) (m3a els cap _) (by kernel_rfl) (sl3.sr hv) (hr0 (hJ j W hjw)) ?_
  intro a4 sr4 d4 k4
  rw[hji]at sr4
  refine opsQ (Φ:=Φ0) (ρ:=λ_=>none) (m3b els cap _ he) (by kernel_rfl) sr4 (hr0 (hJ j W hjw)) ?_
  intro a5 sr5 d5 k5
  refine opsQ (Φ:=Φ0) (ρ:=λ_=>none) (m3c els cap _ x0 x1) (by kernel_rfl) sr5 (hr0 (hJ j W hjw)) ?_
  intro a6 sr6 d6 k6
  have k36:∀ q:Nat,q=0∨q=1∨q=3∨q=11->a6.tmps[q]?=a3.tmps[q]?:=λq hq=>by
   rw[k6 q (ab3 ?_),k5 q (ab3 ?_),k4 q (ab3 ?_)] <;> (rcases hq with rfl | rfl | rfl | rfl <;> kernel_rfl)
  have sl6:SlB (.func (.yield l) #[] #[]) v1 ((els.length:Int)-1-(j:Int)) a6.tmps:=
   sl3.keep (by rw[<-sr6.1,sl3.size];rfl) λq hq=>k36 q (by rcases hq with h | h | h <;> simp[h])
  have hrow:=aja hlt he
  obtain⟨v12,g12,r12⟩:=sr6.2 12 _ rfl
  obtain⟨v16,g16,r16⟩:=sr6.2 16 _ rfl
  refine ajI (g:=.tmp 11) (args:=#[.tmp 12,.tmp 16]) (ts:=#[3,64]) (by kernel_rfl) (by kernel_rfl) (abe ((k36 11 (by simp)).trans y3)) (?_:∃ fn tmps asg bd,_/\_) (R:=λe W'=>(e = .returned (.bool true)/\J (j+1) W')∨(e = .returned (.bool false)/\Jx W')) ?_
  ·have:=hy j _ hrow W hjw [v12,v16] (by simp only[ARs];exact⟨v12,_,rfl,r12,v16,_,rfl,r16,rfl⟩)
   have e:(#[.tmp 12,.tmp 16]:Array Operand).map a6.eval = #[v12,v16]:=by simp[abe g12,abe g16]
   rw[e]
   exact this
  have hd6:(yB 6).dst=some 17:=by kernel_rfl
  rintro e W' he
  obtain⟨b,rfl,hb⟩:∃ b,e = .returned (.bool b)/\((b=true/\J (j+1) W')∨(b=false/\Jx W')):=by
   rcases he with⟨rfl,h⟩ | ⟨rfl,h⟩
   ·exact⟨true,rfl,.inl ⟨rfl,h⟩⟩
   ·exact⟨false,rfl,.inr ⟨rfl,h⟩⟩
  refine⟨_,rfl,?_⟩
  rw[hd6]
  obtain⟨a7,ha7⟩:∃ a7,a6.put (some 17) (.bool b)=a7:=⟨_,rfl⟩
  have t7:a7.tmps=a6.tmps.setIfInBounds 17 (.bool b):=by rw[<-ha7];rfl
  have dd7:a7.defers=[]:=by
   have:a7.defers=a6.defers:=by rw[<-ha7];rfl
   rw[this,d6,d5,d4,d3,d2,hd]
  have z7:a7.tmps.size=19:=by rw[t7];simp[sl6.size]
  have y7:a7.tmps[17]?=some (.bool b):=by rw[t7];simp[sl6.size]
  have sl7:SlB (.func (.yield l) #[] #[]) v1 ((els.length:Int)-1-(j:Int)) a7.tmps:=
   sl6.keep (by rw[t7];simp) λq hq=>by rw[t7,Array.getElem?_setIfInBounds_ne (by omega)]
  rw[ha7]
  refine opsQ (Φ:=λ_=>none) (ρ:=λ_=>none) (m3d b) (by kernel_rfl) (aiA (by simp[z7]) λq x hx=>?_) (hr0 (λ_ _ h=>nomatch h)) ?_
  ·by_cases hq:q=17
   ·subst hq
    simp at hx;subst hx
    exact .inr ⟨_,y7,by simp only[AR,CR,FVR]⟩
   ·left
    have hql:q<19:=by
     have:=(List.getElem?_eq_some_iff.1 hx).1
     simpa using this
    rcases q with _ |_ |_ |_ |_ |_ |_ |_ |_ |_ |_ |_ |_ |_ |_ |_ |_ |_ |_ | q <;> first | (simp at hx;exact hx.symm) | omega
  intro a8 sr8 d8 k8
  have sl8:SlB (.func (.yield l) #[] #[]) v1 ((els.length:Int)-1-(j:Int)) a8.tmps:=
   sl7.keep (by rw[<-sr8.1,z7];rfl) λq hq=>k8 q (ab3 (by rcases hq with rfl | rfl | rfl <;> kernel_rfl))
  have hc8:a8.eval (.tmp 18) = .bool (!b):=by
   obtain⟨v,g1,g2⟩:=sr8.2 18 _ rfl
   simp only[AR,CR,FVR]at g2
   rw[abe g1,g2]
  show(Code.cond _ _ _).wpIn (WF none) n Tryz.prog _ a8 W'
  refine wpIn_cond hc8 ?_
  rcases hb with⟨rfl,hb⟩ | ⟨rfl,hb⟩
  ·rw[if_neg (by simp)]
   refine wpIn_skip ?_
   show(Code.region 2 _ _).wpIn (WF none) n Tryz.prog _ a8 W'
   refine wpIn_region_list ?_
   rw[<-List.append_nil (oB 2).toList]
   refine opsQ (Φ:=Φ0) (ρ:=λ_=>none) (bB2 (refA els cap) _) (by kernel_rfl) (sl8.sr hv) (hr0 (hJ _ W' hb)) ?_
   intro a9 sr9 d9 k9
   have hw:IntKind.i64.wrap ((els.length:Int)-1-(j:Int)-1)=(els.length:Int)-1-((j+1:Nat):Int):=by
    rw[afC (by omega) (by omega)];omega
   have sl9:SlB (.func (.yield l) #[] #[]) v1 ((els.length:Int)-1-((j+1:Nat):Int)) a9.tmps:=by
    refine⟨by rw[<-sr9.1];rfl,(k9 0 (ab3 (by kernel_rfl))).trans sl8.y,(k9 1 (ab3 (by kernel_rfl))).trans sl8.v,?_⟩
    have:=adM (i:=3) (n:=IntKind.i64.wrap ((els.length:Int)-1-(j:Int)-1)) sr9 rfl
    rw[this,hw]
   refine⟨⟨j+1,hlt,hb,by rw[d9,d8,dd7],sl9⟩,?_⟩
   rw[hm sl9,hm sl]
   omega
  ·rw[if_pos (show(!false)=true from rfl)]
   exact wpIn_ret (fin _ _ (by rw[d8,dd7]) (.inr hb))
 ·rw[decide_eq_false (by omega),if_neg (by simp)]
  refine wpIn_exit ?_
  have:j=els.length:=by omega
  exact finN _ _ (by rw[d2,hd]) (.inl (by rw[hlen,<-this];exact hjw))
end Go.R4
namespace Go.R4
open Go.Proofs Go.Ev
set_option maxRecDepth 100000
noncomputable def ao4:Code:=(Tryz.f317.body).getD .skip
noncomputable def oC(i:Nat):Array Oper:=regO i ao4
theorem alg:Tryz.f317.body=some (.seq (.region 0 (oC 0) false) (.block 0 (.loop (.seq (.seq (.region 1 (oC 1) false) (.cond (.tmp 9) .skip (.exit 0))) (.seq (.block 1 (.seq (.region 3 (oC 3) true) (.seq (.region 4 (oC 4) false) (.cond (.tmp 30) .ret .skip)))) (.region 2 (oC 2) false)))))):=by kernel_rfl
abbrev aev:List A:=[.und,.und,.und,.und,.und,.und,.und,.und,.und,.und,.und,.und,.und,.und,.und,.und,.und,.und,.und,.und,.und,.und,.und,.und,.und]
abbrev sCk(r rn:A)(i:Int)(e:A):List A:=.und::r::rn :: .und::A.int .i64 i::e::aev
abbrev refN(n:Int):A:=.c (.v (.ref [.int .i64 n]))
structure SlC(yv v1 v2:Value)(i:Int)(t:Array Value):Prop where
 size:t.size=31
 y:t[0]?=some yv
 v:t[1]?=some v1
 n:t[2]?=some v2
 i:t[4]?=some (.int .i64 i)
theorem SlC.keep{yv v1 v2:Value}{i:Int}{t t':Array Value}(h:SlC yv v1 v2 i t)(hs:t'.size=t.size)(hk:∀ j:Nat,j=0∨j=1∨j=2∨j=4->t'[j]?=t[j]?):SlC yv v1 v2 i t':=
 ⟨hs.trans h.size,(hk 0 (.inl rfl)).trans h.y,(hk 1 (.inr (.inl rfl))).trans h.v,(hk 2 (.inr (.inr (.inl rfl)))).trans h.n,(hk 4 (.inr (.inr (.inr rfl)))).trans h.i⟩
theorem agu{j:Nat}{x:A}(hx:aev[j]?=some x):x = .und:=by
 have hj:j<25:=by
  have:=(List.getElem?_eq_some_iff.1 hx).1
  simpa using this
 rcases j with _ |_ |_ |_ |_ |_ |_ |_ |_ |_ |_ |_ |_ |_ |_ |_ |_ |_ |_ |_ |_ |_ |_ |_ |_ | j <;> first | (simp at hx;exact hx.symm) | omega
theorem SlC.sr{Φ:Phi}{yv v1 v2:Value}{i:Int}{t:Array Value}{r rn e:A}(h:SlC yv v1 v2 i t)(hr:AR Φ (λ_=>none) [] r v1)(hn:AR Φ (λ_=>none) [] rn v2)(he:e = .und ∨ ∃ v,t[5]?=some v/\AR Φ (λ_=>none) [] e v):SR Φ (λ_=>none) [] (sCk r rn i e) t:=by
 refine aiA (by simp[h.size]) λj x hx=>?_
 match j with
 | 0=>simp at hx;exact .inl hx.symm
 | 1=>simp at hx;subst hx;exact .inr ⟨_,h.v,hr⟩
 | 2=>simp at hx;subst hx;exact .inr ⟨_,h.n,hn⟩
 | 3=>simp at hx;exact .inl hx.symm
 | 4=>simp at hx;subst hx;exact .inr ⟨_,h.i,by simp only[AR,CR,FVR]⟩
 | 5=>simp at hx;subst hx;exact he
 | j+6=>exact .inl (agu (j:=j) (by simpa using hx))
theorem bC0(r rn:A):evOps Tryz.prog noCf (oC 0) (oC 0).toList ⟨.und::r::rn :: .und :: .und :: .und::aev,[]⟩=some ⟨sCk r rn 0 .und,[]⟩:=by kernel_rfl
theorem bC1(els:List (List FV))(cap:Option Nat)(n i:Int):evOps Tryz.prog noCf (oC 1) (oC 1).toList ⟨sCk (refA els cap) (refN n) i .und,[]⟩ =
  some ⟨[.und,refA els cap,refN n,.und,A.int .i64 i,.und,A.int .i64 i,.c (.v (.sl 2 els cap)),A.int .i64 els.length,A.bool (decide (i<(els.length:Int)))]++aev.drop 4,[]⟩:=by kernel_rfl
theorem bC2(els:List (List FV))(cap:Option Nat)(n i:Int):evOps Tryz.prog noCf (oC 2) (oC 2).toList ⟨sCk (refA els cap) (refN n) i .und,[]⟩ =
  some ⟨[.und,refA els cap,refN n,.und,A.int .i64 (IntKind.i64.wrap (i+n)),.und,.und,.und,.und,.und,A.int .i64 i,A.int .i64 n,A.int .i64 (IntKind.i64.wrap (i+n))]++aev.drop 7,[]⟩:=by kernel_rfl
abbrev iffN(m n:Int):Int:=if m<n then m else n
theorem bC3(els:List (List FV))(cap:Option Nat)(n:Int)(a:Nat)(ha:a<=els.length):evDraw Tryz.prog noCf (oC 3) ⟨sCk (refA els cap) (refN n) a .und,[]⟩ =
  some ⟨[.und,refA els cap,refN n,.und,A.int .i64 a,A.int .i64 (iffN ((els.take els.length).drop (a:Int).toNat).length n),.und,.und,.und,.und,.und,.und,.und,A.int .i64 n,.c (.v (.sl 2 els cap)),A.int .i64 a,
   .c (.v (.sl 2 ((els.take els.length).drop (a:Int).toNat) (cap.map (· - (a:Int).toNat)))),A.int .i64 ((els.take els.length).drop (a:Int).toNat).length,A.int .i64 (iffN ((els.take els.length).drop (a:Int).toNat).length n)]++aev.drop 13,[]⟩:=by
 obtain⟨stF,hF⟩:∃ stF:St,(⟨[.und,refA els cap,refN n,.und,A.int .i64 a,A.int .i64 (iffN ((els.take els.length).drop (a:Int).toNat).length n),.und,.und,.und,.und,.und,.und,.und,A.int .i64 n,.c (.v (.sl 2 els cap)),A.int .i64 a,
   .c (.v (.sl 2 ((els.take els.length).drop (a:Int).toNat) (cap.map (· - (a:Int).toNat)))),A.int .i64 ((els.take els.length).drop (a:Int).toNat).length,A.int .i64 (iffN ((els.take els.length).drop (a:Int).toNat).length n)]++aev.drop 13,[]⟩:St)=stF:=⟨_,rfl⟩
 have hs:adA Tryz.prog noCf 3 (oC 3) (ancs (oC 3)) (afb Tryz.prog (oC 3) (ancs (oC 3)) (oC 3).size 0) ⟨sCk (refA els cap) (refN n) a .und,[]⟩ []
   (Sc.chk 3 3 (a<=els.length) inferInstance [(0:Int)<=a,(a:Int).toNat<=els.length,els.length<=els.length] (λh=>⟨by omega,by omega,by omega,trivial⟩) (Sc.ret ())) (λst' _=>some st'=some stF):=by
  rw[<-hF]
  have:adA Tryz.prog noCf 3 (oC 3) (ancs (oC 3)) (afb Tryz.prog (oC 3) (ancs (oC 3)) (oC 3).size 0) ⟨sCk (refA els cap) (refN n) a .und,[]⟩ []
   (Sc.chk 3 3 (a<=els.length) inferInstance [(0:Int)<=a,(a:Int).toNat<=els.length,els.length<=els.length] (λh=>⟨by omega,by omega,by omega,trivial⟩) (Sc.ret ())) (λst' _=>some st'=some (⟨[.und,refA els cap,refN n,.und,A.int .i64 a,A.int .i64 (iffN ((els.take els.length).drop (a:Int).toNat).length n),.und,.und,.und,.und,.und,.und,.und,A.int .i64 n,.c (.v (.sl 2 els cap)),A.int .i64 a,
   .c (.v (.sl 2 ((els.take els.length).drop (a:Int).toNat) (cap.map (· - (a:Int).toNat)))),A.int .i64 ((els.take els.length).drop (a:Int).toNat).length,A.int .i64 (iffN ((els.take els.length).drop (a:Int).toNat).length n)]++aev.drop 13,[]⟩:St)) =
   ([(0:Int)<=a,(a:Int).toNat<=els.length,els.length<=els.length]=[(0:Int)<=a,(a:Int).toNat<=els.length,els.length<=els.length]/\some (⟨[.und,refA els cap,refN n,.und,A.int .i64 a,A.int .i64 (iffN ((els.take els.length).drop (a:Int).toNat).length n),.und,.und,.und,.und,.und,.und,.und,A.int .i64 n,.c (.v (.sl 2 els cap)),A.int .i64 a,
   .c (.v (.sl 2 ((els.take els.length).drop (a:Int).toNat) (cap.map (· - (a:Int).toNat)))),A.int .i64 ((els.take els.length).drop (a:Int).toNat).length,A.int .i64 (iffN ((els.take els.length).drop (a:Int).toNat).length n)]++aev.drop 13,[]⟩:St)=some (⟨[.und,refA els cap,refN n,.und,A.int .i64 a,A.int .i64 (iffN ((els.take els.length).drop (a:Int).toNat).length n),.und,.und,.und,.und,.und,.und,.und,A.int .i64 n,.c (.v (.sl 2 els cap)),A.int .i64 a,
   .c (.v (.sl 2 ((els.take els.length).drop (a:Int).toNat) (cap.map (· - (a:Int).toNat)))),A.int .i64 ((els.take els.length).drop (a:Int).toNat).length,A.int .i64 (iffN ((els.take els.length).drop (a:Int).toNat).length n)]++aev.drop 13,[]⟩:St)):=by kernel_rfl
  rw[this];exact⟨rfl,rfl⟩
 rw[hF]
 obtain⟨st',s',h1,h2,_⟩:=aca (n:=0) (a:=()) hs (by simp only[Sc.run];rw[if_pos ha])
 cases h2
 have hd:drawOk Tryz.prog (oC 3) (ancs (oC 3)) (afb Tryz.prog (oC 3) (ancs (oC 3)) (oC 3).size 0)=true:=by kernel_rfl
 unfold evDraw
 simp only[hd,if_true]
 exact h1
noncomputable abbrev yC(k:Nat):Oper:=(oC 4)[k]!
theorem l4:(oC 4).toList=yC 0::([yC 1,yC 2,yC 3,yC 4,yC 5,yC 6,yC 7,yC 8]++([yC 9]++(yC 10::([yC 11]++[])))):=by kernel_rfl
abbrev s4(els:List (List FV))(cap:Option Nat)(n i m w:Int)(x:A):List A:=[.und,refA els cap,refN n,.und,A.int .i64 i,A.int .i64 m,.und,.und,.und,.und,.und,.und,.und,.und,.und,.und,.und,.und,.und,.und,
 .c (.v (.sl 2 els cap)),A.int .i64 i,A.int .i64 i,A.int .i64 m,A.int .i64 w,A.int .i64 i,A.int .i64 m,A.int .i64 w,x,.und,.und]
theorem m4a(els:List (List FV))(cap:Option Nat)(n i m:Int):evOps Tryz.prog noCf (oC 4) [yC 1,yC 2,yC 3,yC 4,yC 5,yC 6,yC 7,yC 8] ⟨sCk (refA els cap) (refN n) i (A.int .i64 m),[]⟩ =
  some ⟨s4 els cap n i m (IntKind.i64.wrap (i+m)) .und,[]⟩:=by kernel_rfl
theorem m4b(els:List (List FV))(cap:Option Nat)(n:Int)(a c:Nat)(hc:a+c<=els.length)(h0:0<els.length):evOps Tryz.prog noCf (oC 4) [yC 9] ⟨s4 els cap n a c ((a+c:Nat):Int) .und,[]⟩ =
  some ⟨s4 els cap n a c ((a+c:Nat):Int) (.c (.v (.sl 2 ((els.take (a+c)).drop a) (some (a+c-a))))),[]⟩:=by
 have hop:(yC 9).op = .slice 23 (.tmp 20) (some (.tmp 21)) (some (.tmp 24)) (some (.tmp 27)):=by kernel_rfl
 have hd:(yC 9).dst=some 28:=by kernel_rfl
 have h1:Tryz.prog.underlying 23=some (.slice 37):=by kernel_rfl
 have h2:szOf Tryz.prog 37=some 2:=by kernel_rfl
 have hb:bnd (s4 els cap n a c ((a+c:Nat):Int) .und) (some (.tmp 21)) (some (.tmp 24)) (some (.tmp 27)) els.length=some (a,a+c,some (a+c)):=by kernel_rfl
 have e2:sliceA Tryz.prog 23 (s4 els cap n a c ((a+c:Nat):Int) .und) (.c (.v (.sl 2 els cap))) (some (.tmp 21)) (some (.tmp 24)) (some (.tmp 27))=some (.c (.v (.sl 2 ((els.take (a+c)).drop a) (some (a+c-a))))):=by
  simp only[sliceA,h1,h2,hb]
  rw[if_pos ⟨.inl trivial,by omega,hc⟩,if_pos ⟨Nat.le_refl _,hc,.inr h0⟩]
 refine(ev1 (x:=.c (.v (.sl 2 ((els.take (a+c)).drop a) (some (a+c-a))))) (by kernel_rfl) ?_).trans (by rw[hd];rfl)
 rw[hop]
 show(sliceA Tryz.prog 23 (s4 els cap n a c ((a+c:Nat):Int) .und) (.c (.v (.sl 2 els cap))) (some (.tmp 21)) (some (.tmp 24)) (some (.tmp 27))).map (λa=>(a,([]:Heap)))=_
 rw[e2];rfl
abbrev s29(x y:A):List A:=[.und,.und,.und,.und,.und,.und,.und,.und,.und,.und,.und,.und,.und,.und,.und,.und,.und,.und,.und,.und,.und,.und,.und,.und,.und,.und,.und,.und,.und,x,y]
theorem m4d(b:Bool):evOps Tryz.prog noCf (oC 4) [yC 11] ⟨s29 (A.bool b) .und,[]⟩=some ⟨s29 (A.bool b) (A.bool !b),[]⟩:=by kernel_rfl
theorem aeE{α:Type}{n:Nat}(hn:0<n):∀ (f:Nat) (l:List α) (j:Nat),l.length<=f->(chunkF f n l)[j]?=if j*n<l.length then some ((l.drop (j*n)).take n)else none
 | 0,l,j,h=>by
  have:l=[]:=List.eq_nil_of_length_eq_zero (by omega)
  subst this;simp[chunkF]
 | f+1,[],j,h=>by simp[chunkF]
 | f+1,x::r,0,h=>by simp[chunkF]
 | f+1,x::r,j+1,h=>by
  simp only[chunkF,List.getElem?_cons_succ]
  rw[aeE hn f _ j (by simp only[List.length_drop,List.length_cons]at h ⊢;omega)]
  simp only[List.length_drop,List.drop_drop]
  have e:(j+1)*n=n+j*n:=by rw[Nat.succ_mul,Nat.add_comm]
  rw[e]
  by_cases hl:j*n<(x::r).length-n
  ·rw[if_pos hl,if_pos (by omega)]
  ·rw[if_neg hl,if_neg (by omega)]
theorem aes{sz:Nat}{n:Int}{els:List (List FV)}(hn:0<n)(j:Nat):(ab4 sz n els)[j]?=if j*n.toNat<els.length then some [.c (.v (.sl sz ((els.drop (j*n.toNat)).take n.toNat) none))]else none:=by
 unfold ab4 adB
 rw[List.getElem?_map,aeE (by omega) _ _ _ (Nat.le_refl _)]
 split <;> rfl
theorem ajA{sz:Nat}{n:Int}{els:List (List FV)}(hn:0<n){j:Nat}(h1:els.length<=j*n.toNat)(h2:j=0∨(j-1)*n.toNat<els.length):(ab4 sz n els).length=j:=by
 have e1:(ab4 sz n els)[j]?=none:=by rw[aes hn,if_neg (by omega)]
 have g1:=List.getElem?_eq_none_iff.1 e1
 rcases h2 with rfl | h2
 ·omega
 ·have e2:(ab4 sz n els)[j-1]?≠none:=by rw[aes hn,if_pos h2];simp
  have g2:j-1<(ab4 sz n els).length:=by
   by_cases h:j-1<(ab4 sz n els).length
   ·exact h
   ·exact absurd (List.getElem?_eq_none_iff.2 (by omega)) e2
  by_cases h:j=0
  ·subst h;simp at h2;have:=h1;simp at this;omega
  ·omega
theorem am3{Φ:Phi}{els els':List (List FV)}{k:Nat}{v:Value}(h:AR Φ (λ_=>none) [] (.c (.v (.sl 2 els (some k)))) v)(he:els=els'):AR Φ (λ_=>none) [] (.c (.v (.sl 2 els' none))) v:=by
 subst he
 simp only[AR,CR,FVR]at h ⊢
 obtain⟨p,q,rfl,h1,h2,h3⟩:=h
 exact⟨p,q,rfl,⟨h1.1,(λc hc=>nomatch hc)⟩,⟨h2.1,λh=>absurd rfl h⟩,h3⟩
def muC(N:Nat)(a:Act):Nat:=match a.tmps[4]? with
 | some (Value.int _ i)=>((N:Int)-i).toNat
 |_=>0
theorem am1{els:List (List FV)}{cap:Option Nat}{n:Int}(hN:els.length<=4611686018427387904)(hn0:0<n)(hn1:n<=4611686018427387904){Φ0:Phi}{v1 v2:Value}{l:Nat}{w:World}{J:Nat->World->Prop}{Jx:World->Prop}(hv:AR Φ0 (λ_=>none) [] (refA els cap) v1)(hv2:AR Φ0 (λ_=>none) [] (refN n) v2)
  (hJ:∀ i W,J i W->∀ c arr,Φ0 c=some arr->∃ ty fz,W.heap[c]?=some (.cells arr ty fz)) (hgw:∀ i W W',J i W->Grow W W'->J i W')
  (hy:∀ i row,(ab4 2 n els)[i]?=some row->∀ W,J i W->∀ args:List Value,ARs Φ0 (λ_=>none) [] row args->∃ fn tmps asg bd,(Instr.yield l args.toArray).run Tryz.prog W = .ok (.round l fn tmps asg bd) W ∧
   ∀ n,RoundIn (WF none) n Tryz.prog l fn tmps asg bd W λe W'=>(e = .returned (.bool true)/\J (i+1) W')∨(e = .returned (.bool false)/\Jx W'))
  (h0:J 0 w) (nn:Nat):CallsIn (WF none) nn Tryz.prog 317 #[.func (.yield l) #[] #[],v1,v2] w λe W=>∃ v,e = .returned v/\(J (ab4 2 n els).length W∨Jx W):=by
 refine callsIn_of_wp Tryz.func317 alg trivial ?_
 have hnt:Tryz.f317.ntmps=31:=by kernel_rfl
 have fin:∀ (a:Act) (W:World),a.defers=[]->(J (ab4 2 n els).length W∨Jx W)->bodyPost Tryz.prog Tryz.f317 (λe W=>∃ v,e = .returned v/\(J (ab4 2 n els).length W∨Jx W)) .ret a W:=λa W hd hw=>
  ⟨hd,.tuple #[],by kernel_rfl,_,rfl,hw⟩
 have finN:∀ (a:Act) (W:World),a.defers=[]->(J (ab4 2 n els).length W∨Jx W)->bodyPost Tryz.prog Tryz.f317 (λe W=>∃ v,e = .returned v/\(J (ab4 2 n els).length W∨Jx W)) .normal a W:=λa W hd hw=>
  ⟨hd,.tuple #[],by kernel_rfl,_,rfl,hw⟩
 obtain⟨M,hM⟩:∃ M:Nat,n=(M:Int):=⟨n.toNat,by omega⟩
 have hMt:n.toNat=M:=by omega
 rw[hnt]
 refine wpIn_seq (wpIn_region_list ?_)
 rw[<-List.append_nil (oC 0).toList]
 refine opsQ (Φ:=Φ0) (ρ:=λ_=>none) (bC0 (refA els cap) (refN n)) (by kernel_rfl) (aiA (by simp) λj x hx=>?_) (hr0 (hJ 0 w h0)) ?_
 ·match j with
  | 0=>simp at hx;exact .inl hx.symm
  | 1=>simp at hx;subst hx;exact .inr ⟨v1,by simp,hv⟩
  | 2=>simp at hx;subst hx;exact .inr ⟨v2,by simp,hv2⟩
  | 3=>simp at hx;exact .inl hx.symm
  | 4=>simp at hx;exact .inl hx.symm
  | 5=>simp at hx;exact .inl hx.symm
  | j+6=>exact .inl (agu (j:=j) (by simpa using hx))
 intro a1 sr1 d1 k1
 have sl1:SlC (.func (.yield l) #[] #[]) v1 v2 0 a1.tmps:=by
  refine⟨by rw[<-sr1.1];rfl,?_,?_,?_,adM (i:=4) sr1 rfl⟩
  ·rw[k1 0 (ab3 (by kernel_rfl))];simp
  ·rw[k1 1 (ab3 (by kernel_rfl))];simp
  ·rw[k1 2 (ab3 (by kernel_rfl))];simp
 show(Code.block 0 _).wpIn (WF none) nn Tryz.prog _ a1 w
 refine wpIn_block (wpIn_loop (λa W=>∃ j:Nat,(j=0∨(j-1)*M<els.length)/\J j W/\a.defers=[]/\SlC (.func (.yield l) #[] #[]) v1 v2 ((j*M:Nat):Int) a.tmps)
  (λa _=>muC els.length a) ⟨0,.inl rfl,h0,d1,by simpa using sl1⟩ ?_)
 rintro a W ⟨j,hj,hjw,hd,sl⟩
 have hm:∀ {b:Act}{i:Int},SlC (.func (.yield l) #[] #[]) v1 v2 i b.tmps->muC els.length b=((els.length:Int)-i).toNat:=λh=>by unfold muC;rw[h.i]
 refine wpIn_seq (wpIn_seq (wpIn_region_list ?_))
 rw[<-List.append_nil (oC 1).toList]
 refine opsQ (Φ:=Φ0) (ρ:=λ_=>none) (bC1 els cap n _) (by kernel_rfl) (sl.sr hv hv2 (.inl rfl)) (hr0 (hJ j W hjw)) ?_
 intro a2 sr2 d2 k2
 have sl2:SlC (.func (.yield l) #[] #[]) v1 v2 ((j*M:Nat):Int) a2.tmps:=by
  refine sl.keep (by rw[<-sr2.1,sl.size];rfl) λq hq=>k2 q (ab3 ?_)
  rcases hq with rfl | rfl | rfl | rfl <;> kernel_rfl
 have hc:a2.eval (.tmp 9) = .bool (decide (((j*M:Nat):Int)<(els.length:Int))):=by
  obtain⟨v,g1,g2⟩:=sr2.2 9 _ rfl
  simp only[AR,CR,FVR]at g2
  rw[abe g1,g2]
 refine wpIn_cond hc ?_
 by_cases hlt:j*M<els.length
 ·rw[decide_eq_true (by omega),if_pos rfl]
  refine wpIn_skip ?_
  show(Code.seq _ _).wpIn (WF none) nn Tryz.prog _ a2 W
  refine wpIn_seq (wpIn_block (wpIn_seq ?_))
  -- the region whose order is open
  have hdr:agz Tryz.prog:=adl (by kernel_rfl)
  have hreg:(Code.region 3 (oC 3) true).wpIn (WF none) nn Tryz.prog (λe a' w'=>(e = .normal/\Grow W w'/\a'.defers=a2.defers/\a'.tmps.size=31/\a'.tmps[5]?=some (.int .i64 (iffN ((els.take els.length).drop ((j*M:Nat):Int).toNat).length n))) ∧
    (e = .normal->∀ i,(∀ o∈oC 3,o.dst≠some i)->a'.tmps[i]?=a2.tmps[i]?)) a2 W:=by
   refine wpIn_region_any hdr.1 (af1 (r:=none) (.inl rfl) (adK (a0:=a2) (λ_ _=>rfl) (hdr.2 noCf an8 (oC 3) (Tame λe a' w'=>e = .normal/\Grow W w'/\a'.defers=a2.defers/\a'.tmps.size=31/\a'.tmps[5]?=some (.int .i64 (iffN ((els.take els.length).drop ((j*M:Nat):Int).toNat).length n)))
    _ _ Φ0 (λ_=>none) a2 W (bC3 els cap n (j*M) (by omega)) (sl2.sr hv hv2 (.inl rfl)) (hr0 (hJ j W hjw)) (λa' w' hg=>⟨?_,nofun⟩))))
   obtain⟨Φ',ρ',g1,g2,g3⟩:=hg
   refine⟨rfl,Grow.of g1,g3,by rw[<-g2.1];rfl,?_⟩
   obtain⟨v,q1,q2⟩:=g2.2 5 _ rfl
   simp only[AR,CR,FVR]at q2
   rw[q1,q2]
  refine wpIn_mono hreg ?_
  rintro e a3 W3 ⟨⟨rfl,hgr,d3,z3,t35⟩,hk3⟩
  have hk3:=hk3 rfl
  have hjw3:=hgw j W W3 hjw hgr
  have ndst:∀ i:Nat,(oC 3).toList.all (λo=>!(o.dst == some i))=true->∀ o∈oC 3,o.dst≠some i:=λi h o ho=>ab3 h o (by simpa using ho)
  have sl3:SlC (.func (.yield l) #[] #[]) v1 v2 ((j*M:Nat):Int) a3.tmps:=by
   refine sl2.keep (by rw[z3,sl2.size]) λq hq=>hk3 q (ndst q ?_)
   rcases hq with rfl | rfl | rfl | rfl <;> kernel_rfl
  -- how many
  obtain⟨c,hcdef⟩:∃ c,c=min M (els.length-j*M):=⟨_,rfl⟩
  have hiff:iffN ((els.take els.length).drop ((j*M:Nat):Int).toNat).length n=(c:Int):=by
   simp only[List.take_length,List.length_drop,Int.toNat_natCast,iffN,hM]
   split <;> omega
  rw[hiff]at t35
  have hac:j*M+c<=els.length:=by omega
  show(Code.seq _ _).wpIn (WF none) nn Tryz.prog _ a3 W3
  refine wpIn_seq (wpIn_region_list ?_)
  rw[l4]
  refine amX (x:=.tmp 0) (by kernel_rfl) (by kernel_rfl) ?_
  have hd0:(yC 0).dst=some 19:=by kernel_rfl
  rw[hd0,abe sl3.y]
  have h19:19<a3.tmps.size:=by rw[sl3.size];decide
  obtain⟨a4,ha4⟩:∃ a4,a3.put (some 19) (.func (.yield l) #[] #[])=a4:=⟨_,rfl⟩
  have t4:a4.tmps=a3.tmps.setIfInBounds 19 (.func (.yield l) #[] #[]):=by rw[<-ha4];rfl
  have d4:a4.defers=a3.defers:=by rw[<-ha4];rfl
  have y4:a4.tmps[19]?=some (.func (.yield l) #[] #[]):=by rw[t4];simp[h19]
  have sl4:SlC (.func (.yield l) #[] #[]) v1 v2 ((j*M:Nat):Int) a4.tmps:=by
   refine sl3.keep (by rw[t4];simp) λq hq=>?_
   rw[t4,Array.getElem?_setIfInBounds_ne (by omega)]
  have t45:a4.tmps[5]?=some (.int .i64 (c:Int)):=by rw[t4,Array.getElem?_setIfInBounds_ne (by omega)];exact t35
  rw[ha4]
  refine opsQ (Φ:=Φ0) (ρ:=λ_=>none) (m4a els cap n _ (c:Int)) (by kernel_rfl) (sl4.sr hv hv2 (.inr ⟨_,t45,by simp only[AR,CR,FVR]⟩)) (hr0 (hJ j W3 hjw3)) ?_
  intro a5 sr5 d5 k5
  have hw5:IntKind.i64.wrap (((j*M:Nat):Int)+(c:Int))=((j*M+c:Nat):Int):=by rw[afC (by omega) (by omega)];omega
  rw[hw5]at sr5
  refine opsQ (Φ:=Φ0) (ρ:=λ_=>none) (m4b els cap n (j*M) c hac (by omega)) (by kernel_rfl) sr5 (hr0 (hJ j W3 hjw3)) ?_
  intro a6 sr6 d6 k6
  have k46:∀ q:Nat,q=0∨q=1∨q=2∨q=4∨q=19->a6.tmps[q]?=a4.tmps[q]?:=λq hq=>by
   rw[k6 q (ab3 ?_),k5 q (ab3 ?_)] <;> (rcases hq with rfl | rfl | rfl | rfl | rfl <;> kernel_rfl)
  have sl6:SlC (.func (.yield l) #[] #[]) v1 v2 ((j*M:Nat):Int) a6.tmps:=
   sl4.keep (by rw[<-sr6.1,sl4.size];rfl) λq hq=>k46 q (by rcases hq with h | h | h | h <;> simp[h])
  have hrow:(ab4 2 n els)[j]?=some [.c (.v (.sl 2 ((els.drop (j*M)).take M) none))]:=by rw[aes hn0,hMt,if_pos hlt]
  obtain⟨v28,g28,r28⟩:=sr6.2 28 _ rfl
  have hcut:(els.take (j*M+c)).drop (j*M)=(els.drop (j*M)).take M:=by
   rw[List.drop_take,Nat.add_sub_cancel_left]
   rw[hcdef,<-List.length_drop,Nat.min_comm,<-List.take_take,List.take_of_length_le (by simp only[List.length_take];omega)]
  have r28':=am3 r28 hcut
  refine ajI (g:=.tmp 19) (args:=#[.tmp 28]) (ts:=#[23]) (by kernel_rfl) (by kernel_rfl) (abe ((k46 19 (by simp)).trans y4)) (?_:∃ fn tmps asg bd,_/\_) (R:=λe W'=>(e = .returned (.bool true)/\J (j+1) W')∨(e = .returned (.bool false)/\Jx W')) ?_
  ·have:=hy j _ hrow W3 hjw3 [v28] (by simp only[ARs];exact⟨v28,_,rfl,r28',rfl⟩)
   have e:(#[.tmp 28]:Array Operand).map a6.eval = #[v28]:=by simp[abe g28]
   rw[e]
   exact this
  have hd6:(yC 10).dst=some 29:=by kernel_rfl
  rintro e W' he
  obtain⟨b,rfl,hb⟩:∃ b,e = .returned (.bool b)/\((b=true/\J (j+1) W')∨(b=false/\Jx W')):=by
   rcases he with⟨rfl,h⟩ | ⟨rfl,h⟩
   ·exact⟨true,rfl,.inl ⟨rfl,h⟩⟩
   ·exact⟨false,rfl,.inr ⟨rfl,h⟩⟩
  refine⟨_,rfl,?_⟩
  rw[hd6]
  obtain⟨a7,ha7⟩:∃ a7,a6.put (some 29) (.bool b)=a7:=⟨_,rfl⟩
  have t7:a7.tmps=a6.tmps.setIfInBounds 29 (.bool b):=by rw[<-ha7];rfl
  have dd7:a7.defers=[]:=by
   have:a7.defers=a6.defers:=by rw[<-ha7];rfl
   rw[this,d6,d5,d4,d3,d2,hd]
  have z7:a7.tmps.size=31:=by rw[t7];simp[sl6.size]
  have y7:a7.tmps[29]?=some (.bool b):=by rw[t7];simp[sl6.size]
  have sl7:SlC (.func (.yield l) #[] #[]) v1 v2 ((j*M:Nat):Int) a7.tmps:=
   sl6.keep (by rw[t7];simp) λq hq=>by rw[t7,Array.getElem?_setIfInBounds_ne (by omega)]
  rw[ha7]
  refine opsQ (Φ:=λ_=>none) (ρ:=λ_=>none) (m4d b) (by kernel_rfl) (aiA (by simp[z7]) λq x hx=>?_) (hr0 (λ_ _ h=>nomatch h)) ?_
  ·by_cases hq:q=29
   ·subst hq
    simp at hx;subst hx
    exact .inr ⟨_,y7,by simp only[AR,CR,FVR]⟩
   ·left
    have hql:q<31:=by
     have:=(List.getElem?_eq_some_iff.1 hx).1
     simpa using this
    rcases q with _ |_ |_ |_ |_ |_ |_ |_ |_ |_ |_ |_ |_ |_ |_ |_ |_ |_ |_ |_ |_ |_ |_ |_ |_ |_ |_ |_ |_ |_ |_ | q <;> first | (simp at hx;exact hx.symm) | omega
  intro a8 sr8 d8 k8
  have sl8:SlC (.func (.yield l) #[] #[]) v1 v2 ((j*M:Nat):Int) a8.tmps:=
   sl7.keep (by rw[<-sr8.1,z7];rfl) λq hq=>k8 q (ab3 (by rcases hq with rfl | rfl | rfl | rfl <;> kernel_rfl))
  have hc8:a8.eval (.tmp 30) = .bool (!b):=by
   obtain⟨v,g1,g2⟩:=sr8.2 30 _ rfl
   simp only[AR,CR,FVR]at g2
   rw[abe g1,g2]
  show(Code.cond _ _ _).wpIn (WF none) nn Tryz.prog _ a8 W'
  refine wpIn_cond hc8 ?_
  rcases hb with⟨rfl,hb⟩ | ⟨rfl,hb⟩
  ·rw[if_neg (by simp)]
   refine wpIn_skip ?_
   show(Code.region 2 _ _).wpIn (WF none) nn Tryz.prog _ a8 W'
   refine wpIn_region_list ?_
   rw[<-List.append_nil (oC 2).toList]
   refine opsQ (Φ:=Φ0) (ρ:=λ_=>none) (bC2 els cap n _) (by kernel_rfl) (sl8.sr hv hv2 (.inl rfl)) (hr0 (hJ _ W' hb)) ?_
   intro a9 sr9 d9 k9
   have hw:IntKind.i64.wrap (((j*M:Nat):Int)+n)=(((j+1)*M:Nat):Int):=by
    rw[afC (by omega) (by omega),hM,Nat.succ_mul];omega
   have sl9:SlC (.func (.yield l) #[] #[]) v1 v2 (((j+1)*M:Nat):Int) a9.tmps:=by
    refine⟨by rw[<-sr9.1];rfl,(k9 0 (ab3 (by kernel_rfl))).trans sl8.y,(k9 1 (ab3 (by kernel_rfl))).trans sl8.v,(k9 2 (ab3 (by kernel_rfl))).trans sl8.n,?_⟩
    have:=adM (i:=4) (n:=IntKind.i64.wrap (((j*M:Nat):Int)+n)) sr9 rfl
    rw[this,hw]
   refine⟨⟨j+1,.inr (by rw[Nat.add_sub_cancel];exact hlt),hb,by rw[d9,d8,dd7],sl9⟩,?_⟩
   rw[hm sl9,hm sl]
   have:(j+1)*M=j*M+M:=Nat.succ_mul j M
   omega
  ·rw[if_pos (show(!false)=true from rfl)]
   exact wpIn_ret (fin _ _ (by rw[d8,dd7]) (.inr hb))
 ·rw[decide_eq_false (by omega),if_neg (by simp)]
  refine wpIn_exit ?_
  exact finN _ _ (by rw[d2,hd]) (.inl (by rw[ajA (j:=j) hn0 (by rw[hMt];omega) (by rw[hMt];exact hj)];exact hjw))
theorem amt{P : Program}{f : FuncId}{fn : Func}(hf : P.funcs[f]? = some fn)(hb : fn.body.isSome = true)(hn : (fn.name != "runtime.NumGoroutine") = true)(args : Array Value)(w : World) : (callFunc f args).run P w = .ok (.enter f args) w := by
 have hbn:fn.body.isNone=false:=by cases h:fn.body <;> simp_all
 simp only[callFunc,Sem.run_bind,run_program,Result.andThen_ok,hf]
 rw[if_neg (by simpa using hn),if_neg (by simp[hbn])]
 simp
theorem ao3:ItOk Tryz.prog:=by
 intro f caps rows hit
 have hf:f=220/\itB caps=some (true,rows)∨f=317/\itC caps=some (true,rows):=by
  simp only[Itr.it]at hit
  cases h1:Nat.beq f 220 with
  | true=>simp only[h1,cond_true]at hit;exact .inl ⟨Nat.eq_of_beq_eq_true h1,hit⟩
  | false=>
   simp only[h1,cond_false]at hit
   cases h2:Nat.beq f 317 with
   | true=>simp only[h2,cond_true]at hit;exact .inr ⟨Nat.eq_of_beq_eq_true h2,hit⟩
   | false=>simp[h2]at hit
 rcases hf with⟨rfl,h⟩ | ⟨rfl,h⟩
 ·refine⟨λargs w=>amt Tryz.func220 (by kernel_rfl) (by kernel_rfl) args w,?_⟩
  unfold itB at h
  split at h
  ·rename_i sz els cap
   cases hz:Nat.beq sz 2 with
   | false=>simp[hz]at h
   | true=>
    have:=Nat.eq_of_beq_eq_true hz
    subst this
    simp only[hz,cond_true,Option.some.injEq,Prod.mk.injEq]at h
    obtain⟨hN,rfl⟩:=h
    have hN:=of_decide_eq_true hN
    intro Φ0 vals l w J Jx hv hJ hg hgx hy h0 n
    simp only[List.map_cons,List.map_nil,ARs]at hv
    obtain⟨v1,l',e,hv1,rfl⟩:=hv
    have ev:vals = #[v1]:=by rw[<-Array.toArray_toList (xs:=vals),e]
    subst ev
    refine aom hN ?_ hv1 hJ hy h0 n
    intro x hx
    simp only[AR,CR,FVR]at hv1
    obtain⟨c,off,arr,_,_,hq⟩:=hv1
    simp only[FVRs,FVR]at hq
    obtain⟨⟨_,_,p,k,_,_,_,hel⟩,_⟩:=hq
    rcases hel with rfl | ⟨c2,off2,arr2,_,_,hel⟩
    ·cases hx
    ·obtain⟨i,hi⟩:=List.getElem?_of_mem hx
     exact(aaE.1 hel i x hi).1
  ·cases h
 ·refine⟨λargs w=>amt Tryz.func317 (by kernel_rfl) (by kernel_rfl) args w,?_⟩
  unfold itC at h
  split at h
  ·rename_i sz els cap n
   cases hz:Nat.beq sz 2 with
   | false=>simp[hz]at h
   | true=>
    have:=Nat.eq_of_beq_eq_true hz
    subst this
    simp only[hz,cond_true,Option.some.injEq,Prod.mk.injEq]at h
    obtain⟨hN,rfl⟩:=h
    simp only[shortC,aiy,Bool.and_eq_true,decide_eq_true_eq]at hN
    intro Φ0 vals l w J Jx hv hJ hg hgx hy h0 nn
    simp only[List.map_cons,List.map_nil,ARs]at hv
    obtain⟨v1,l',e,hv1,v2,l2,rfl,hv2,rfl⟩:=hv
    have ev:vals = #[v1,v2]:=by rw[<-Array.toArray_toList (xs:=vals),e]
    subst ev
    exact am1 hN.1 hN.2.1 hN.2.2 hv1 hv2 hJ hg hy h0 nn
  ·cases h
instance mItrOk:ItrOk Tryz.prog:=⟨ao3⟩
end Go.R4
