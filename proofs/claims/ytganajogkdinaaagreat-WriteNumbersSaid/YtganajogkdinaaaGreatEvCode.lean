import Derived.Test.YtganajogkdinaaaGreatEvGh
import Derived.Test.YtganajogkdinaaaGreatEvPeek
import Derived.Test.YtganajogkdinaaaGreatEvRound
import Derived.LoopNIn
import Derived.RangeFuncFrom
set_option linter.all false
namespace Go.Ev
variable[Glo][Itr]
set_option linter.unusedSimpArgs false
variable{P:Program}{Φ Φ':Phi}{ρ ρ':Rho}{H H':Heap}{s:List A}{a:Act}{w w':World}
def ahv(P:Program):Prop:=P.follows .mixedOrders=true/\∀ (cf:aaj),aa7 P cf->∀ (ops:Array Oper) (Q:Exit->Act->World->Prop) (st st':St) (Φ:Phi) (ρ:Rho) (a:Act) (w:World),
 evDraw P cf ops st=some st'->SR Φ ρ st.h st.s a.tmps->HR Φ ρ st.h w->(∀ a' w',Goes Φ ρ st.h a w st' a' w'->Q .normal a' w')->wpAny P .any ops Q ops.size (Array.replicate ops.size false) a { w with drawn:=w.drawn+1 }
def Ex.to:Ex->Exit
 |.normal=>.normal
 |.exit id=>.exit id
 |.ret=>.ret
def NC(o:Obj):Prop:=(∀ arr ty fz,o ≠ .cells arr ty fz)/\∀ l k,o ≠ .map l k
theorem aol{c:Nat}{o:Obj}(hr:HR Φ ρ H w)(ho:w.heap[c]?=some o)(hc:NC o):¬Foot ρ H c:=by
 rintro ⟨b,k,inf,hk,hi,rfl⟩
 cases k with
 | mp kk es=>
  obtain⟨_,l,q,h,_⟩:=hr.mps b kk es inf hk hi
  rw[ho]at h;cases h
  exact hc.2 _ _ rfl
 | pur sz els=>
  obtain⟨_,arr,ty,fz,h,_⟩:=hr.own b _ inf hk rfl hi
  rw[ho]at h;cases h
  exact hc.1 _ _ _ rfl
 | mix sz els=>
  obtain⟨_,arr,ty,fz,h,_⟩:=hr.own b _ inf hk rfl hi
  rw[ho]at h;cases h
  exact hc.1 _ _ _ rfl
theorem ag1(hr:HR Φ ρ H w)(h:∀ (c:Nat) (o:Obj),w.heap[c]?=some o->¬NC o->w'.heap[c]?=some o):HR Φ ρ H w':=by
 have nc:∀ arr ty fz,¬NC (.cells arr ty fz):=λarr ty fz h=>h.1 _ _ _ rfl
 have nm:∀ l k,¬NC (.map l k):=λl k h=>h.2 _ _ rfl
 refine⟨?_,?_,hr.inj,hr.glo,?_⟩
 ·intro c arr hx
  obtain⟨ty,fz,hw⟩:=hr.fro c arr hx
  exact⟨ty,fz,h _ _ hw (nc _ _ _)⟩
 ·intro b k inf hk hm hi
  obtain⟨q1,arr,ty,fz,q2,q3⟩:=hr.own b k inf hk hm hi
  exact⟨q1,arr,ty,fz,h _ _ q2 (nc _ _ _),q3⟩
 ·intro b kk es inf hk hi
  obtain⟨q1,l,q,q2,q3⟩:=hr.mps b kk es inf hk hi
  exact⟨q1,l,q,h _ _ q2 (nm _ _),q3⟩
theorem aoN{l:Nat}{o o':Obj}(hr:HR Φ ρ H w)(ho:w.heap[l]?=some o)(hc:NC o):HR Φ ρ H (w.putObj l o'):=by
 refine ag1 hr λc x hx hn=>?_
 have:c≠l:=by rintro rfl;rw[ho]at hx;cases hx;exact hn hc
 rw[World.putObj_heap_other this,hx]
theorem StpN.put{np l:Nat}{o o':Obj}{w0:World}{Φ0:Phi}{ρ0:Rho}{H0:Heap}(h:StpN np Φ0 ρ0 H0 w0 Φ ρ H w)(hl:w0.heap.size<=l)(ho:w.heap[l]?=some o)(hc:NC o):StpN np Φ0 ρ0 H0 w0 Φ ρ H (w.putObj l o'):=
 ⟨h.ext,aoN h.hr ho hc,λc hlt hf=>(World.putObj_heap_other (by omega)).trans (h.fr c hlt hf),h.ft,h.fz,by simpa[World.putObj]using h.sz,⟨h.io.os,h.io.tape,h.io.output⟩⟩
theorem StpN.stays{np c:Nat}{o:Obj}(h:StpN np Φ ρ H w Φ' ρ' H' w')(hr:HR Φ ρ H w)(ho:w.heap[c]?=some o)(hc:NC o):w'.heap[c]?=some o:=
 (h.fr c (Array.getElem?_eq_some_iff.1 ho).1 (aol hr ho hc)).trans ho
theorem StpN.weak{np np':Nat}(h:StpN np Φ ρ H w Φ' ρ' H' w')(hn:np'<=np):StpN np' Φ ρ H w Φ' ρ' H' w':=
 ⟨⟨h.ext.phi,⟨Nat.le_trans hn h.ext.len.1,Nat.le_trans hn h.ext.len.2⟩,λb hb=>h.ext.rho b (Nat.lt_of_lt_of_le hb hn),λb k' hb hk=>h.ext.keep b k' (Nat.lt_of_lt_of_le hb hn) hk⟩,h.hr,h.fr,h.ft,h.fz,h.sz,h.io⟩
theorem adb(r:Loop):NC (.loop r):=⟨(λ_ _ _ h=>nomatch h),(λ_ _ h=>nomatch h)⟩
theorem abP(r:Option (List Deferred)):NC (.deferred r):=⟨(λ_ _ _ h=>nomatch h),(λ_ _ h=>nomatch h)⟩
def Dfr(a:Act)(w:World)(a':Act)(w':World):Prop:=∃ ms:List Deferred,a'.defers=ms++a.defers/\ms.Pairwise (λm m'=>m.target≠m'.target) ∧
 ∀ m∈ms,∃ D,m.target = .collected D/\w.heap.size<=D/\w'.heap[D]?=some (.deferred (some []))
theorem Dfr.of{a a':Act}(h:a'.defers=a.defers):Dfr a w a' w':=⟨[],by simpa using h,.nil,by simp⟩
theorem Dfr.trans{np:Nat}{a a1 a2:Act}{w1 w2:World}{Φ1 Φ2:Phi}{ρ1 ρ2:Rho}{H1 H2:Heap}(hz:w.heap.size<=w1.heap.size)(h:Dfr a w a1 w1)(hr:HR Φ1 ρ1 H1 w1)(s:StpN np Φ1 ρ1 H1 w1 Φ2 ρ2 H2 w2)(h2:Dfr a1 w1 a2 w2):Dfr a w a2 w2:=by
 obtain⟨ms,e,p,q⟩:=h
 obtain⟨ms2,e2,p2,q2⟩:=h2
 refine⟨ms2++ms,by rw[e2,e,List.append_assoc],?_,?_⟩
 ·rw[List.pairwise_append]
  refine⟨p2,p,λm hm m' hm' ht=>?_⟩
  obtain⟨D,g1,g2,_⟩:=q2 m hm
  obtain⟨D',g1',_,g3'⟩:=q m' hm'
  rw[g1,g1']at ht
  cases ht
  have:=(Array.getElem?_eq_some_iff.1 g3').1
  omega
 ·intro m hm
  rw[List.mem_append]at hm
  rcases hm with hm | hm
  ·obtain⟨D,g1,g2,g3⟩:=q2 m hm
   exact⟨D,g1,by omega,g3⟩
  ·obtain⟨D,g1,g2,g3⟩:=q m hm
   exact⟨D,g1,g2,s.stays hr g3 (abP _)⟩
def aon(np:Nat)(Φ:Phi)(ρ:Rho)(H:Heap)(a:Act)(w:World)(st':St)(a':Act)(w':World):Prop:=
 ∃ Φ' ρ',StpN np Φ ρ H w Φ' ρ' st'.h w'/\SR Φ' ρ' st'.h st'.s a'.tmps/\a'.defers=a.defers
def agF(np:Nat)(Φ:Phi)(ρ:Rho)(H:Heap)(a:Act)(w:World)(st':St)(a':Act)(w':World):Prop:=
 ∃ Φ' ρ',StpN np Φ ρ H w Φ' ρ' st'.h w'/\SR Φ' ρ' st'.h st'.s a'.tmps/\Dfr a w a' w'
theorem aon.to{np:Nat}{st':St}{a':Act}(h:aon np Φ ρ H a w st' a' w'):agF np Φ ρ H a w st' a' w':=let⟨Φ',ρ',h1,h2,h3⟩:=h;⟨Φ',ρ',h1,h2,.of h3⟩
def acJ(P:Program)(r:Option Nat)(np:Nat)(c:Code)(f:St->Option (Ex×St)):Prop:=∀ (N:Nat) (Q:Exit->Act->World->Prop) (st st':St) (e:Ex) (Φ:Phi) (ρ:Rho) (a:Act) (w:World),f st=some (e,st') →
 SR Φ ρ st.h st.s a.tmps->HR Φ ρ st.h w->np<=st.h.length->(∀ a' w',agF np Φ ρ st.h a w st' a' w'->Q e.to a' w')->c.wpIn (WF r) N P Q a w
theorem agF.trans{np:Nat}{st1 st2:St}{a1 a2:Act}{w1 w2:World}{Φ1:Phi}{ρ1:Rho}(h:StpN np Φ ρ H w Φ1 ρ1 st1.h w1)(hd:Dfr a w a1 w1)(h2:agF np Φ1 ρ1 st1.h a1 w1 st2 a2 w2) :
  agF np Φ ρ H a w st2 a2 w2:=by
 obtain⟨Φ2,ρ2,g1,g2,g3⟩:=h2
 exact⟨Φ2,ρ2,h.trans g1,g2,hd.trans h.sz h.hr g1 g3⟩
theorem ajv{r:Option Nat}{np:Nat}{c:Code}{f:St->Option (Ex×St)}(hf:acJ P r np c f):∀ (n:Nat) (N:Nat) (Q:Exit->Act->World->Prop) (st st':St) (e:Ex) (Φ:Phi) (ρ:Rho) (a:Act) (w:World),iter f n st=some (e,st') →
  SR Φ ρ st.h st.s a.tmps->HR Φ ρ st.h w->np<=st.h.length->(∀ a' w',agF np Φ ρ st.h a w st' a' w'->Q e.to a' w')->Code.roundsIn (WF r) N P c Q n a w
 | 0,_,_,_,_,_,_,_,_,_,h,_,_,_,_=>by simp[iter]at h
 | n+1,N,Q,st,st',e,Φ,ρ,a,w,h,hs,hr,hn,hQ=>by
  simp only[iter]at h
  split at h
  ·rename_i st1 h1
   refine hf N _ st st1 .normal Φ ρ a w h1 hs hr hn ?_
   rintro a1 w1 ⟨Φ1,ρ1,g1,g2,g3⟩
   simp only[Ex.to,Exit.then]
   exact ajv hf n N Q st1 st' e Φ1 ρ1 a1 w1 h g2 g1.hr g1.ext.len.2 (λa2 w2 hg=>hQ a2 w2 (hg.trans g1 g3))
  ·rename_i hx
   have he:e ≠ .normal:=λhe=>hx st' (by rw[h,he])
   refine hf N _ st st' e Φ ρ a w h hs hr hn (λa' w' hg=>?_)
   have:=hQ a' w' hg
   cases e with
   | normal=>exact absurd rfl he
   | exit id=>exact this
   | ret=>exact this
theorem anC{o:Oper}{r:A}{st:St}{K:Act->World->Prop}{Q:Exit->Act->World->Prop}(h:extA P st o=some r)(hs:SR Φ ρ st.h st.s a.tmps)(hr:HR Φ ρ st.h w)
  (hK:∀ z,AR Φ ρ st.h r z->K (a.put o.dst z) w):o.guard=none/\o.wp P a w K Q:=by
 unfold extA at h
 split at h
 ·rename_i t x lo hi hg ho
  refine⟨hg,?_⟩
  split at h
  ·rename_i e b sz i n hu hx
   split at h
   ·rename_i sz' l h' k hsz hb hk
    split at h
    ·rename_i hc
     obtain⟨rfl,c1,c2⟩:=hc
     cases h
     have hX:=aaN hs x
     rw[hx]at hX
     simp only[AR,CR]at hX
     obtain⟨p,k0,hv,hk0,hpn,hbl,hp⟩:=hX
     obtain⟨g1,g2,g3,g4⟩:=hp k hk
     have g3:=g3 trivial
     obtain⟨e1,e2⟩:=afL (P:=P) (isS:=true) (cap:=k0) hb hs c1 (by omega) (by simp) w
     have run_:(execOp a.eval o).run P w = .ok (.value (.slice (if k0=l then p else p.map (·.add (l*sz'))) (h'-l) (k0-l))) w:=by
      have hz:(Instr.sliceAt t (a.eval x) (lo.map a.eval) ((some hi).map a.eval) ((none:Option Operand).map a.eval)).run P w = .ok (.slice (if k0=l then p else p.map (·.add (l*sz'))) (h'-l) (k0-l)) w:=by
       rw[hv,abq hu]
       simp only[Instr.slice,Sem.run_bind,aaf hu,Result.andThen_ok]
       rw[e1]
       simp only[Sem.run_bind,Result.andThen_ok,aas hsz,Option.getD_none]
       rfl
      simp only[execOp,ho]
      exact val_run hz
     unfold Oper.wp
     rw[run_]
     refine hK _ ?_
     simp only[AR,CR]
     refine⟨_,_,rfl,⟨by omega,λq hq=>by cases hq⟩,λh0=>?_,hbl,λy hy=>?_⟩
     ·have h0:0<h'-l:=h0.elim (λh=>h) λh=>absurd rfl h
      rcases g4 with⟨g4,g5⟩ | ⟨inf,g4,g5,_⟩
      ·omega
      ·rw[g5];split <;> simp
     ·rw[hk]at hy;cases hy
      refine⟨g1,by omega,λ_=>by omega,?_⟩
      by_cases hml:k0=l
      ·left;omega
      ·right
       rcases g4 with⟨g4,g5⟩ | ⟨inf,g4,g5,g6⟩
       ·omega
       ·refine⟨inf,g4,?_,?_⟩
        ·rw[if_neg hml,g5]
         simp[addr_add,Nat.add_mul,Nat.add_assoc]
        ·have:(i+l+(k0-l))*sz'<=(i+k0)*sz':=Nat.mul_le_mul_right _ (by omega)
         omega
    ·cases h
   ·cases h
  ·cases h
 ·cases h
theorem al8{cf:aaj}(hcf:aa7 P cf){np:Nat}{ops:Array Oper}{Q:Exit->Act->World->Prop}:∀ {gs:List Gh}{l:List Oper}{st st':St}{Φ:Phi}{ρ:Rho}{a:Act}{w:World},evRow P cf np ops gs l st=some st'->SR Φ ρ st.h st.s a.tmps->HR Φ ρ st.h w->np<=st.h.length →
  (∀ a' w',aon np Φ ρ st.h a w st' a' w'->Q .normal a' w')->wpList P ops Q l a w:=by
 intro gs
 induction gs with
 | nil=>
  intro l st st' Φ ρ a w h hs hr hn hQ
  simp only[evRow]at h
  refine ahP hcf h hs hr (λa' w' hg=>?_)
  obtain⟨Φ2,ρ2,g1,g2,g3⟩:=hg
  exact hQ a' w' ⟨Φ2,ρ2,g1.toN hn,g2,g3⟩
 | cons g gs ih=>
  intro l st st' Φ ρ a w h hs hr hn hQ
  cases g with
  | stop m=>
   simp only[evRow]at h
   split at h
   ·rename_i st1 h1
    split at h
    ·rename_i st2 h2
     have hl:l=l.take m++l.drop m:=(List.take_append_drop m l).symm
     rw[hl]
     refine abi hcf h1 hs hr (λa1 w1 hg=>?_)
     obtain⟨Φ1,ρ1,g1,g2,g3⟩:=hg
     have n1:=g1.toN hn
     obtain⟨Φ2,ρ2,s1,r1⟩:=abn h2 g2 g1.hr n1.ext.len.2
     refine ahP hcf h r1 s1.hr (λa' w' hg=>?_)
     obtain⟨Φ3,ρ3,g4,g5,g6⟩:=hg
     exact hQ a' w' ⟨Φ3,ρ3,(n1.trans s1).trans (g4.toN s1.ext.len.2),g5,g6.trans g3⟩
    ·cases h
   ·cases h
  | peek m n=>
   simp only[evRow]at h
   split at h
   ·rename_i st1 h1
    split at h
    ·rename_i st2 h2
     have hl:l=l.take m++((l.drop m).take n++(l.drop m).drop n):=by rw[List.take_append_drop,List.take_append_drop]
     rw[hl]
     refine abi hcf h1 hs hr (λa1 w1 hg=>?_)
     obtain⟨Φ1,ρ1,g1,g2,g3⟩:=hg
     have n1:=g1.toN hn
     refine akX hcf h2 g2 g1.hr (λa2 w2 hg=>?_)
     obtain⟨Φ2,ρ2,g4,g5,g6⟩:=hg
     have n2:=g4.toN n1.ext.len.2
     refine ih h g5 g4.hr n2.ext.len.2 (λa' w' hg=>?_)
     obtain⟨Φ3,ρ3,g7,g8,g9⟩:=hg
     exact hQ a' w' ⟨Φ3,ρ3,(n1.trans n2).trans g7,g8,g9.trans (g6.trans g3)⟩
    ·cases h
   ·cases h
  | mid m g=>
   simp only[evRow]at h
   split at h
   ·rename_i st1 h1
    split at h
    ·rename_i st2 h2
     have hl:l=l.take m++l.drop m:=(List.take_append_drop m l).symm
     rw[hl]
     refine abi hcf h1 hs hr (λa1 w1 hg=>?_)
     obtain⟨Φ1,ρ1,g1,g2,g3⟩:=hg
     have n1:=g1.toN hn
     obtain⟨Φ2,ρ2,s1,r1⟩:=abn h2 g2 g1.hr n1.ext.len.2
     refine ih h r1 s1.hr s1.ext.len.2 (λa' w' hg=>?_)
     obtain⟨Φ3,ρ3,g7,g8,g9⟩:=hg
     exact hQ a' w' ⟨Φ3,ρ3,(n1.trans s1).trans g7,g8,g9.trans g3⟩
    ·cases h
   ·cases h
  | ext m=>
   simp only[evRow]at h
   split at h
   ·rename_i st1 o r h1 hd
    split at h
    ·rename_i x hx
     have hl:l=l.take m++(o::r):=by rw[<-hd,List.take_append_drop]
     rw[hl]
     refine abi hcf h1 hs hr (λa1 w1 hg=>?_)
     obtain⟨Φ1,ρ1,g1,g2,g3⟩:=hg
     have n1:=g1.toN hn
     obtain⟨hgd,hwp⟩:=anC (Q:=Q) (K:=wpList P ops Q r) hx g2 g1.hr (λz hz=>by
      refine ih h (adA g2 hz) g1.hr n1.ext.len.2 (λa' w' hg=>?_)
      obtain⟨Φ3,ρ3,g7,g8,g9⟩:=hg
      exact hQ a' w' ⟨Φ3,ρ3,n1.trans g7,g8,by rw[g9,aa9,g3]⟩)
     unfold wpList
     rw[if_pos (by simp[Region.wanted,hgd])]
     exact .inl hwp
    ·cases h
   ·cases h
  |_=>simp[evRow]at h
theorem ao1{s:List A}{a:Act}{g:Operand}{f:FuncId}{caps:List FV}(hs:SR Φ ρ H s a.tmps)(h:opd s g = .c (.v (.fn f caps))) :
  ∃ arr:Array Value,a.eval g = .func (.func f) #[] arr/\ARs Φ (λ_=>none) [] (caps.map λv=>.c (.v v)) arr.toList:=by
 have hF:=aaN hs g
 rw[h]at hF
 simp only[AR,CR,FVR]at hF
 obtain⟨arr,e1,e2,e3⟩:=hF
 refine⟨arr,e1,?_⟩
 have:=acE (ρ:=λ_=>none) (H:=[]) (l:=caps.map .v) (vs:=arr.toList) (agI.2 e3) (by simp[e2]) (λi hi=>by simp)
 rw[List.map_map]at this
 exact this
theorem ext0(h:∀ c arr,Φ c=some arr->Φ' c=some arr):Ext Φ (λ_=>none) [] Φ' ρ' H':=⟨h,Nat.zero_le _,λ_ h=>by simp at h,λ_ _ h=>by simp at h⟩
def Grow(w w':World):Prop:=(∀ c:Nat,c<w.heap.size->w'.heap[c]?=w.heap[c]?)/\w.heap.size<=w'.heap.size/\Io w w'
theorem StpN.grow{np:Nat}{w2:World}(h:StpN np Φ ρ H w Φ' ρ' H' w')(g:Grow w' w2):StpN np Φ ρ H w Φ' ρ' H' w2:=by
 obtain⟨g1,g2,g3⟩:=g
 have hz:=h.sz
 exact⟨h.ext,ag1 h.hr λc o ho _=>(g1 c (Array.getElem?_eq_some_iff.1 ho).1).trans ho,λc hc hf=>(g1 c (by omega)).trans (h.fr c hc hf),h.ft,h.fz,Nat.le_trans hz g2,h.io.trans g3⟩
theorem Grow.at{w w':World}{c:Nat}{o:Obj}(g:Grow w w')(h:w.heap[c]?=some o):w'.heap[c]?=some o:=(g.1 c (Array.getElem?_eq_some_iff.1 h).1).trans h
theorem Grow.of{Φ':Phi}{ρ':Rho}{H':Heap}(h:Stp Φ ρ [] w Φ' ρ' H' w'):Grow w w':=⟨λc hc=>h.fr c hc (by rintro ⟨b,k,inf,hk,_⟩;simp[live]at hk),h.sz,h.io⟩
def ItOk(P:Program):Prop:=∀ f caps rows,Itr.it f caps=some (true,rows)->(∀ args w,(callFunc f args).run P w = .ok (.enter f args) w) ∧
 ∀ (Φ0:Phi) (vals:Array Value) (l:Nat) (w:World) (J:Nat->World->Prop) (Jx:World->Prop),ARs Φ0 (λ_=>none) [] (caps.map λv=>.c (.v v)) vals.toList →
  (∀ i W,J i W->∀ c arr,Φ0 c=some arr->∃ ty fz,W.heap[c]?=some (.cells arr ty fz))->(∀ i W W',J i W->Grow W W'->J i W')->(∀ W W',Jx W->Grow W W'->Jx W') →
  (∀ i row,rows[i]?=some row->∀ W,J i W->∀ args:List Value,ARs Φ0 (λ_=>none) [] row args->∃ fn tmps as bd,(Instr.yield l args.toArray).run P W = .ok (.round l fn tmps as bd) W ∧
   ∀ n,RoundIn (WF none) n P l fn tmps as bd W λe W'=>(e = .returned (.bool true)/\J (i+1) W')∨(e = .returned (.bool false)/\Jx W')) →
  J 0 w->∀ n,CallsIn (WF none) n P f (#[.func (.yield l) #[] #[]]++vals) w λe W=>∃ v,e = .returned v/\(J rows.length W∨Jx W)
class ItrOk(P:Program):Prop where
 ok:ItOk P
theorem akz{l:List A}{vs:List Value}(h:ARs Φ ρ H l vs):l.length=vs.length:=(adv.1 h).1
theorem akl:∀ {ps:List Tmp}{row:List A}{s:List A}{t:Array Value}{vs:List Value},SR Φ ρ H s t->ARs Φ ρ H row vs->SR Φ ρ H (setP s ps row) ((ps.zip vs).foldl (λt (p,v)=>t.setIfInBounds p v) t)
 | [],row,s,t,vs,h,_=>by
  simp only[setP,List.zip_nil_left,List.foldl_nil];exact h
 | p::ps,[],s,t,vs,h,ha=>by
  simp only[ARs]at ha;subst ha
  simp only[setP,List.zip_nil_right,List.foldl_nil];exact h
 | p::ps,x::row,s,t,vs,h,ha=>by
  simp only[ARs]at ha
  obtain⟨v,l',rfl,h1,h2⟩:=ha
  simp only[setP,List.zip_cons_cons,List.foldl_cons]
  refine akl ?_ h2
  have:=adA (a:={ tmps:=t,defers:=[] }) (d:=some p) h h1
  simpa only[putA,Act.put]using this
def Ex.jump:Ex->Option Code
 |.normal=>none
 |.exit id=>some (.exit id)
 |.ret=>some .ret
theorem alD{np:Nat}(hr:HR Φ ρ H w)(hn:np<=H.length):∃ ρ',StpN np Φ ρ H w Φ ρ' (leave np undA H).2 w:=by
 obtain⟨r1,r2,r3⟩:=afu np H undA.refs hn
 exact⟨_,afh hr hn r1 r3 (adX _ _ _)⟩
theorem ao5{f:Nat->St->Option (Ex×St)}{ps:Array Tmp}{as bd:Code}{n:Nat}{rows:List (List A)}(hrows:∀ r∈rows,r.length=ps.size)(hi:ItrOk P){fa:Nat->St->Option (Ex×St)}{fb:Nat->St->Option (Ex×St)}
  (hf:∀ np st,f np st=(match fa np st with
   | some (.normal,st1)=>fb np st1
   |_=>none))
  (ha:∀ l np,acJ P (some l) np as (fa np)) (hb:∀ l np,acJ P (some l) np bd (fb np)) {g:Operand}{fid:FuncId}{caps:List FV} (hit:Itr.it fid caps=some (true,rows))
  {N:Nat}{Q:Exit->Act->World->Prop}{st:St}{e:Ex}{h1:Heap} (hg:opd st.s g = .c (.v (.fn fid caps))) (h:rng f st.s ps.toList rows st.h=some (e,h1)) (hs:SR Φ ρ st.h st.s a.tmps) (hr:HR Φ ρ st.h w)
  (hQ:∀ a' w',agF st.h.length Φ ρ st.h a w ⟨st.s,h1⟩ a' w'->Q e.to a' w'):(Code.rangeFunc g ps as bd).wpIn (WF none) N P Q a w:=by
 obtain⟨arr,hgv,hcaps⟩:=ao1 hs hg
 obtain⟨eg,hcall⟩:=hi.ok fid caps rows hit
 refine wpIn_rangeFunc ?_
 intro fn hfn
 obtain⟨rec,hrec⟩:∃ rec:LoopState->Option Code->Loop,rec=λst pe=>{ state:=st,pending:=pe,fn,tmps:=a.tmps,params:=ps,assign:=as,body:=bd,defers:=w.heap.size }:=⟨_,rfl⟩
 obtain⟨W1,hW1⟩:∃ W1,(w.alloc (.deferred (some []))).alloc (.loop (rec .ready none))=W1:=⟨_,rfl⟩
 have hL1:W1.heap[w.heap.size+1]?=some (.loop (rec .ready none)):=by
  rw[<-hW1];have:=World.alloc_heap_new (w.alloc (.deferred (some []))) (.loop (rec .ready none));rwa[World.size_alloc]at this
 have hK1:W1.heap[w.heap.size]?=some (.deferred (some [])):=by
  rw[<-hW1];exact(RowKit.Below.heap_alloc _ _ _ (by simp)).trans (World.alloc_heap_new w _)
 have old:∀ c,c<w.heap.size->W1.heap[c]?=w.heap[c]?:=λc hc=>by
  rw[<-hW1,RowKit.Below.heap_alloc _ _ _ (by simp;omega),RowKit.Below.heap_alloc _ _ _ hc]
 have s1:StpN st.h.length Φ ρ st.h w Φ ρ st.h W1:=by
  refine⟨(StpN.refl (np:=st.h.length) hr (Nat.le_refl _)).ext,ag1 hr λc o ho _=>(old c (Array.getElem?_eq_some_iff.1 ho).1).trans ho,λc hc _=>old c hc,λc hc=>.inl hc,λc arr hx=>.inl hx,?_,?_⟩
  ·rw[<-hW1];simp only[World.size_alloc];omega
  ·rw[<-hW1];exact⟨rfl,rfl,rfl⟩
 refine⟨w.heap.size+1,[{ target:=.collected w.heap.size,args:=#[] }],W1,{ target:=.fn (.func fid) arr,args:=#[.func (.yield (w.heap.size+1)) #[] #[]] },W1,fid,
  #[.func (.yield (w.heap.size+1)) #[] #[]]++arr,W1,?_,?_,λ_ _=>trivial,?_,(λhd=>by cases hd),?_⟩
 ·rw[<-hW1,hrec];exact run_enterLoop_outer _ _ _ _ _
 ·simp only[resolve,hgv]
  simp[go_sem]
 ·simp[invoke,go_sem,eg]
 refine(hcall Φ arr (w.heap.size+1) W1
  (λi W=>∃ Φi ρi hi,StpN st.h.length Φ ρ st.h w Φi ρi hi W/\rng f st.s ps.toList (rows.drop i) hi=some (e,h1)/\W.heap[w.heap.size+1]?=some (.loop (rec .ready none))/\W.heap[w.heap.size]?=some (.deferred (some [])))
  (λW=>∃ Φi ρi c,StpN st.h.length Φ ρ st.h w Φi ρi h1 W/\e.jump=some c/\W.heap[w.heap.size+1]?=some (.loop (rec .done (some c)))/\W.heap[w.heap.size]?=some (.deferred (some [])))
  hcaps ?_ ?_ ?_ ?_ ⟨Φ,ρ,st.h,s1,by simpa using h,hL1,hK1⟩ _).mono ?_
 ·rintro i W ⟨Φi,ρi,hi,s,_⟩ c x hx
  exact s.hr.fro c x (s.ext.phi c x hx)
 ·rintro i W W' ⟨Φi,ρi,hi,s,q1,q2,q3⟩ g
  exact⟨Φi,ρi,hi,s.grow g,q1,g.at q2,g.at q3⟩
 ·rintro W W' ⟨Φi,ρi,c,s,q1,q2,q3⟩ g
  exact⟨Φi,ρi,c,s.grow g,q1,g.at q2,g.at q3⟩
 ·-- one round
  rintro i row hrow W ⟨Φi,ρi,hi,s,hq,hl,hk⟩ args hargs
  have hlen:=hrows row (List.mem_of_getElem? hrow)
  have hal:=akz hargs
  have hy:=run_yield (P:=P) (args:=args.toArray) hl (by rw[hrec];simp only[List.size_toArray];omega)
  rw[hrec]at hy
  refine⟨fn,_,as,bd,hy,λm=>roundIn_of_wpIn hfn ?_⟩
  have hd:rows.drop i=row::rows.drop (i+1):=List.drop_eq_getElem?_toList_append.trans (by rw[hrow];rfl)
  rw[hd]at hq
  simp only[rng]at hq
  have hn0:st.h.length<=hi.length:=s.ext.len.2
  cases hfa:fa hi.length ⟨setP st.s ps.toList row,hi⟩with
  | none=>simp[hf,hfa]at hq
  | some p=>
   obtain⟨ea,sta⟩:=p
   cases ea with
   | exit id=>simp[hf,hfa]at hq
   | ret=>simp[hf,hfa]at hq
   | normal=>
    simp only[hf,hfa]at hq
    have hsr:SR Φi ρi hi (setP st.s ps.toList row) (((ps.zip args.toArray).foldl (λt (p,v)=>t.setIfInBounds p v) a.tmps)):=by
     have e1:(ps.zip args.toArray).foldl (λt (p,v)=>t.setIfInBounds p v) a.tmps=(ps.toList.zip args).foldl (λt (p,v)=>t.setIfInBounds p v) a.tmps:=by
      rw[<-Array.foldl_toList];simp
     rw[e1]
     exact akl (aaW s.toS.ext hs) (agW (ext0 (λc x hx=>s.ext.phi c x hx)) _ _ hargs)
    refine ha _ _ m _ _ sta .normal Φi ρi _ W hfa hsr s.hr (Nat.le_refl _) ?_
    rintro a1 w1 ⟨Φ1,ρ1,g1,g2,-⟩
    simp only[Ex.to,Exit.then]
    have hl1:=g1.stays s.hr hl (adb _)
    have hk1:=g1.stays s.hr hk (abP _)
    refine⟨_,run_beginRound hl1 (by rw[hrec]),?_⟩
    have t1:=(s.trans (g1.weak hn0)).put (o':=.loop { rec .ready none with state:=.busy }) (Nat.le_succ _) hl1 (adb _)
    have hl2:(w1.putObj (w.heap.size+1) (.loop { rec .ready none with state:=.busy })).heap[w.heap.size+1]?=some (.loop { rec .ready none with state:=.busy }):=World.putObj_heap_same (Array.getElem?_eq_some_iff.1 hl1).1
    have hk2:(w1.putObj (w.heap.size+1) (.loop { rec .ready none with state:=.busy })).heap[w.heap.size]?=some (.deferred (some [])):=(World.putObj_heap_other (by omega)).trans hk1
    cases hfb:fb hi.length sta with
    | none=>simp[hfb]at hq
    | some p=>
     obtain⟨eb,stb⟩:=p
     refine hb _ _ m _ _ stb eb Φ1 ρ1 a1 _ hfb g2 t1.hr g1.ext.len.2 ?_
     rintro a3 w3 ⟨Φ3,ρ3,g3,g4,-⟩
     have hl3:=g3.stays t1.hr hl2 (adb _)
     have hk3:=g3.stays t1.hr hk2 (abP _)
     obtain⟨ρ4,s4⟩:=alD g3.hr g3.ext.len.2
     have t3:=(t1.trans (g3.weak hn0)).trans (s4.weak hn0)
     have fin:∀ jump:Option Code,∃ w4,(Instr.endRound (w.heap.size+1) jump).run P w3 = .ok (.bool jump.isNone) w4/\StpN st.h.length Φ ρ st.h w Φ3 ρ4 (leave hi.length undA stb.h).2 w4 ∧
       w4.heap[w.heap.size+1]?=some (.loop (rec (if jump.isNone then .ready else .done) jump))/\w4.heap[w.heap.size]?=some (.deferred (some [])):=λjump=>by
      have:=run_endRound (P:=P) jump hl3
      refine⟨_,this,t3.put (Nat.le_succ _) hl3 (adb _),?_,(World.putObj_heap_other (by omega)).trans hk3⟩
      rw[World.putObj_heap_same (Array.getElem?_eq_some_iff.1 hl3).1,hrec]
     cases eb with
     | normal=>
      obtain⟨w4,q1,q2,q3,q4⟩:=fin none
      simp only[hfb]at hq
      exact⟨_,w4,q1,.inl ⟨rfl,_,_,_,q2,hq,q3,q4⟩⟩
     | exit id=>
      obtain⟨w4,q1,q2,q3,q4⟩:=fin (some (.exit id))
      simp only[hfb,Option.some.injEq,Prod.mk.injEq]at hq
      obtain⟨rfl,rfl⟩:=hq
      exact⟨_,w4,q1,.inr ⟨rfl,_,_,_,q2,rfl,q3,q4⟩⟩
     | ret=>
      obtain⟨w4,q1,q2,q3,q4⟩:=fin (some .ret)
      simp only[hfb,Option.some.injEq,Prod.mk.injEq]at hq
      obtain⟨rfl,rfl⟩:=hq
      exact⟨_,w4,q1,.inr ⟨rfl,_,_,_,q2,rfl,q3,q4⟩⟩
 ·have dfr:∀ {W:World},W.heap[w.heap.size]?=some (.deferred (some []))->Dfr a w { a with defers:=[{ target:=.collected w.heap.size,args:=#[] }]++a.defers } W:=λhk=>
   ⟨[{ target:=.collected w.heap.size,args:=#[] }],rfl,.cons (by simp) .nil,λm hm=>by
    rw[List.mem_singleton]at hm;subst hm
    exact⟨_,rfl,Nat.le_refl _,hk⟩⟩
  rintro e2 W ⟨v,rfl,(⟨Φi,ρi,hi,s,hq,hl,hk⟩ | ⟨Φi,ρi,c,s,hj,hl,hk⟩)⟩
  ·rw[List.drop_length]at hq
   simp only[rng,Option.some.injEq,Prod.mk.injEq]at hq
   obtain⟨rfl,rfl⟩:=hq
   refine⟨none,_,by have:=run_endLoop (P:=P) hl (by rw[hrec];simp);rw[hrec]at this;exact this,?_⟩
   refine hQ _ _ ⟨Φi,ρi,s.put (Nat.le_succ _) hl (adb _),aaW s.toS.ext hs,dfr ((World.putObj_heap_other (by omega)).trans hk)⟩
  ·refine⟨some c,_,by have:=run_endLoop (P:=P) hl (by rw[hrec];simp);rw[hrec]at this;exact this,?_⟩
   have hq:=hQ { a with defers:=[{ target:=.collected w.heap.size,args:=#[] }]++a.defers } _ ⟨Φi,ρi,s.put (o':=.loop { rec .done (some c)with state:=.exhausted }) (Nat.le_succ _) hl (adb _),aaW s.toS.ext hs,dfr ((World.putObj_heap_other (by omega)).trans hk)⟩
   rw[hrec]at hq
   cases e with
   | normal=>cases hj
   | exit id=>cases hj;exact wpIn_exit hq
   | ret=>cases hj;exact wpIn_ret hq
theorem aj6[hI:ItrOk P](hd:ahv P){cf:aaj}(hcf:aa7 P cf){ann:Ann}:∀ (c:Code) (r:Option Nat) (np n:Nat),(r=none∨ndC c=true)->acJ P r np c (evCode P cf ann np n c):=by
 intro c
 induction c with
 | skip=>
  intro r np n hrd N Q st st' e Φ ρ a w h hs hr hn hQ
  simp only[evCode,Option.some.injEq,Prod.mk.injEq]at h
  obtain⟨rfl,rfl⟩:=h
  exact wpIn_skip (hQ a w ⟨Φ,ρ,StpN.refl hr hn,hs,.of rfl⟩)
 | label l=>
  intro r np n hrd N Q st st' e Φ ρ a w h hs hr hn hQ
  simp only[evCode,Option.some.injEq,Prod.mk.injEq]at h
  obtain⟨rfl,rfl⟩:=h
  exact wpIn_label (hQ a w ⟨Φ,ρ,StpN.refl hr hn,hs,.of rfl⟩)
 | region id ops d=>
  intro r np n hrd N Q st st' e Φ ρ a w h hs hr hn hQ
  simp only[evCode]at h
  split at h
  ·rename_i st1 h1
   obtain⟨Φ1,ρ1,s1,r1⟩:=abn h1 hs hr hn
   split at h
   ·rename_i st2 h2
    simp only[Option.some.injEq,Prod.mk.injEq]at h
    obtain⟨rfl,rfl⟩:=h
    cases d with
    | true=>
     simp only[if_true,an6]at h2
     split at h2
     ·rename_i st3 h3
      have hQ':∀ a' w',Goes Φ1 ρ1 st1.h a w st3 a' w'->Tame Q .normal a' w':=by
       rintro a' w' ⟨Φ2,ρ2,g1,g2,g3⟩
       refine⟨?_,nofun⟩
       have n2:=s1.trans (g1.toN s1.ext.len.2)
       obtain⟨Φ3,ρ3,s3,r3⟩:=abn h2 g2 n2.hr n2.ext.len.2
       exact hQ a' w' ⟨Φ3,ρ3,n2.trans s3,r3,.of g3⟩
      exact aoc hd.1 hrd (hd.2 cf hcf ops (Tame Q) st1 st3 Φ1 ρ1 a w h3 r1 s1.hr hQ')
     ·cases h2
    | false=>
     refine aiL hrd (al8 hcf h2 r1 s1.hr s1.ext.len.2 (λa' w' hg=>⟨?_,nofun⟩))
     obtain⟨Φ2,ρ2,g1,g2,g3⟩:=hg
     exact hQ a' w' ⟨Φ2,ρ2,s1.trans g1,g2,.of g3⟩
   ·cases h
  ·cases h
 | seq x y ihx ihy=>
  intro r np n hrd N Q st st' e Φ ρ a w h hs hr hn hQ
  simp only[evCode]at h
  split at h
  ·rename_i st1 h1
   refine wpIn_seq (ihx r np n (hrd.imp (λh=>h) λh=>(Bool.and_eq_true_iff.1 h).1) N _ st st1 .normal Φ ρ a w h1 hs hr hn ?_)
   rintro a1 w1 ⟨Φ1,ρ1,g1,g2,g3⟩
   simp only[Ex.to,Exit.then]
   exact ihy r np n (hrd.imp (λh=>h) λh=>(Bool.and_eq_true_iff.1 h).2) N Q st1 st' e Φ1 ρ1 a1 w1 h g2 g1.hr g1.ext.len.2 (λa2 w2 hg=>hQ a2 w2 (hg.trans g1 g3))
  ·rename_i hx
   refine wpIn_seq (ihx r np n (hrd.imp (λh=>h) λh=>(Bool.and_eq_true_iff.1 h).1) N _ st st' e Φ ρ a w h hs hr hn (λa' w' hg=>?_))
   have:=hQ a' w' hg
   cases e with
   | normal=>exact absurd h (hx st')
   | exit id=>exact this
   | ret=>exact this
 | cond c x y ihx ihy=>
  intro r np n hrd N Q st st' e Φ ρ a w h hs hr hn hQ
  simp only[evCode]at h
  split at h
  ·rename_i st1 h1
   obtain⟨Φ1,ρ1,s1,r1⟩:=abn h1 hs hr hn
   split at h
   ·rename_i t ht
    have hc:=aaN r1 c
    rw[ht]at hc
    simp only[AR,CR,FVR]at hc
    refine wpIn_cond hc ?_
    cases t with
    | true=>exact ihx r np n (hrd.imp (λh=>h) λh=>(Bool.and_eq_true_iff.1 h).1) N Q st1 st' e Φ1 ρ1 a w h r1 s1.hr s1.ext.len.2 (λa' w' hg=>hQ a' w' (hg.trans s1 (.of rfl)))
    | false=>exact ihy r np n (hrd.imp (λh=>h) λh=>(Bool.and_eq_true_iff.1 h).2) N Q st1 st' e Φ1 ρ1 a w h r1 s1.hr s1.ext.len.2 (λa' w' hg=>hQ a' w' (hg.trans s1 (.of rfl)))
   ·cases h
  ·cases h
 | block id x ih=>
  intro r np n hrd N Q st st' e Φ ρ a w h hs hr hn hQ
  simp only[evCode]at h
  split at h
  ·rename_i id' st1 h1
   refine wpIn_block (ih r np n hrd N _ st st1 (.exit id') Φ ρ a w h1 hs hr hn (λa' w' hg=>?_))
   simp only[Ex.to,Exit.inBlock]
   split at h
   ·rename_i hid
    simp only[Option.some.injEq,Prod.mk.injEq]at h
    obtain⟨rfl,rfl⟩:=h
    rw[if_pos hid]
    exact hQ a' w' hg
   ·rename_i hid
    simp only[Option.some.injEq,Prod.mk.injEq]at h
    obtain⟨rfl,rfl⟩:=h
    rw[if_neg hid]
    exact hQ a' w' hg
  ·rename_i hx
   refine wpIn_block (ih r np n hrd N _ st st' e Φ ρ a w h hs hr hn (λa' w' hg=>?_))
   have:=hQ a' w' hg
   cases e with
   | normal=>exact this
   | exit id'=>exact absurd h (hx id' st')
   | ret=>exact this
 | loop x ih=>
  intro r np n hrd N Q st st' e Φ ρ a w h hs hr hn hQ
  simp only[evCode]at h
  split at h
  ·rename_i e1 st1 h1
   split at h
   ·rename_i st2 h2
    simp only[Option.some.injEq,Prod.mk.injEq]at h
    obtain⟨rfl,rfl⟩:=h
    refine wpIn_loop_rounds n (ajv (ih r np n hrd) n N Q st st1 e1 Φ ρ a w h1 hs hr hn ?_)
    rintro a' w' ⟨Φ1,ρ1,g1,g2,g3⟩
    obtain⟨Φ2,ρ2,q1,q2⟩:=abn h2 g2 g1.hr g1.ext.len.2
    exact hQ a' w' ⟨Φ2,ρ2,g1.trans q1,q2,g3⟩
   ·cases h
  ·cases h
 | exit id=>
  intro r np n hrd N Q st st' e Φ ρ a w h hs hr hn hQ
  simp only[evCode,Option.some.injEq,Prod.mk.injEq]at h
  obtain⟨rfl,rfl⟩:=h
  exact wpIn_exit (hQ a w ⟨Φ,ρ,StpN.refl hr hn,hs,.of rfl⟩)
 | ret=>
  intro r np n hrd N Q st st' e Φ ρ a w h hs hr hn hQ
  simp only[evCode,Option.some.injEq,Prod.mk.injEq]at h
  obtain⟨rfl,rfl⟩:=h
  exact wpIn_ret (hQ a w ⟨Φ,ρ,StpN.refl hr hn,hs,.of rfl⟩)
 | rangeFunc g ps as bd iha ihb=>
  intro r np n hrd N Q st st' e Φ ρ a w h hs hr hn hQ
  have hr0:r=none:=hrd.elim (λh=>h) λh=>by cases h
  subst hr0
  simp only[evCode]at h
  split at h
  ·rename_i f caps hg
   split at h
   ·rename_i b rows hit
    split at h
    ·rename_i hc
     obtain⟨rfl,c1,c2,c3⟩:=hc
     split at h
     ·rename_i e1 h1 hrng
      simp only[Option.some.injEq,Prod.mk.injEq]at h
      obtain⟨rfl,rfl⟩:=h
      refine ao5 (n:=n) c3 hI (λ_ _=>rfl) (λl np=>iha (some l) np n (.inr c1)) (λl np=>ihb (some l) np n (.inr c2)) hit hg hrng hs hr ?_
      rintro a' w' ⟨Φ',ρ',g1,g2,g3⟩
      exact hQ a' w' ⟨Φ',ρ',g1.weak hn,g2,g3⟩
     ·cases h
    ·cases h
   ·cases h
  ·cases h
 | scope=>intro r np n hrd N Q st st' e Φ ρ a w h;simp[evCode]at h
 | goto=>intro r np n hrd N Q st st' e Φ ρ a w h;simp[evCode]at h
 | refuse=>intro r np n hrd N Q st st' e Φ ρ a w h;simp[evCode]at h
def resG(t:Array Value):ResultVar->Sem Value
 |.tmp x=>pure (t.getD x undef)
 |.cell a ty=>do loadVar ty (<-asAddr (t.getD a undef))
theorem results_G(fn:Func)(t:Array Value):results fn t=(do
  let vs <-fn.results.mapM (resG t)
  pure (if h:vs.size=1 then vs[0]else .tuple vs)):=by
 unfold results
 congr 1
theorem ajV{t:TypeId}{g:Bool}{n:Nat}{x r:A}{v:Value}(hg:aggT P t=some g)(hn:szOf P t=some n)(h:loadA H g n x=some r)(hx:AR Φ ρ H x v)(hr:HR Φ ρ H w) :
  ∃ a z,v = .pointer (some a)/\(loadVar t a).run P w = .ok z w/\AR Φ ρ H r z:=by
 unfold loadA at h
 split at h
 ·simp only[AR,CR,FVR]at hx
  obtain⟨c,off,arr,rfl,h1,h2⟩:=hx
  obtain⟨ty,fz,hw⟩:=hr.fro _ _ h1
  obtain⟨z,hz⟩:=ack (P:=P) (ρ:=ρ) (H:=H) (o:=0) hw hg hn h h2
  exact⟨_,z,rfl,by simpa using hz⟩
 ·rename_i b _ i o
  simp only[AR,CR]at hx
  obtain⟨p,rfl,hb,h1⟩:=hx
  split at h
  ·rename_i k hk
   obtain⟨hs,inf,h2,rfl⟩:=h1 k hk
   split at h
   ·rename_i cl hcl
    obtain⟨_,arr,ty,fz,hw,_,_,_,he⟩:=hr.own b k inf hk (Blk.cel_at hcl) h2
    obtain⟨e1,e2,_⟩:=akv he hcl
    obtain⟨z,hz⟩:=ack hw hg hn h e2
    refine⟨_,z,rfl,?_⟩
    rw[<-hs]
    exact hz
   ·cases h
  ·cases h
 ·cases h
theorem akk{t:Array Value}(hs:SR Φ ρ H s t)(hr:HR Φ ρ H w):∀ {l:List ResultVar}{xs:List A},allSome (resV P s H) l=some xs →
  ∃ vs:List Value,(l.mapM (resG t)).run P w = .ok vs w/\ARs Φ ρ H xs vs
 | [],xs,h=>by
  simp only[allSome,Option.some.injEq]at h
  subst h
  exact⟨[],by simp,by simp[ARs]⟩
 | x::r,xs,h=>by
  simp only[allSome]at h
  split at h
  ·rename_i y ys h1 h2
   cases h
   obtain⟨vs,g1,g2⟩:=akk hs hr h2
   have slot:∀ i:Nat,AR Φ ρ H (s.getD i .und) (t.getD i undef):=by
    intro i
    by_cases hi:i<s.length
    ·obtain⟨v,hv,ha⟩:=hs.2 i s[i] (by simp[hi])
     have e1:s.getD i .und=s[i]:=by simp[List.getD_eq_getElem?_getD,hi]
     have e2:t.getD i undef=v:=by simp[Array.getD_eq_getD_getElem?,hv]
     rw[e1,e2];exact ha
    ·have e1:s.getD i .und = .und:=by simp[List.getD_eq_getElem?_getD,List.getElem?_eq_none (Nat.le_of_not_lt hi)]
     rw[e1];simp[AR]
   cases x with
   | cell i ty=>
    simp only[resV]at h1
    split at h1
    ·rename_i g n hg hn
     obtain⟨a,z,q1,q2,q3⟩:=ajV hg hn h1 (slot i) hr
     refine⟨z::vs,by simp[List.mapM_cons,Sem.run_bind,g1,resG,q1,asAddr,q2],?_⟩
     simp only[ARs]
     exact⟨_,_,rfl,q3,g2⟩
    ·cases h1
   | tmp i=>
    cases h1
    refine⟨t.getD i undef::vs,by simp[List.mapM_cons,Sem.run_bind,g1,resG],?_⟩
    simp only[ARs]
    exact⟨_,_,rfl,slot i,g2⟩
  ·cases h
theorem al1{fn:Func}{x:A}{t:Array Value}(h:aio P fn s H=some x)(hs:SR Φ ρ H s t)(hr:HR Φ ρ H w):∃ v,(results fn t).run P w = .ok v w/\AR Φ ρ H x v:=by
 have key:∀ xs,allSome (resV P s H) fn.results.toList=some xs->∃ vs:List Value,(results fn t).run P w = .ok (if h:vs.toArray.size=1 then vs.toArray[0]else .tuple vs.toArray) w/\ARs Φ ρ H xs vs:=by
  intro xs hx
  obtain⟨vs,g1,g2⟩:=akk (P:=P) (w:=w) hs hr hx
  refine⟨vs,?_,g2⟩
  rw[results_G,Array.mapM_eq_mapM_toList]
  simp only[Sem.run_bind,Sem.run_map,g1,Result.andThen_ok,Sem.run_pure]
 have h':(match allSome (resV P s H) fn.results.toList with
  | some [x]=>some x
  | some l=>some (.tup l)
  | none=>none)=some x:=by
  rw[<-h]
  unfold aio
  congr 1
 split at h'
 ·rename_i x' hx
  cases h'
  obtain⟨vs,g1,g2⟩:=key _ hx
  simp only[ARs]at g2
  obtain⟨v,l',rfl,g3,rfl⟩:=g2
  exact⟨v,by simpa using g1,g3⟩
 ·rename_i l hx hl
  cases h'
  obtain⟨vs,g1,g2⟩:=key _ hl
  have:vs.toArray.size≠1:=by
   have h1:=(adv.1 g2).1
   intro h2
   simp only[List.size_toArray]at h2
   rw[h2]at h1
   obtain⟨y,hy⟩:=List.length_eq_one_iff.1 h1
   exact hx y hy
  rw[dif_neg this]at g1
  exact⟨_,g1,by simp only[AR];exact⟨_,rfl,g2⟩⟩
 ·cases h'
def agr(P:Program)(prim:FuncId->Option (List A->Heap->Option (A×Heap))):Prop:=∀ f p,prim f=some p->aa7 P (λg args h=>if g=f then p args h else none)
theorem alk{args:List A}{vals:List Value}{n:Nat}(h:ARs Φ ρ H args vals):SR Φ ρ H (args++List.replicate (n-args.length) undA) (vals.toArray++Array.replicate (n-vals.toArray.size) undef):=by
 have hl:=akz h
 have hu:AR Φ ρ H undA undef:=by simp only[undA,AR];exact⟨#[],rfl,by simp[ARs]⟩
 refine⟨by simp[hl],λi x hx=>?_⟩
 by_cases hi:i<args.length
 ·rw[List.getElem?_append_left hi]at hx
  obtain⟨v,hv,ha⟩:=(adv.1 h).2 i x hx
  refine⟨v,?_,ha⟩
  rw[Array.getElem?_append_left (by simp;omega)]
  simpa using hv
 ·have hi':args.length<=i:=Nat.le_of_not_lt hi
  rw[List.getElem?_append_right hi',List.getElem?_replicate]at hx
  split at hx
  ·rename_i hlt
   cases hx
   refine⟨undef,?_,hu⟩
   rw[Array.getElem?_append_right (by simp;omega),Array.getElem?_replicate,if_pos (by simp;omega)]
  ·cases hx
theorem ahg[ItrOk P](hd:ahv P){cfg:Cfg}{cf:aaj}(hcf:aa7 P cf)(k:Nat):aa7 P (evFun P cfg cf k):=by
 intro f args h r h' hc Φ ρ w vals hr ha
 simp only[evFun]at hc
 split at hc
 ·cases hc
 ·rename_i fn hfn
  split at hc
  ·cases hc
  ·rename_i body hb
   split at hc
   ·rename_i e st he
    refine ajC (n:=0) (callsIn_of_wp_marks hfn hb trivial ?_)
    refine aj6 hd hcf body none h.length k (.inl rfl) 0 _ _ st e Φ ρ _ w he (alk ha) hr (Nat.le_refl _) ?_
    rintro a' w' ⟨Φ1,ρ1,g1,g2,g3⟩
    have fin:∀ st',ghosts h.length (cfg.fin f) st=some st'->(aio P fn st'.s st'.h).map (λx=>leave h.length x st'.h)=some (r,h') →
      LeavesInM (WF none) 0 P fn a'.tmps (λe w'=>∃ v Φ' ρ',e = .returned v/\Stp Φ ρ h w Φ' ρ' h' w'/\AR Φ' ρ' h' r v) a'.defers .returning w':=by
     intro st' hg hres
     obtain⟨ms,hms,hpw,hmk⟩:=g3
     simp only[List.append_nil]at hms
     rw[hms]
     clear hms
     have key:∀ (ms:List Deferred) (w2:World),StpN h.length Φ ρ h w Φ1 ρ1 st.h w2->ms.Pairwise (λm m'=>m.target≠m'.target)->(∀ m∈ms,∃ D,m.target = .collected D/\w.heap.size<=D/\w2.heap[D]?=some (.deferred (some []))) →
       LeavesInM (WF none) 0 P fn a'.tmps (λe w'=>∃ v Φ' ρ',e = .returned v/\Stp Φ ρ h w Φ' ρ' h' w'/\AR Φ' ρ' h' r v) ms .returning w2:=by
      intro ms
      induction ms with
      | nil=>
       intro w2 g1 _ _
       obtain⟨Φ2,ρ2,q1,q2⟩:=abn hg g2 g1.hr g1.ext.len.2
       obtain⟨x,hx,hl⟩:=Option.map_eq_some_iff.1 hres
       simp only[leave,Prod.mk.injEq]at hl
       obtain⟨rfl,rfl⟩:=hl
       obtain⟨v,hv1,hv2⟩:=al1 (P:=P) (w:=w2) hx q2 q1.hr
       obtain⟨r1,r2,r3⟩:=afu h.length st'.h x.refs q1.ext.len.2
       exact⟨v,hv1,v,Φ2,_,rfl,((g1.trans q1).trans (afh q1.hr q1.ext.len.2 r1 r3 (adX _ _ _))).toS,ahY (ahO _) x v hv2⟩
      | cons m ms ih=>
       intro w2 g1 hp hm
       obtain⟨D,d1,d2,d3⟩:=hm m (List.mem_cons_self ..)
       refine⟨nofun,.inl ⟨D,_,d1,run_takeDeferred d3,ih _ (g1.put d2 d3 (abP _)) (List.pairwise_cons.1 hp).2 λm' hm'=>?_⟩⟩
       obtain⟨D',e1,e2,e3⟩:=hm m' (List.mem_cons_of_mem _ hm')
       refine⟨D',e1,e2,(World.putObj_heap_other ?_).trans e3⟩
       rintro rfl
       exact(List.pairwise_cons.1 hp).1 m' hm' (d1.trans e1.symm)
     exact key ms w' g1 hpw hmk
    cases e with
    | exit id=>simp at hc
    | normal=>
     cases hg:ghosts h.length (cfg.fin f) st with
     | none=>simp[hg]at hc
     | some st'=>rw[hg]at hc;exact fin st' hg hc
    | ret=>
     cases hg:ghosts h.length (cfg.fin f) st with
     | none=>simp[hg]at hc
     | some st'=>rw[hg]at hc;exact fin st' hg hc
   ·cases hc
theorem aga{x:FV}{v:Value}(h:amz x=true)(hx:FVR Φ x v):FVR Φ' x v:=by
 cases x <;> simp[amz]at h <;> simpa only[FVR]using hx
theorem af0:∀ {l:List A}{vs:List Value},flatAs l=true->ARs Φ ρ H l vs->ARs Φ' ρ' H' l vs
 | [],vs,_,h=>by simpa[ARs]using h
 |.c (.v x)::r,vs,hf,h=>by
  simp only[flatAs,Bool.and_eq_true]at hf
  simp only[ARs]at h ⊢
  obtain⟨v,l',rfl,h1,h2⟩:=h
  refine⟨v,l',rfl,?_,af0 hf.2 h2⟩
  simp only[AR,CR]at h1 ⊢
  exact aga hf.1 h1
 |.und::_,_,hf,_ |.agp _::_,_,hf,_ |.agm _::_,_,hf,_ |.tup _::_,_,hf,_ |.c .und::_,_,hf,_ |.c (.ptr ..)::_,_,hf,_ |.c (.sl ..)::_,_,hf,_ |.c (.slw ..)::_,_,hf,_ |.c (.fn ..)::_,_,hf,_=>by simp[flatAs]at hf
theorem ala{a:A}{v:Value}(hf:agw a=true)(h:AR Φ ρ H a v):AR Φ' ρ' H' a v:=by
 unfold agw at hf
 split at hf
 ·simp only[AR,CR]at h ⊢
  exact aga hf h
 ·simp only[AR]at h ⊢
  obtain⟨arr,rfl,h⟩:=h
  exact⟨arr,rfl,af0 hf h⟩
 ·cases hf
theorem alN(hr:HR Φ ρ H w){bs0:List Nat}{x y:A}{bs:List Nat}{v:Value}(h:frzA H x=some (y,bs))(hbs:∀ b∈bs,b∈bs0)(hx:AR Φ ρ H x v):AR (aaO Φ ρ H w bs0) ρ' H' y v:=by
 unfold frzA at h
 split at h
 ·simp only[Option.map_eq_some_iff,Prod.mk.injEq]at h
  obtain⟨⟨y',bs'⟩,h1,rfl,rfl⟩:=h
  simp only[AR]at hx
  simp only[AR,CR]
  exact(aex hr deep).1 _ _ _ _ h1 hbs hx
 ·simp only[Option.some.injEq,Prod.mk.injEq]at h
  obtain⟨rfl,rfl⟩:=h
  simp only[AR]at hx ⊢
  obtain⟨arr,rfl,e1,e2⟩:=hx
  exact⟨arr,rfl,e1,abU (λ_ _ h=>adg hr h) _ _ _ e2⟩
 ·simp only[Option.map_eq_some_iff,Prod.mk.injEq]at h
  obtain⟨⟨y',bs'⟩,h1,rfl,rfl⟩:=h
  simp only[AR]at hx
  obtain⟨arr,rfl,e1,e2⟩:=hx
  obtain⟨e3,e4⟩:=(aex hr deep).2.1 _ _ _ _ _ h1 hbs e2
  simp only[AR]
  exact⟨arr,rfl,by omega,e4⟩
 ·cases h
theorem ahe(hr:HR Φ ρ H w){bs0:List Nat}:∀ {l l':List A}{bs:List Nat}{vs:List Value},frzAs H l=some (l',bs)->(∀ b∈bs,b∈bs0)->ARs Φ ρ H l vs->ARs (aaO Φ ρ H w bs0) ρ' H' l' vs
 | [],l',bs,vs,h,_,ha=>by
  simp only[frzAs,Option.some.injEq,Prod.mk.injEq]at h
  obtain⟨rfl,rfl⟩:=h
  simpa[ARs]using ha
 | a::r,l',bs,vs,h,hbs,ha=>by
  simp only[frzAs]at h
  split at h
  ·rename_i x bs1 xs bs2 h1 h2
   simp only[Option.some.injEq,Prod.mk.injEq]at h
   obtain⟨rfl,rfl⟩:=h
   simp only[ARs]at ha ⊢
   obtain⟨v,l',rfl,g1,g2⟩:=ha
   exact⟨v,l',rfl,alN hr h1 (λb hb=>hbs b (by simp[hb])) g1,ahe hr h2 (λb hb=>hbs b (by simp[hb])) g2⟩
  ·cases h
theorem acZ[ItrOk P](hd:ahv P){cfg:Cfg}{prim:FuncId->Option (List A->Heap->Option (A×Heap))}(hp:agr P prim):∀ k:Nat,aa7 P (evCall P cfg prim k)
 | 0=>by intro f args h r h' hc;simp[evCall]at hc
 | k+1=>by
  intro f args h r h' hc Φ ρ w vals hr ha
  simp only[evCall]at hc
  split at hc
  ·rename_i p hpf
   exact hp f p hpf f args h r h' (by simpa using hc) Φ ρ w vals hr ha
  ·split at hc
   ·split at hc
    ·rename_i args' bs hfz
     split at hc
     ·rename_i r1 h1 hev
      split at hc
      ·rename_i hflat
       simp only[Option.some.injEq,Prod.mk.injEq]at hc
       obtain⟨rfl,rfl⟩:=hc
       have stp:=ael hr bs
       have hr0:HR (aaO Φ ρ h w bs) (λ_=>none) [] w:=⟨stp.hr.fro,λb k inf hl=>by simp[live]at hl,λb b' k k' inf inf' hl=>by simp[live]at hl,stp.hr.glo,λb kk es inf hl=>by simp[live]at hl⟩
       have ha0:ARs (aaO Φ ρ h w bs) (λ_=>none) [] args' vals:=ahe hr hfz (λ_ h=>h) ha
       refine(ahg hd (acZ hd hp k) k f args' [] r1 h1 hev _ _ w vals hr0 ha0).mono ?_
       rintro e w' ⟨v,Φ',ρ',rfl,g1,g2⟩
       have same:∀ c,c<w.heap.size->w'.heap[c]?=w.heap[c]?:=λc hc=>g1.fr c hc (by rintro ⟨b,k,inf,hk,_⟩;simp[live]at hk)
       have lt:∀ {c arr ty fz},w.heap[c]?=some (.cells arr ty fz)->c<w.heap.size:=λhx=>(Array.getElem?_eq_some_iff.1 hx).1
       refine⟨v,Φ,ρ,rfl,⟨⟨λ_ _ h=>h,Nat.le_refl _,λ_ _=>rfl,λb k' _ hk=>⟨k',hk,rfl,rfl⟩⟩,⟨?_,?_,hr.inj,hr.glo,?_⟩,λc hc _=>same c hc,λc hc=>.inl hc,λc arr hx=>.inl hx,g1.sz,g1.io⟩,ala hflat g2⟩
       ·intro c arr hx
        obtain⟨ty,fz,hw⟩:=hr.fro c arr hx
        exact⟨ty,fz,by rw[same c (lt hw)];exact hw⟩
       ·intro b k inf hk hm hi
        obtain⟨q1,arr,ty,fz,q2,q3⟩:=hr.own b k inf hk hm hi
        exact⟨q1,arr,ty,fz,by rw[same _ (lt q2)];exact q2,q3⟩
       ·intro b kk es inf hk hi
        obtain⟨q1,l,q,q2,q3⟩:=hr.mps b kk es inf hk hi
        exact⟨q1,l,q,by rw[same _ (Array.getElem?_eq_some_iff.1 q2).1];exact q2,q3⟩
      ·cases hc
     ·cases hc
    ·cases hc
   ·exact ahg hd (acZ hd hp k) k f args h r h' hc Φ ρ w vals hr ha
end Go.Ev
