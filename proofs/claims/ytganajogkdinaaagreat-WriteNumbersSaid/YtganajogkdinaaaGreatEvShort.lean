import Derived.Test.YtganajogkdinaaaGreatEvClone
import Derived.KernelRfl
set_option linter.all false
namespace Go.Ev
variable[Itr]
abbrev FV.i(n:Int):FV:=.int .i64 n
abbrev C.i(n:Int):C:=.v (.int .i64 n)
abbrev A.i(n:Int):A:=.c (.v (.int .i64 n))
abbrev C.b(x:Bool):C:=.v (.bool x)
abbrev A.b(x:Bool):A:=.c (.v (.bool x))
abbrev C.t(x:ByteArray):C:=.v (.str x)
abbrev A.t(x:ByteArray):A:=.c (.v (.str x))
section
variable{β:Type}
abbrev FV.l(z:Nat)(e:β->List FV)(l:List β):FV:=.sl z (l.map e) none
abbrev C.l(z:Nat)(e:β->List FV)(l:List β):C:=.v (.sl z (l.map e) none)
abbrev A.l(z:Nat)(e:β->List FV)(l:List β):A:=.c (.v (.sl z (l.map e) none))
abbrev bl(z:Nat)(e:β->List FV)(l:List β):Option Blk:=some (.pur z (l.map e))
end
abbrev FV.n:FV:=.sl 0 [] (some 0)
abbrev C.n:C:=.v (.sl 0 [] (some 0))
abbrev A.n:A:=.c (.v (.sl 0 [] (some 0)))
abbrev A.o(b z n:Nat):A:=.c (.slw b z n)
abbrev A.p(b z i o:Nat):A:=.c (.ptr b z i o)
abbrev bm(z:Nat)(x:List C):Option Blk:=some (.mix z [x])
abbrev bp(z:Nat)(x:List FV):Option Blk:=some (.pur z [x])
section
variable{α β γ:Type}
abbrev Sc.bq(r i:Nat)(s:Tmp)(neg:Bool)(p:Prop)[d:Decidable p](t e:Sc α):Sc α:=.brp r i s neg p d t e
abbrev Sc.as(r i:Nat)(p:Prop)[d:Decidable p](t:p->Sc α):Sc α:=.asm r i p d t
abbrev Sc.ch(r i:Nat)(p:Prop)[d:Decidable p]{ps:List Prop}(pf:p->All ps)(t:Sc α):Sc α:=.chk r i p d ps pf t
abbrev Sc.rS(r i:Nat)(s:Tmp){a a':A}(pf:a=a')(t:Sc α):Sc α:=.rwS r i s a a' pf t
abbrev Sc.rB(r i:Nat)(b:Nat){k k':Blk}(pf:k=k')(t:Sc α):Sc α:=.rwB r i b k k' pf t
abbrev Sc.cl(r i:Nat){cf:aaj}{f:FuncId}{args:List A}{h:Heap}{o:Option β}{e:β->A×Heap}(pf:∀ b,o=some b->cf f args h=some (e b))(t:β->Sc α):Sc α:=.op r i (Rd.call pf) t
abbrev Rd.ft(b:Bool)(ps:List Prop)(p:Prop)[d:Decidable p](pf:p->All ps):Rd Unit:=Rd.fit b ps p d pf
end
section
variable(P:Program)(cfg:Cfg)(prim:FuncId->Option (List A->Heap->Option (A×Heap)))
abbrev SimP(k:Nat)(f:FuncId){α:Type}(io:List A×Heap)(enc:α->A×Heap)(s:Sc α):Prop:=
 acq P (evCall P cfg prim k) cfg f io.1 io.2 enc s=s.triv (λa=>some (enc a)=some (enc a))
abbrev OkP(k:Nat)(f:FuncId){α:Type}(io:List A×Heap)(enc:α->A×Heap)(o:Option α):Prop:=∀ r,o=some r->evCall P cfg prim k f io.1 io.2=some (enc r)
end
section
variable{P:Program}{cfg:Cfg}{prim:FuncId->Option (List A->Heap->Option (A×Heap))}{f:FuncId}{α:Type}{io:List A×Heap}{enc:α->A×Heap}{F:Nat->Option α}{s:Nat->Sc α}
theorem okP(F:Nat->Option α)(s:Nat->Sc α)(h0:F 0=none)(hr:∀ k,F (k+1)=(s k).run k)(hs:∀ k,acq P (evCall P cfg prim k) cfg f io.1 io.2 enc (s k)=(s k).triv (λa=>some (enc a)=some (enc a)))(hn:prim f=none)(hb:cfg.bor f=false)(k:Nat):OkP P cfg prim k f io enc (F k):=by
 intro r h
 cases k with
 | zero=>rw[h0]at h;cases h
 | succ k=>rw[hr]at h;exact ae0 (hs k) hn hb h
theorem okB(F:Nat->Option α)(s:Nat->Sc α)(h0:F 0=none)(hr:∀ k,F (k+1)=(s k).run k)(hs:∀ k,acq P (evCall P cfg prim k) cfg f io.1 io.2 enc (s k)=(s k).triv (λa=>some (enc a)=some (enc a)))(hn:prim f=none)(hb:cfg.bor f=true)(hi:io.2=[])(hz:(frzAs [] io.1).map Prod.fst=some io.1)(he:∀ a,agw (enc a).1=true/\(enc a).2=[])(k:Nat):OkP P cfg prim k f io enc (F k):=by
 intro r h
 cases k with
 | zero=>rw[h0]at h;cases h
 | succ k=>
  rw[hr]at h
  have:=hs k
  obtain⟨x,y⟩:=io
  simp only at hi
  subst hi
  exact amd this hn hb hz he h
theorem oP(s:Nat->Sc α)(k:Nat)(h0:F 0=none:=by exact rfl)(hr:∀ k,F (k+1)=(s k).run k:=by intro k;kernel_rfl)(hs:∀ k,acq P (evCall P cfg prim k) cfg f io.1 io.2 enc (s k)=(s k).triv (λa=>some (enc a)=some (enc a)):=by intro k;kernel_rfl)(hn:prim f=none:=by exact rfl)(hb:cfg.bor f=false:=by exact rfl):OkP P cfg prim k f io enc (F k):=okP F s h0 hr hs hn hb k
theorem oB(s:Nat->Sc α)(k:Nat)(h0:F 0=none:=by exact rfl)(hr:∀ k,F (k+1)=(s k).run k:=by intro k;kernel_rfl)(hs:∀ k,acq P (evCall P cfg prim k) cfg f io.1 io.2 enc (s k)=(s k).triv (λa=>some (enc a)=some (enc a)):=by intro k;kernel_rfl)(hn:prim f=none:=by exact rfl)(hb:cfg.bor f=true:=by exact rfl)(hi:io.2=[]:=by exact rfl)(hz:(frzAs [] io.1).map Prod.fst=some io.1:=by kernel_rfl)(he:∀ a,agw (enc a).1=true/\(enc a).2=[]:=by exact λ_=>⟨rfl,rfl⟩):OkP P cfg prim k f io enc (F k):=okB F s h0 hr hs hn hb hi hz he k
end
end Go.Ev
namespace Prod
variable{a b c d e f g h i j k l m:Type}
abbrev q1(x:a×b×c):b:=x.2.1
abbrev q2(x:a×b×c×d):c:=x.2.2.1
abbrev q3(x:a×b×c×d×e):d:=x.2.2.2.1
abbrev q4(x:a×b×c×d×e×f):e:=x.2.2.2.2.1
abbrev q5(x:a×b×c×d×e×f×g):f:=x.2.2.2.2.2.1
abbrev q6(x:a×b×c×d×e×f×g×h):g:=x.2.2.2.2.2.2.1
abbrev q7(x:a×b×c×d×e×f×g×h×i):h:=x.2.2.2.2.2.2.2.1
abbrev q8(x:a×b×c×d×e×f×g×h×i×j):i:=x.2.2.2.2.2.2.2.2.1
abbrev q9(x:a×b×c×d×e×f×g×h×i×j×k):j:=x.2.2.2.2.2.2.2.2.2.1
abbrev q10(x:a×b×c×d×e×f×g×h×i×j×k×l):k:=x.2.2.2.2.2.2.2.2.2.2.1
abbrev q11(x:a×b×c×d×e×f×g×h×i×j×k×l×m):l:=x.2.2.2.2.2.2.2.2.2.2.2.1
abbrev l2(x:a×b×c):c:=x.2.2
abbrev l3(x:a×b×c×d):d:=x.2.2.2
abbrev l4(x:a×b×c×d×e):e:=x.2.2.2.2
abbrev l5(x:a×b×c×d×e×f):f:=x.2.2.2.2.2
abbrev l6(x:a×b×c×d×e×f×g):g:=x.2.2.2.2.2.2
abbrev l7(x:a×b×c×d×e×f×g×h):h:=x.2.2.2.2.2.2.2
abbrev l8(x:a×b×c×d×e×f×g×h×i):i:=x.2.2.2.2.2.2.2.2
end Prod
