import Derived.Orders
import Derived.Tactics
set_option linter.all false
namespace Go.Ev
inductive FV where
 | bool (b:Bool)
 | int (k:IntKind) (n:Int)
 | flt (k:FloatKind) (b:Nat)
 | str (s:ByteArray)
 | nilp
 | nilfn
 | nili
 | ref (cs:List FV)
 | sl (sz:Nat) (els:List (List FV)) (cap:Option Nat)
 | fn (f:FuncId) (caps:List FV)
 | iface (t:TypeId) (v:FV)
 deriving Inhabited
inductive C where
 | und
 | v (x:FV)
 | ptr (b sz i o:Nat)
 | sl (b sz i n:Nat) (cap:Option Nat)
 | slw (b sz n:Nat)
 | fn (f:FuncId) (caps:List C)
 | mp (b:Nat)
 deriving Inhabited
inductive A where
 | und
 | c (x:C)
 | agp (cs:List FV)
 | agm (cs:List C)
 | tup (vs:List A)
 deriving Inhabited
inductive Blk where
 | pur (sz:Nat) (els:List (List FV))
 | mix (sz:Nat) (els:List (List C))
 | mp (kk:Option IntKind) (es:List (FV×FV))
 deriving Inhabited
abbrev Heap:=List (Option Blk)
structure St where
 s:List A
 h:Heap
 deriving Inhabited
abbrev A.f(x:FV):A:=.c (.v x)
abbrev A.int(k:IntKind)(n:Int):A:=.c (.v (.int k n))
abbrev A.bool(b:Bool):A:=.c (.v (.bool b))
abbrev undA:A:=.tup []
def constF:Value->Option FV
 |.bool b=>some (.bool b)
 |.int k n=>some (.int k n)
 |.float k b=>some (.flt k b)
 |.string s=>some (.str s)
 |.pointer none=>some .nilp
 |.slice none n k=>if n=0/\k=0 then some (.sl 0 [] (some 0))else none
 |.nilFunc=>some .nilfn
 |.nilIface=>some .nili
 |.func (.func f) a b=>if a.size=0/\b.size=0 then some (.fn f [])else none
 |_=>none
def allSome{α β:Type}(g:α->Option β):List α->Option (List β)
 | []=>some []
 | x::r=>match g x,allSome g r with
  | some y,some ys=>some (y::ys)
  |_,_=>none
def ahC:Value->A
 |.agg a=>match allSome constF a.toList with
  | some l=>.agp l
  | none=>.und
 |.tuple a=>if a.size=0 then .tup []else .und
 | v=>match constF v with
  | some x=>.c (.v x)
  | none=>.und
def opd(s:List A):Operand->A
 |.tmp t=>s.getD t .und
 |.const v=>ahC v
 |.func f=>.c (.v (.fn f []))
 |.global _=>.und
def szOf(P:Program)(t:TypeId):Option Nat:=(P.info? t).map (·.size)
def aggT(P:Program)(t:TypeId):Option Bool:=match P.underlying t with
 | some (.struct _) | some (.array _ _)=>some true
 | some _=>some false
 | none=>none
def aen(P:Program)(t:TypeId):Option TypeId:=match P.underlying t with
 | some (.slice e)=>some e
 |_=>none
def bytesT(P:Program)(t:TypeId):Option Nat:=(P.info? t).map (·.bytes)
def acn(P:Program)(t:TypeId):Option (List FV):=match(P.info? t).bind (·.zero)with
 | some v=>allSome constF v.cells.toList
 | none=>none
inductive CL where
 | p (l:List FV)
 | m (l:List C)
def CL.c:CL->List C
 |.p l=>l.map .v
 |.m l=>l
def CL.len:CL->Nat
 |.p l=>l.length
 |.m l=>l.length
def acD:A->Option CL
 |.c (.v x)=>some (.p [x])
 |.c x=>some (.m [x])
 |.agp l=>some (.p l)
 |.agm l=>some (.m l)
 |_=>none
def CL.part(cl:CL)(agg:Bool)(off n:Nat):Option A:=
 match agg,cl with
 | true,.p l=>if off+n<=l.length then some (.agp ((l.drop off).take n))else none
 | true,.m l=>if off+n<=l.length then some (.agm ((l.drop off).take n))else none
 | false,.p l=>(l[off]?).map λx=>.c (.v x)
 | false,.m l=>(l[off]?).map .c
def CL.put(cl:CL)(off:Nat)(x:CL):CL:=
 match cl,x with
 |.p l,.p y=>.p (l.take off++y++l.drop (off+y.length))
 |.p l,.m y=>.m ((l.map .v).take off++y++(l.map .v).drop (off+y.length))
 |.m l,.p y=>.m (l.take off++y.map .v++l.drop (off+y.length))
 |.m l,.m y=>.m (l.take off++y++l.drop (off+y.length))
def ac7(op:BinOp)(k:IntKind)(a:Int)(k':IntKind)(b:Int):Option FV:=
 match op with
 |.shl=>if b<0 then none else some (.int k (k.wrap (a*2 ^ (min b.toNat k.bits))))
 |.shr=>if b<0 then none else some (.int k (a.fdiv (2 ^ (min b.toNat k.bits))))
 | op=>if k=k' then(match op with
  |.add=>some (.int k (k.wrap (a+b)))
  |.sub=>some (.int k (k.wrap (a-b)))
  |.mul=>some (.int k (k.wrap (a*b)))
  |.quo=>if b=0 then none else some (.int k (k.wrap (a.tdiv b)))
  |.rem=>if b=0 then none else some (.int k (a.tmod b))
  |.and=>some (.int k (k.wrap ((BitVec.ofInt k.bits a &&& BitVec.ofInt k.bits b).toNat)))
  |.or=>some (.int k (k.wrap ((BitVec.ofInt k.bits a ||| BitVec.ofInt k.bits b).toNat)))
  |.xor=>some (.int k (k.wrap ((BitVec.ofInt k.bits a ^^^ BitVec.ofInt k.bits b).toNat)))
  |.andNot=>some (.int k (k.wrap ((BitVec.ofInt k.bits a &&& ~~~ BitVec.ofInt k.bits b).toNat)))
  |.eql=>some (.bool (a == b))
  |.neq=>some (.bool (a != b))
  |.lss=>some (.bool (a<b))
  |.leq=>some (.bool (a<=b))
  |.gtr=>some (.bool (a>b))
  |.geq=>some (.bool (a≥b))
  |_=>none)else none
def af8(op:BinOp)(x y:ByteArray):Option FV:=
 match op with
 |.add=>if((x.size+y.size:Nat):Int)>IntKind.i64.max then none else some (.str (x++y))
 |.eql=>some (.bool (x.toList == y.toList))
 |.neq=>some (.bool !(x.toList == y.toList))
 |.lss=>some (.bool (Op.bytesLess x.toList y.toList))
 |.leq=>some (.bool (Op.bytesLess x.toList y.toList||x.toList == y.toList))
 |.gtr=>some (.bool !(Op.bytesLess x.toList y.toList||x.toList == y.toList))
 |.geq=>some (.bool !(Op.bytesLess x.toList y.toList))
 |_=>none
def ag6:C->Option Bool
 |.v (.sl sz els cap)=>if 0<els.length then some false else if cap.isSome then some (sz == 0)else none
 |.sl _ _ _ n cap=>if 0<n then some false else if cap.isSome then some false else none
 |.slw _ _ n=>if 0<n then some false else none
 |_=>none
def eqC(P:Program)(t:TypeId):FV->FV->Option Bool
 |.int k a,.int k' b=>match P.underlying t with
  | some (.int _)=>if k=k' then some (a == b)else none
  |_=>none
 |.bool a,.bool b=>match P.underlying t with
  | some .bool=>some (a == b)
  |_=>none
 |.str a,.str b=>match P.underlying t with
  | some .string=>some (a.toList == b.toList)
  |_=>none
 |_,_=>none
def eqFs(P:Program)(xs ys:List FV):List Field->Option Bool
 | []=>some true
 | f :: r => if f.name = "_" then none else match aggT P f.type, xs[f.offset]?, ys[f.offset]? with
  | some false,some x,some y=>(match eqC P f.type x y,eqFs P xs ys r with
   | some a,some b=>some (a&&b)
   |_,_=>none)
  |_,_,_=>none
def eqN(P:Program)(t:TypeId):A->A->Option Bool
 |.c (.v (.bool a)),.c (.v (.bool b))=>match P.underlying t with
  | some .bool=>some (a == b)
  |_=>none
 |.agp xs,.agp ys=>match P.underlying t with
  | some (.struct fs)=>if P.stoodInHeld t=false/\P.eqGuardType P.depth t=false then eqFs P xs ys fs.toList else none
  |_=>none
 |.c x,.c y=>match P.underlying t with
  | some (.pointer _)=>(match x,y with
   |.v .nilp,.v .nilp=>some true
   |.v .nilp,.ptr .. |.v .nilp,.v (.ref _) |.ptr ..,.v .nilp |.v (.ref _),.v .nilp=>some false
   |_,_=>none)
  | some (.interface _)=>(match x,y with
   |.v .nili,.v (.iface ..) |.v (.iface ..),.v .nili=>some false
   |_,_=>none)
  | some (.func ..)=>(match x,y with
   |.v .nilfn,.v .nilfn=>some true
   |.v .nilfn,.fn .. |.fn ..,.v .nilfn |.v .nilfn,.v (.fn ..) |.v (.fn ..),.v .nilfn=>some false
   |_,_=>none)
  | some (.slice _)=>(match y with
   |.v (.sl 0 [] (some 0))=>ag6 x
   |_=>none)
  |_=>none
 |_,_=>none
def binA(P:Program)(op:BinOp)(t:TypeId)(x y:A):Option A:=
 match x,y with
 |.c (.v (.int k a)),.c (.v (.int k' b))=>(ac7 op k a k' b).map λr=>.c (.v r)
 |.c (.v (.str a)),.c (.v (.str b))=>(af8 op a b).map λr=>.c (.v r)
 | x,y=>(match op with
  |.eql=>(eqN P t x y).map λb=>.c (.v (.bool b))
  |.neq=>(eqN P t x y).map λb=>.c (.v (.bool !b))
  |_=>none)
def unA(op:UnOp):A->Option A
 |.c (.v (.int k n))=>(match op with
  |.neg=>some (.c (.v (.int k (k.wrap (0-n)))))
  |.xor=>some (.c (.v (.int k (k.wrap ((BitVec.ofInt k.bits (if k.signed then -1 else k.max) ^^^ BitVec.ofInt k.bits n).toNat)))))
  |_=>none)
 |.c (.v (.bool b))=>(match op with
  |.not=>some (.c (.v (.bool !b)))
  |_=>none)
 |_=>none
def convA(P:Program)(src dst:TypeId)(x:A):Option A:=
 match P.underlying src,P.underlying dst,x with
 | some _,some (.int k),.c (.v (.int _ n))=>some (.c (.v (.int k (k.wrap n))))
 | some _,some .string,.c (.v (.int _ n))=>some (.c (.v (.str (Utf8.encode n))))
 | some _,some .string,.c (.v (.str s))=>some (.c (.v (.str s)))
 |_,_,_=>none
def afz(P:Program)(s:TypeId)(f:Nat):Option Field:=match P.underlying s with
 | some (.struct fs)=>fs[f]?
 |_=>none
def ac9(P:Program)(s:TypeId)(x:A)(f:Nat):Option A:=
 match afz P s f with
 | some fd=>(match szOf P fd.type with
  | some (_+1)=>(match x with
   |.c (.v (.ref cs))=>if fd.offset<=cs.length then some (.c (.v (.ref (cs.drop fd.offset))))else none
   |.c (.ptr b sz i o)=>some (.c (.ptr b sz i (o+fd.offset)))
   |_=>none)
  |_=>none)
 | none=>none
def akr(P:Program)(t:TypeId)(x:A)(f:Nat):Option A:=
 match afz P t f with
 | some fd=>(match aggT P fd.type,szOf P fd.type with
  | some g,some n=>(match x with
   |.agp l=>CL.part (.p l) g fd.offset n
   |.agm l=>CL.part (.m l) g fd.offset n
   |_=>none)
  |_,_=>none)
 | none=>none
def indexAddrA(P:Program)(t:TypeId)(x ix:A):Option A:=
 match aen P t,ix with
 | some e,.c (.v (.int _ n))=>(match szOf P e,x with
  | some sz',.c (.v (.sl sz els _))=>if sz'=sz/\0<=n then(match els[n.toNat]? with
   | some cs=>some (.c (.v (.ref cs)))
   | none=>none)else none
  | some sz',.c (.sl b sz i m _)=>if sz'=sz then(if 0<=n/\n<(m:Int)then some (.c (.ptr b sz (i+n.toNat) 0))else none)else none
  | some sz',.c (.slw b sz m)=>if sz'=sz then(if 0<=n/\n<(m:Int)then some (.c (.ptr b sz n.toNat 0))else none)else none
  |_,_=>none)
 |_,_=>none
def indexA(P:Program)(t:TypeId)(x ix:A):Option A:=
 match P.underlying t,x,ix with
 | some .string,.c (.v (.str s)),.c (.v (.int _ n))=>if 0<=n then(match s[n.toNat]? with
  | some b=>some (.c (.v (.int .u8 b.toNat)))
  | none=>none)else none
 |_,_,_=>none
def natA:A->Option Nat
 |.c (.v (.int _ n))=>if 0<=n then some n.toNat else none
 |_=>none
def bnd(s:List A)(lo hi mx:Option Operand)(len:Nat):Option (Nat×Nat×Option Nat):=
 match(match lo with | some x=>natA (opd s x) | none=>some 0),(match hi with | some x=>natA (opd s x) | none=>some len)with
 | some l,some h=>(match mx with
  | none=>some (l,h,none)
  | some x=>(match hi with
   | some _=>(natA (opd s x)).map λm=>(l,h,some m)
   | none=>none))
 |_,_=>none
def ady(P:Program)(t:TypeId)(s:List A)(x:A)(lo hi mx:Option Operand):Option A:=
 match P.underlying t,x with
 | some .string,.c (.v (.str b))=>(match bnd s lo hi mx b.size with
  | some (l,h,none)=>if l<=h/\h<=b.size then some (.c (.v (.str (b.extract l h))))else none
  |_=>none)
 | some (.slice e),.c (.v (.sl sz els cap))=>(match szOf P e,bnd s lo hi mx els.length with
  | some sz',some (l,h,m)=>if(sz'=sz∨sz=0)/\l<=h/\h<=els.length then(match m with
   | none=>some (.c (.v (.sl sz ((els.take h).drop l) (cap.map (· - l)))))
   | some m=>if h<=m/\m<=els.length/\(cap≠none∨0<els.length)then some (.c (.v (.sl sz ((els.take h).drop l) (some (m-l)))))else none)else none
  |_,_=>none)
 | some (.slice e),.c (.sl b sz i n cap)=>(match szOf P e,bnd s lo hi mx n with
  | some sz',some (l,h,m)=>if sz'=sz/\l<=h/\h<=n then(match m with
   | none=>some (.c (.sl b sz (i+l) (h-l) (cap.map (· - l))))
   | some m=>if h<=m/\m<=n/\(cap≠none∨0<n)then some (.c (.sl b sz (i+l) (h-l) (some (m-l))))else none)else none
  |_,_=>none)
 | some (.slice e),.c (.slw b sz n)=>(match szOf P e,bnd s lo hi mx n with
  | some sz',some (l,h,m)=>if sz'=sz/\l<=h/\h<=n then(match m with
   | none=>some (.c (.sl b sz l (h-l) none))
   | some m=>if h<=m/\m<=n/\0<n then some (.c (.sl b sz l (h-l) (some (m-l))))else none)else none
  |_,_=>none)
 |_,_=>none
def akh(place:Nat->Option (Nat×Nat))(acc:CL):List (Nat×A)->Option CL
 | []=>some acc
 | (i,x)::r=>match place i,acD x with
  | some (off,n),some cl=>if cl.len=n/\off+n<=acc.len then akh place (acc.put off cl) r else none
  |_,_=>none
def CL.agg:CL->A
 |.p l=>.agp l
 |.m l=>.agm l
def akW(P:Program)(t:TypeId):Option (Nat->Option (Nat×Nat)):=match P.underlying t with
 | some (.struct fs)=>(allSome (λf:Field=>(szOf P f.type).map λn=>(f.offset,n)) fs.toList).map λl i=>l[i]?
 |_=>none
def ajm(P:Program)(t:TypeId)(parts:List (Nat×A)):Option A:=
 match acn P t,akW P t with
 | some z,some pl=>(akh pl (.p z) parts).map CL.agg
 |_,_=>none
def lenT(P:Program)(t:TypeId)(x:A):Option A:=
 match P.underlying t,x with
 | some .string,.c (.v (.str s))=>some (.int .i64 s.size)
 | some (.slice _),.c (.v (.sl _ els _))=>some (.int .i64 els.length)
 | some (.slice _),.c (.sl _ _ _ n _)=>some (.int .i64 n)
 | some (.slice _),.c (.slw _ _ n)=>some (.int .i64 n)
 |_,_=>none
def capT(P:Program)(t:TypeId)(x:A):Option A:=
 match P.underlying t,x with
 | some (.slice _),.c (.v (.sl _ _ (some k)))=>some (.int .i64 k)
 | some (.slice _),.c (.sl _ _ _ _ (some k))=>some (.int .i64 k)
 |_,_=>none
def minA:List A->Option A
 | []=>none
 | x::r=>r.foldl (λacc y=>match acc,y with
  | some (.c (.v (.int k a))),.c (.v (.int k' b))=>if k=k' then some (.c (.v (.int k (if b<a then b else a))))else none
  |_,_=>none) (some x)
def maxA:List A->Option A
 | []=>none
 | x::r=>r.foldl (λacc y=>match acc,y with
  | some (.c (.v (.int k a))),.c (.v (.int k' b))=>if k=k' then some (.c (.v (.int k (if b>a then b else a))))else none
  |_,_=>none) (some x)
def amP:A->Option C
 |.c x=>some x
 |_=>none
def sil(P:Program)(s:List A):Op->Option A
 |.move x |.assign x=>some (opd s x)
 |.pick c a b=>match opd s c with
  |.c (.v (.bool t))=>some (bif t then opd s a else opd s b)
  |_=>none
 |.nilCheck x=>match opd s x with
  |.c (.ptr b sz i o)=>some (.c (.ptr b sz i o))
  |.c (.v (.ref cs))=>some (.c (.v (.ref cs)))
  |.c (.v (.fn f caps))=>some (.c (.v (.fn f caps)))
  |.c (.fn f caps)=>some (.c (.fn f caps))
  |_=>none
 |.binOp op t x y _=>binA P op t (opd s x) (opd s y)
 |.unOp op _ x=>unA op (opd s x)
 |.convert src dst x=>convA P src dst (opd s x)
 |.makeInterface t x=>match P.underlying t,opd s x with
  | some (.interface _),_=>none
  | some _,.c (.v v)=>some (.c (.v (.iface t v)))
  |_,_=>none
 |.makeFunc (.func f) first caps=>if first.size=0 then(allSome amP (caps.toList.map (opd s))).map λl=>.c (.fn f l)else none
 |.slice t x lo hi mx=>ady P t s (opd s x) lo hi mx
 |.fieldAddr t x f=>ac9 P t (opd s x) f
 |.field t x f=>akr P t (opd s x) f
 |.indexAddr t x ix=>indexAddrA P t (opd s x) (opd s ix)
 |.index t x ix=>indexA P t (opd s x) (opd s ix)
 |.extract x i=>match opd s x with
  |.tup vs=>vs[i]?
  |_=>none
 |.build t parts=>ajm P t (parts.toList.map λ(i,x)=>(i,opd s x))
 |.call { callee:=.builtin .len,args,argTypes }=>match argTypes[0]?,args[0]? with
  | some t,some x=>lenT P t (opd s x)
  |_,_=>none
 |.call { callee:=.builtin .cap,args,argTypes }=>match argTypes[0]?,args[0]? with
  | some t,some x=>capT P t (opd s x)
  |_,_=>none
 |.call { callee:=.builtin .min,args,.. }=>minA (args.toList.map (opd s))
 |.call { callee:=.builtin .max,args,.. }=>maxA (args.toList.map (opd s))
 |_=>none
def Blk.sz:Blk->Nat
 |.pur sz _ |.mix sz _=>sz
 |.mp _ _=>0
def Blk.len:Blk->Nat
 |.pur _ els=>els.length
 |.mix _ els=>els.length
 |.mp _ _=>0
def Blk.at(i:Nat):Blk->Option CL
 |.pur _ els=>(els[i]?).map .p
 |.mix _ els=>(els[i]?).map .m
 |.mp _ _=>none
def Blk.isMp:Blk->Bool
 |.mp _ _=>true
 |_=>false
def Blk.els:Blk->List (List C)
 |.pur _ els=>els.map (·.map .v)
 |.mix _ els=>els
 |.mp _ _=>[]
def Blk.setAt(i:Nat)(cl:CL):Blk->Blk
 |.pur sz els=>match cl with
  |.p l=>.pur sz (els.set i l)
  |.m l=>.mix sz ((els.map (·.map .v)).set i l)
 |.mix sz els=>.mix sz (els.set i cl.c)
 |.mp kk es=>.mp kk es
def live(h:Heap)(b:Nat):Option Blk:=match h[b]? with
 | some (some k)=>some k
 |_=>none
def akU(h:Heap)(b:Nat):Option Blk:=match live h b with
 | some (.mp _ _)=>none
 | x=>x
def loadA(h:Heap)(agg:Bool)(n:Nat):A->Option A
 |.c (.v (.ref cs))=>CL.part (.p cs) agg 0 n
 |.c (.ptr b _ i o)=>match live h b with
  | some k=>(match k.at i with
   | some cl=>cl.part agg o n
   | none=>none)
  | none=>none
 |_=>none
def storeA(h:Heap)(n:Nat)(x v:A):Option Heap:=
 match x,acD v with
 |.c (.ptr b _ i o),some cl=>if cl.len=n then(match live h b with
  | some k=>(match k.at i with
   | some old=>if o+n<=old.len then some (h.set b (some (k.setAt i (old.put o cl))))else none
   | none=>none)
  | none=>none)else none
 |_,_=>none
inductive EL where
 | p (l:List (List FV))
 | m (l:List (List C))
def EL.c:EL->List (List C)
 |.p l=>l.map (·.map .v)
 |.m l=>l
def EL.len:EL->Nat
 |.p l=>l.length
 |.m l=>l.length
def EL.app:EL->EL->EL
 |.p a,.p b=>.p (a++b)
 |.p a,.m b=>.m (a.map (·.map .v)++b)
 |.m a,.p b=>.m (a++b.map (·.map .v))
 |.m a,.m b=>.m (a++b)
def EL.mid(e:EL)(i n:Nat):EL:=match e with
 |.p l=>.p ((l.drop i).take n)
 |.m l=>.m ((l.drop i).take n)
def EL.blk(sz:Nat):EL->Blk
 |.p l=>.pur sz l
 |.m l=>.mix sz l
def Blk.el:Blk->EL
 |.pur _ l=>.p l
 |.mix _ l=>.m l
 |.mp _ _=>.p []
def elsA(h:Heap)(sz:Nat):A->Option EL
 |.c (.v (.sl z els _))=>if z=sz∨z=0 then some (.p els)else none
 |.c (.sl b z i n _)=>if z=sz then(live h b).map λk=>k.el.mid i n else none
 |.c (.slw b z _)=>if z=sz then(live h b).map (·.el)else none
 |.c (.v (.str s))=>if sz=1 then some (.p (s.data.toList.map λb=>[.int .u8 b.toNat]))else none
 |_=>none
def elsN(h:Heap)(sz:Nat):A->Option EL
 |.c (.v (.str _))=>none
 | x=>elsA h sz x
def EL.over(e:EL)(i:Nat)(x:EL):EL:=(e.mid 0 i).app (x.app (e.mid (i+x.len) e.len))
def room(n bytes:Nat):Bool:=decide (n*bytes<=140737488355328)&&decide (n<=140737488355328)
def appendA(h:Heap)(sz bytes:Nat)(x:A)(new:EL):Option (A×Heap):=
 match x with
 |.c (.v (.sl z els (some 0)))=>if(z=sz∨z=0)then(match els with
  | []=>if room new.len bytes then some (.c (.slw h.length sz new.len),h++[some (new.blk sz)])else none
  |_::_=>none)else none
 |.c (.v (.sl z els (some (k+1))))=>if z=sz/\k+1<els.length+new.len/\room (els.length+new.len) bytes then
   some (.c (.slw h.length sz (els.length+new.len)),h++[some ((EL.app (.p els) new).blk sz)])else none
 |.c (.slw b z n)=>if z=sz then(match live h b with
  | some k=>if room (n+new.len) bytes then some (.c (.slw h.length sz (n+new.len)),h.set b none++[some ((k.el.app new).blk sz)])else none
  | none=>none)else none
 |.c (.sl b z i n (some c))=>if z=sz then(match live h b with
  | some k=>if n=0/\c=0 then(if room new.len bytes then some (.c (.slw h.length sz new.len),h++[some (new.blk sz)])else none)
    else if n+new.len<=c then(if i+n+new.len<=k.len then
     some (.c (.sl b sz i (n+new.len) (some c)),h.set b (some ((k.el.over (i+n) new).blk sz)))else none)
    else if room (n+new.len) bytes then some (.c (.slw h.length sz (n+new.len)),h++[some (((k.el.mid i n).app new).blk sz)])else none
  | none=>none)else none
 |.c (.sl b z i n none)=>if z=sz then(match live h b with
  | some k=>if i+n+new.len<=k.len then some (.c (.sl b sz i (n+new.len) none),h.set b (some ((k.el.over (i+n) new).blk sz)))
    else if room (n+new.len) bytes then some (.c (.slw h.length sz (n+new.len)),h.set b none++[some (((k.el.mid i n).app new).blk sz)])else none
  | none=>none)else none
 |_=>none
def ajU(h:Heap)(sz:Nat)(x:A)(src:EL):Option (A×Heap):=
 match x with
 |.c (.slw b z n)=>if z=sz then(match live h b with
  | some k=>some (.int .i64 (min src.len n:Nat),h.set b (some ((k.el.over 0 (src.mid 0 (min src.len n))).blk sz)))
  | none=>none)else none
 |.c (.sl b z i n _)=>if z=sz then(match live h b with
  | some k=>some (.int .i64 (min src.len n:Nat),h.set b (some ((k.el.over i (src.mid 0 (min src.len n))).blk sz)))
  | none=>none)else none
 |_=>none
def agd(h:Heap)(sz:Nat)(z:List FV)(x:A):Option (A×Heap):=
 match x with
 |.c (.slw b y n)=>if y=sz then(match live h b with
  | some k=>some (.tup [],h.set b (some ((k.el.over 0 (.p (List.replicate n z))).blk sz)))
  | none=>none)else none
 |.c (.sl b y i n _)=>if y=sz then(match live h b with
  | some k=>some (.tup [],h.set b (some ((k.el.over i (.p (List.replicate n z))).blk sz)))
  | none=>none)else none
 |_=>none
def cellsBlk(sz:Nat):CL->Blk
 |.p l=>.pur sz [l]
 |.m l=>.mix sz [l]
def agK(sz:Nat)(acc:EL):List (Nat×A)->Option EL
 | []=>some acc
 | (i,x)::r=>match acD x with
  | some (.p l)=>if l.length=sz/\i<acc.len then agK sz (match acc with
    |.p a=>.p (a.set i l)
    |.m a=>.m (a.set i (l.map .v))) r else none
  | some (.m l)=>if l.length=sz/\i<acc.len then agK sz (match acc with
    |.p a=>.m ((a.map (·.map .v)).set i l)
    |.m a=>.m (a.set i l)) r else none
  | none=>none
def nrmC:Option Nat->FV->FV
 | some (z+1),.sl 0 [] (some 0)=>.sl (z+1) [] none
 |_,x=>x
def nrmX:Option Nat->C->C
 | m,.v x=>.v (nrmC m x)
 |_,x=>x
def nrmL:List (Option Nat)->List FV->List FV
 | m::ms,x::xs=>nrmC m x::nrmL ms xs
 |_,l=>l
def acY:List (Option Nat)->List C->List C
 | m::ms,x::xs=>nrmX m x::acY ms xs
 |_,l=>l
def EL.nrm(m:List (Option Nat)):EL->EL
 |.p l=>.p (l.map (nrmL m))
 |.m l=>.m (l.map (acY m))
def aeo(P:Program):Nat->TypeId->List (Option Nat)
 | 0,_=>[]
 | n+1,t=>match P.underlying t with
  | some (.slice e)=>[szOf P e]
  | some (.struct fs)=>fs.toList.flatMap λf=>aeo P n f.type
  |_=>List.replicate ((szOf P t).getD 0) none
def agQ:Operand->Operand->Bool
 |.tmp a,.tmp b=>Nat.beq a b
 |.const (.int _ a),.const (.int _ b)=>decide (a=b)
 |_,_=>false
def keyEq:FV->FV->Bool
 |.str a,.str b=>a == b
 |.int _ a,.int _ b=>a == b
 |_,_=>false
def abC:Option IntKind->FV->Bool
 | none,.str _=>true
 | some k,.int k' _=>decide (k=k')
 |_,_=>false
def mpGet:List (FV×FV)->FV->Option FV
 | [],_=>none
 | (k,v)::r,x=>bif keyEq x k then some v else mpGet r x
def mpPut:List (FV×FV)->FV->FV->List (FV×FV)
 | [],x,v=>[(x,v)]
 | (k,u)::r,x,v=>bif keyEq x k then(x,v)::r else(k,u)::mpPut r x v
def kkOf(P:Program)(t:TypeId):Option (Option IntKind):=match P.underlying t with
 | some .string=>some none
 | some (.int k)=>some (some k)
 |_=>none
def alZ(P:Program)(t:TypeId):Option FV:=match(P.info? t).bind (·.zero)with
 | some v=>constF v
 | none=>none
def mapT(P:Program)(t:TypeId):Option (Option IntKind×FV):=match P.underlying t with
 | some (.map k e)=>(match kkOf P k,alZ P e with
  | some kk,some z=>some (kk,z)
  |_,_=>none)
 |_=>none
def alo(P:Program)(s:List A)(b:Nat):Op->Option (A×Blk)
 |.alloc e=>match acn P e,szOf P e with
  | some z,some n=>if z.length=n then some (.c (.ptr b n 0 0),.pur n [z])else none
  |_,_=>none
 |.box e x=>match acD (opd s x),szOf P e with
  | some cl,some n=>if cl.len=n then some (.c (.ptr b n 0 0),cellsBlk n cl)else none
  |_,_=>none
 |.buildSlice t len parts=>match aen P t with
  | some e=>(match szOf P e,acn P e with
   | some n,some z=>if len*n<=2 ^ 24/\z.length=n/\0<n then
     (agK n (.p (List.replicate len z)) (parts.toList.map λ(i,x)=>(i,opd s x))).map λel=>(.c (.slw b n len),(el.nrm (aeo P 20 e)).blk n)else none
   |_,_=>none)
  | none=>none
 |.makeSlice t l c=>match aen P t,opd s l,opd s c with
  | some e,.c (.v (.int _ n)),.c (.v (.int _ m))=>(match szOf P e,acn P e,bytesT P e with
   | some sz,some z,some bytes=>if z.length=sz/\0<sz/\0<=n/\n<=m/\room m.toNat bytes then
     some (if agQ l c then .c (.slw b sz m.toNat)else .c (.sl b sz 0 n.toNat (some m.toNat)),.pur sz (List.replicate m.toNat (nrmL (aeo P 20 e) z)))else none
   |_,_,_=>none)
  |_,_,_=>none
 |.convert src dst x=>match P.underlying src,P.underlying dst,opd s x with
  | some .string,some (.slice e),.c (.v (.str t))=>(match P.underlying e with
   | some (.int .u8)=>if t.size<=140737488355328 then some (.c (.slw b 1 t.size),.pur 1 (t.data.toList.map λx=>[.int .u8 x.toNat]))else none
   |_=>none)
  |_,_,_=>none
 |_=>none
def bytesOf:List (List FV)->Option (List UInt8)
 | []=>some []
 | [.int .u8 n]::r=>(bytesOf r).map λl=>UInt8.ofNat n.toNat::l
 |_=>none
def rdo(P:Program)(s:List A)(h:Heap):Op->Option A
 |.load t a=>match aggT P t,szOf P t with
  | some g,some n=>loadA h g n (opd s a)
  |_,_=>none
 |.convert src dst x=>match P.underlying src,P.underlying dst with
  | some (.slice e),some .string=>(match P.underlying e,elsN h 1 (opd s x)with
   | some (.int .u8),some (.p l)=>(bytesOf l).map λb=>.c (.v (.str ⟨b.toArray⟩))
   |_,_=>none)
  |_,_=>none
 |_=>none
def zOk(P:Program)(e:TypeId)(sz:Nat):Bool:=match acn P e with
 | some z=>z.length == sz
 | none=>false
def appNew(P:Program)(s:List A)(h:Heap)(u e:TypeId)(sz bytes:Nat)(y:Operand):Option EL:=match P.underlying u with
 | some (.int _)=>(match opd s y,acn P e with
  |.c (.v (.int _ m)),some z=>if 0<=m/\room m.toNat bytes=true then some (.p (List.replicate m.toNat z))else none
  |_,_=>none)
 | some _=>elsA h sz (opd s y)
 | none=>none
def al6(P:Program)(s:List A)(h:Heap)(t:TypeId)(m x:Operand)(ok:Bool):Option A:=match mapT P t,opd s m,opd s x with
 | some (kk,z),.c (.mp b),.c (.v k)=>(match live h b with
  | some (.mp kk' es)=>if kk=kk'/\abC kk k=true then some (bif ok then .tup [.c (.v ((mpGet es k).getD z)),.c (.v (.bool (mpGet es k).isSome))]else .c (.v ((mpGet es k).getD z)))else none
  |_=>none)
 |_,_,_=>none
def eff(P:Program)(s:List A)(h:Heap):Op->Option (A×Heap)
 |.store t a x=>match szOf P t with
  | some n=>(storeA h n (opd s a) (opd s x)).map λh'=>(undA,h')
  | none=>none
 |.call { callee:=.builtin .append,args,argTypes }=>match argTypes[0]?,argTypes[1]?,args[0]?,args[1]? with
  | some t,some u,some x,some y=>(match aen P t with
   | some e=>(match szOf P e,bytesT P e with
    | some sz,some bytes=>if 0<sz/\zOk P e sz=true then(match appNew P s h u e sz bytes y with
     | some new=>appendA h sz bytes (opd s x) new
     | none=>none)else none
    |_,_=>none)
   | none=>none)
  |_,_,_,_=>none
 |.call { callee:=.builtin .copy,args,argTypes }=>match argTypes[0]?,args[0]?,args[1]? with
  | some t,some x,some y=>(match aen P t with
   | some e=>(match szOf P e with
    | some sz=>if 0<sz then(match elsA h sz (opd s y)with
     | some new=>ajU h sz (opd s x) new
     | none=>none)else none
    | none=>none)
   | none=>none)
  |_,_,_=>none
 |.call { callee:=.builtin .clear,args,argTypes }=>match argTypes[0]?,args[0]? with
  | some t,some x=>(match aen P t with
   | some e=>(match szOf P e,acn P e with
    | some sz,some z=>if 0<sz/\z.length=sz then agd h sz (nrmL (aeo P 20 e) z) (opd s x)else none
    |_,_=>none)
   | none=>none)
  |_,_=>none
 |.makeMap t none=>match mapT P t with
  | some (kk,_)=>some (.c (.mp h.length),h++[some (.mp kk [])])
  | none=>none
 |.lookup t m x ok=>(al6 P s h t m x ok).map λr=>(r,h)
 |.mapUpdate t m x y=>match mapT P t,opd s m,opd s x,opd s y with
  | some (kk,_),.c (.mp b),.c (.v k),.c (.v v)=>(match live h b with
   | some (.mp kk' es)=>if kk=kk'/\abC kk k=true then some (undA,h.set b (some (.mp kk (mpPut es k v))))else none
   |_=>none)
  |_,_,_,_=>none
 |.convert src dst x=>match P.underlying dst,opd s x with
  | some (.slice e),.c (.slw b z n)=>(match P.underlying e,live h b with
   | some (.int .u8),some _=>if src=dst/\0<n then some (.c (.slw b z n),h)else none
   |_,_=>none)
  |_,_=>none
 |_=>none
mutual
def C.refs:C->List Nat
 |.ptr b _ _ _ |.sl b _ _ _ _ |.slw b _ _ |.mp b=>[b]
 |.fn _ caps=>al5 caps
 |.und |.v _=>[]
def al5:List C->List Nat
 | []=>[]
 | x::r=>x.refs++al5 r
end
mutual
def A.refs:A->List Nat
 |.c x=>x.refs
 |.agm l=>al5 l
 |.tup l=>abp l
 |.und |.agp _=>[]
def abp:List A->List Nat
 | []=>[]
 | x::r=>x.refs++abp r
end
def aoU:List (List C)->List Nat
 | []=>[]
 | x::r=>al5 x++aoU r
def Blk.refs:Blk->List Nat
 |.pur _ _ |.mp _ _=>[]
 |.mix _ els=>aoU els
def abY(h:Heap):Nat->List Nat->List Nat->List Nat
 | 0,_,acc=>acc
 |_+1,[],acc=>acc
 | n+1,b::todo,acc=>if acc.contains b then abY h n todo acc else
  match live h b with
  | some k=>abY h n (todo++k.refs) (acc++[b])
  | none=>abY h n todo acc
mutual
def C.ren(g:Nat->Option Nat):C->C
 |.ptr b sz i o=>match g b with
  | some b'=>.ptr b' sz i o
  | none=>.und
 |.sl b sz i n cap=>match g b with
  | some b'=>.sl b' sz i n cap
  | none=>.und
 |.slw b sz n=>match g b with
  | some b'=>.slw b' sz n
  | none=>.und
 |.fn f caps=>.fn f (renL g caps)
 |.mp b=>match g b with
  | some b'=>.mp b'
  | none=>.und
 |.und=>.und
 |.v x=>.v x
def renL(g:Nat->Option Nat):List C->List C
 | []=>[]
 | x::r=>x.ren g::renL g r
end
mutual
def A.ren(g:Nat->Option Nat):A->A
 |.c x=>.c (x.ren g)
 |.agm l=>.agm (renL g l)
 |.tup l=>.tup (renAs g l)
 |.und=>.und
 |.agp l=>.agp l
def renAs(g:Nat->Option Nat):List A->List A
 | []=>[]
 | x::r=>x.ren g::renAs g r
end
def Blk.ren(g:Nat->Option Nat):Blk->Blk
 |.pur sz l=>.pur sz l
 |.mix sz l=>.mix sz (l.map (renL g))
 |.mp kk es=>.mp kk es
def renB(g:Nat->Option Nat):Option Blk->Option Blk
 | some k=>some (k.ren g)
 | none=>none
def pos(R:List Nat)(b:Nat):Option Nat:=match R with
 | []=>none
 | x::r=>if x=b then some 0 else(pos r b).map (· + 1)
def deep:Nat:=200
def aaQ(h:Heap)(R:List Nat):Heap:=R.map λb=>renB (pos R) (live h b)
def back(R:List Nat)(n:Nat)(j:Nat):Option Nat:=match R[j]? with
 | some b=>some b
 | none=>some (n+(j-R.length))
def abk(h:Heap):List Nat->List (Option Blk)->Heap
 | b::R,k::ks=>abk (h.set b k) R ks
 |_,_=>h
abbrev aaj:=FuncId->List A->Heap->Option (A×Heap)
def ah8(cf:aaj)(f:FuncId)(args:List A)(h:Heap):Option (A×Heap):=
 let R:=abY h deep (abp args) []
 match cf f (renAs (pos R) args) (aaQ h R)with
 | some (r,h')=>
  let g:=back R h.length
  some (r.ren g,abk h R ((h'.take R.length).map (renB g))++(h'.drop R.length).map (renB g))
 | none=>none
def calleeA(s:List A)(f:Operand)(args:List A):Option (FuncId×List A):=
 match opd s f with
 |.c (.v (.fn f caps))=>some (f,args++caps.map λx=>.c (.v x))
 |.c (.fn f caps)=>some (f,args++caps.map .c)
 |_=>none
inductive Cls where
 | sil | rdo | alo | eff | cnv
 deriving DecidableEq
def cls(P:Program):Op->Cls
 |.load _ _=>.rdo
 |.convert src dst _=>match P.underlying src,P.underlying dst with
  | some (.slice _),some .string=>.rdo
  | some .string,some (.slice _)=>.alo
  | some (.slice _),some (.slice _)=>.cnv
  |_,_=>.sil
 |.alloc _ |.box _ _ |.buildSlice _ _ _ |.makeSlice _ _ _=>.alo
 |.store _ _ _ |.mapUpdate _ _ _ _ |.makeMap _ _ |.lookup _ _ _ _=>.eff
 |.call { callee:=.builtin .len,.. } |.call { callee:=.builtin .cap,.. } |.call { callee:=.builtin .min,.. } |.call { callee:=.builtin .max,.. }=>.sil
 |.call _=>.eff
 |_=>.sil
def effC(P:Program)(cf:aaj)(s:List A)(h:Heap):Op->Option (A×Heap)
 |.call { callee:=.value f,args,.. }=>match calleeA s f (args.toList.map (opd s))with
  | some (f,l)=>(match P.funcs[f]? with
   | some fn => if fn.body.isSome && fn.name != "runtime.NumGoroutine" then ah8 cf f l h else none
   | none=>none)
  | none=>none
 | op=>eff P s h op
def evOp(P:Program)(cf:aaj)(s:List A)(h:Heap)(op:Op):Option (A×Heap):=
 match cls P op with
 |.sil=>(sil P s op).map λa=>(a,h)
 |.rdo=>(rdo P s h op).map λa=>(a,h)
 |.alo=>(alo P s h.length op).map λ(a,k)=>(a,h++[some k])
 |.eff=>effC P cf s h op
 |.cnv=>eff P s h op
def putA(s:List A)(d:Option Tmp)(a:A):List A:=match d with
 | some d=>s.set d a
 | none=>s
def acl(ops:Array Oper)(s:List A)(o:Oper):Option Bool:=match o.guard with
 | none=>some true
 | some (j,want)=>match(ops[j]?).bind (·.dst)with
  | some d=>(match s[d]? with
   | some (.c (.v (.bool b)))=>some (b == want)
   | some (.tup [])=>some false
   | none=>some false
   |_=>none)
  | none=>some false
def evOps(P:Program)(cf:aaj)(ops:Array Oper):List Oper->St->Option St
 | [],st=>some st
 | o::r,st=>match acl ops st.s o with
  | some true=>(match evOp P cf st.s st.h o.op with
   | some (a,h)=>evOps P cf ops r ⟨putA st.s o.dst a,h⟩
   | none=>none)
  | some false=>evOps P cf ops r ⟨putA st.s o.dst undA,st.h⟩
  | none=>none
inductive Gh where
 | keep (ts:List Tmp)
 | only (ts:List Tmp)
 | frz (t:Tmp)
 | own (t:Tmp) (sz:Nat)
 | nrm (t:Tmp) (m:List (Option Nat))
 | ownC (t:Tmp) (o sz:Nat)
 | wkC (t:Tmp) (o:Nat)
 | mvC (t:Tmp) (o:Nat)
 | drop (b:Nat)
 | stop (m:Nat)
 | frzC (t:Tmp) (o:Nat)
 | trimC (t:Tmp) (o:Nat)
 | wk (t:Tmp)
 | nrmP (t:Tmp) (m:List (Option Nat))
 | trim (t:Tmp)
 | cls (t:Tmp)
 | peek (m n:Nat)
 | ext (m:Nat)
 | mid (m:Nat) (g:Gh)
def nrmCL(m:List (Option Nat)):CL->CL
 |.p l=>.p (nrmL m l)
 |.m l=>.m (acY m l)
def nrmA(m:List (Option Nat)):A->A
 |.c (.v (.ref cs))=>.c (.v (.ref (nrmL m cs)))
 |.c x=>.c (nrmX (m.headD none) x)
 |.agp l=>.agp (nrmL m l)
 |.agm l=>.agm (acY m l)
 | a=>a
def aej(h:Heap)(a:A)(o:Nat):Option (Nat×Blk×Nat×List C×Nat×C):=match a with
 |.c (.ptr b _ i p)=>(match live h b with
  | some k=>(match k.at i with
   | some cl=>(match cl.c[p+o]? with
    | some x=>some (b,k,i,cl.c,p+o,x)
    | none=>none)
   | none=>none)
  | none=>none)
 |_=>none
mutual
def frzC(h:Heap):Nat->C->Option (FV×List Nat)
 | 0,_=>none
 |_+1,.v x=>some (x,[])
 | n+1,.sl b sz i m _=>if sz=0 then none else match live h b with
  | some (.pur _ els)=>some (.sl sz ((els.drop i).take m) none,[b])
  | some (.mix _ els)=>(match frzE h n ((els.drop i).take m)with
   | some (l,bs)=>some (.sl sz l none,b::bs)
   | none=>none)
  |_=>none
 | n+1,.slw b sz _=>if sz=0 then none else match live h b with
  | some (.pur _ els)=>some (.sl sz els none,[b])
  | some (.mix _ els)=>(match frzE h n els with
   | some (l,bs)=>some (.sl sz l none,b::bs)
   | none=>none)
  |_=>none
 | n+1,.ptr b _ i o=>match live h b with
  | some (.pur _ els)=>(match els[i]? with
   | some cs=>some (.ref (cs.drop o),[b])
   | none=>none)
  | some (.mix _ els)=>(match els[i]? with
   | some cs=>(match frzL h n (cs.drop o)with
    | some (l,bs)=>some (.ref l,b::bs)
    | none=>none)
   | none=>none)
  |_=>none
 | n+1,.fn f caps=>match frzL h n caps with
  | some (l,bs)=>some (.fn f l,bs)
  | none=>none
 |_+1,_=>none
def frzL(h:Heap):Nat->List C->Option (List FV×List Nat)
 | 0,_=>none
 |_+1,[]=>some ([],[])
 | n+1,x::r=>match frzC h n x,frzL h n r with
  | some (y,bs),some (ys,cs)=>some (y::ys,bs++cs)
  |_,_=>none
def frzE(h:Heap):Nat->List (List C)->Option (List (List FV)×List Nat)
 | 0,_=>none
 |_+1,[]=>some ([],[])
 | n+1,x::r=>match frzL h n x,frzE h n r with
  | some (y,bs),some (ys,cs)=>some (y::ys,bs++cs)
  |_,_=>none
end
def frzA(h:Heap):A->Option (A×List Nat)
 |.c x=>(frzC h deep x).map λ(y,bs)=>(.c (.v y),bs)
 |.agp l=>some (.agp l,[])
 |.agm l=>(frzL h deep l).map λ(y,bs)=>(.agp y,bs)
 |_=>none
def aaX(h:Heap):List Nat->Heap
 | []=>h
 | b::r=>aaX (h.set b none) r
def keepS(ts:List Tmp):Nat->List A->List A
 |_,[]=>[]
 | i,a::r=>(if ts.contains i then a else .und)::keepS ts (i+1) r
def aep(np:Nat)(h:Heap)(r:List Nat):List Nat:=List.range np++(abY h deep (List.range np++r) []).filter (np ≤ ·)
def clsC(h:Heap):C->Option (FV×List Nat)
 |.v x=>some (x,[])
 |.slw b sz _=>if sz=0 then none else match live h b with
  | some (.pur _ els)=>some (.sl sz els none,[b])
  |_=>none
 |.sl b sz i m _=>if sz=0 then none else match live h b with
  | some (.pur _ els)=>some (.sl sz ((els.drop i).take m) none,[b])
  |_=>none
 |_=>none
def clsL(h:Heap):List C->Option (List FV×List Nat)
 | []=>some ([],[])
 | x::r=>match clsC h x,clsL h r with
  | some (y,bs),some (ys,cs)=>some (y::ys,bs++cs)
  |_,_=>none
def clsE(h:Heap):List (List C)->Option (List (List FV)×List Nat)
 | []=>some ([],[])
 | x::r=>match clsL h x,clsE h r with
  | some (y,bs),some (ys,cs)=>some (y::ys,bs++cs)
  |_,_=>none
def clsB(h:Heap):Blk->Option (Blk×List Nat)
 |.pur sz l=>some (.pur sz l,[])
 |.mix sz els=>(clsE h els).map λ(l,bs)=>(.pur sz l,bs)
 |.mp _ _=>none
def aka(s:List A)(t:Tmp):Option Nat:=match s[t]? with
 | some (.c (.slw b _ _)) | some (.c (.ptr b _ _ _))=>some b
 |_=>none
def ghost(np:Nat)(st:St):Gh->Option St
 |.keep ts=>
  let s:=keepS ts 0 st.s
  let R:=aep np st.h (abp s)
  some ⟨renAs (pos R) s,aaQ st.h R⟩
 |.only ts=>some ⟨keepS ts 0 st.s,st.h⟩
 |.frz t=>match st.s[t]? with
  | some a=>(frzA st.h a).map λ(a',bs)=>⟨st.s.set t a',aaX st.h bs⟩
  | none=>none
 |.own t sz=>match st.s[t]? with
  | some (.c (.v (.sl _ [] (some 0))))=>some ⟨st.s.set t (.c (.slw st.h.length sz 0)),st.h++[some (.pur sz [])]⟩
  | some _=>some st
  | none=>none
 |.nrm t m=>match st.s[t]? with
  | some a=>some ⟨st.s.set t (nrmA m a),st.h⟩
  | none=>none
 |.ownC t o sz=>match st.s[t]? with
  | some a=>(match aej st.h a o with
   | some (b,k,i,cl,j,.v (.sl 0 [] (some 0)))=>some ⟨st.s,(st.h++[some (Blk.pur sz [])]).set b (some (.mix k.sz (k.els.set i (cl.set j (.slw st.h.length sz 0)))))⟩
   | some _=>some st
   | none=>none)
  | none=>none
 |.wkC t o=>match st.s[t]? with
  | some a=>(match aej st.h a o with
   | some (b,k,i,cl,j,.slw b' sz n)=>some ⟨st.s,st.h.set b (some (.mix k.sz (k.els.set i (cl.set j (.sl b' sz 0 n none)))))⟩
   | some _=>some st
   | none=>none)
  | none=>none
 |.mvC t o=>match st.s[t]? with
  | some a=>(match aej st.h a o with
   | some (b,k,i,cl,j,.slw b' sz n)=>(match akU st.h b',Nat.beq b b' with
    | some k',false=>some ⟨st.s,(st.h.set b' none++[some k']).set b (some (.mix k.sz (k.els.set i (cl.set j (.slw st.h.length sz n)))))⟩
    |_,_=>none)
   | some _=>some st
   | none=>none)
  | none=>none
 |.drop b=>some ⟨st.s,st.h.set b none⟩
 |.stop _=>none
 |.peek _ _ |.ext _ |.mid _ _=>none
 |.frzC t o=>match st.s[t]? with
  | some a=>(match aej st.h a o with
   | some (b,k,i,cl,j,x)=>(match frzC st.h deep x with
    | some (y,bs)=>if bs.contains b then none else some ⟨st.s,(aaX st.h bs).set b (some (.mix k.sz (k.els.set i (cl.set j (.v y)))))⟩
    | none=>none)
   | none=>none)
  | none=>none
 |.trimC t o=>match st.s[t]? with
  | some a=>(match aej st.h a o with
   | some (b,k,i,cl,j,.sl b' sz i' n _)=>(match akU st.h b',Nat.beq b b' with
    | some k',false=>some ⟨st.s,(st.h.set b' none++[some ((k'.el.mid i' n).blk k'.sz)]).set b (some (.mix k.sz (k.els.set i (cl.set j (.slw st.h.length sz n)))))⟩
    |_,_=>none)
   | some _=>some st
   | none=>none)
  | none=>none
 |.nrmP t m=>match st.s[t]? with
  | some (.c (.ptr b _ i 0))=>(match live st.h b with
   | some k=>(match k.at i with
    | some cl=>some ⟨st.s,st.h.set b (some (k.setAt i (nrmCL m cl)))⟩
    | none=>none)
   | none=>none)
  | some _=>some st
  | none=>none
 |.trim t=>match st.s[t]? with
  | some (.c (.sl b sz i n _))=>(match akU st.h b with
   | some k=>some ⟨st.s.set t (.c (.slw st.h.length sz n)),st.h.set b none++[some ((k.el.mid i n).blk k.sz)]⟩
   | none=>none)
  | some _=>some st
  | none=>none
 |.cls t=>match aka st.s t with
  | some b=>(match live st.h b with
   | some k=>(match clsB st.h k with
    | some (k1,bs)=>if bs.contains b then none else some ⟨st.s,(aaX st.h bs).set b (some k1)⟩
    | none=>none)
   | none=>none)
  | none=>none
 |.wk t=>match st.s[t]? with
  | some (.c (.slw b sz n))=>some ⟨st.s.set t (.c (.sl b sz 0 n none)),st.h⟩
  | some _=>some st
  | none=>none
def ghosts(np:Nat):List Gh->St->Option St
 | [],st=>some st
 | g::r,st=>match ghost np st g with
  | some st'=>ghosts np r st'
  | none=>none
inductive Ex where
 | normal
 | exit (id:Nat)
 | ret
 deriving DecidableEq
def iter(f:St->Option (Ex×St)):Nat->St->Option (Ex×St)
 | 0,_=>none
 | n+1,st=>match f st with
  | some (.normal,st')=>iter f n st'
  | r=>r
def ancs(ops:Array Oper):Array Nat:=Region.before ops
def isEff(P:Program)(o:Oper):Bool:=cls P o.op == .eff
def an9(P:Program)(ops:Array Oper)(anc:Array Nat)(done:Nat)(eff:Bool):List Nat->Option Nat
 | []=>none
 | i::r=>if !done.testBit i&&((anc.getD i 0) &&& done == anc.getD i 0)&&(((ops[i]?).map (isEff P)).getD false == eff)then some i else an9 P ops anc done eff r
def air(P:Program)(ops:Array Oper)(anc:Array Nat):Nat->Nat->List Nat
 | 0,_=>[]
 | n+1,done=>match an9 P ops anc done false (List.range ops.size)with
  | some i=>i::air P ops anc n (done ||| 2 ^ i)
  | none=>match an9 P ops anc done true (List.range ops.size)with
   | some i=>i::air P ops anc n (done ||| 2 ^ i)
   | none=>[]
def namesOf(ops:Array Oper)(o:Oper):List Tmp:=
 o.dst.toList++(o.op.operands.toList.filterMap fun |.tmp t=>some t |_=>none)++(match o.guard with
  | some (j,_)=>((ops[j]?).bind (·.dst)).toList
  | none=>[])
def bit(anc:Array Nat)(i j:Nat):Bool:=(anc.getD i 0).testBit j
def slotsOk(ops:Array Oper)(anc:Array Nat):Bool:=
 ops.toList.zipIdx.all λ(o,i)=>ops.toList.zipIdx.all λ(o',j)=>i == j||bit anc i j||bit anc j i||(match o.dst with
  | some d=>!(namesOf ops o').contains d
  | none=>true)
def ordOk(P:Program)(ops:Array Oper)(anc:Array Nat):List Nat->List Nat->Bool
 |_,[]=>true
 | pre,i::r=>(List.range ops.size).all (λj=>!bit anc i j||pre.contains j) && !pre.contains i &&
   (pre.all λq=>!((ops[q]?).map (isEff P)).getD false||bit anc i q)&&ordOk P ops anc (i::pre) r
def drawOk(P:Program)(ops:Array Oper)(anc:Array Nat)(ord:List Nat):Bool:=
 slotsOk ops anc&&ordOk P ops anc [] ord&&ord.all (· < ops.size)&&(List.range ops.size).all (ord.contains ·)&&ops.toList.all (λo=>o.after.toList.all λe=>decide (e.on<ops.size))
def touched(P:Program)(s:List A)(h:Heap):Op->List Nat
 |.store _ a _=>(opd s a).refs
 |.mapUpdate _ m _ _=>(opd s m).refs
 |.call { callee:=.builtin _,args,.. }=>match args[0]? with
  | some x=>(opd s x).refs
  | none=>[]
 |.call { callee:=.value f,args,.. }=>match calleeA s f (args.toList.map (opd s))with
  | some (_,l)=>abY h deep (abp l) []
  | none=>[]
 |_=>[]
def pinned(P:Program)(s:List A)(h:Heap)(op:Op):List Nat:=match cls P op with
 |.rdo=>(match op with
  |.load _ a=>(opd s a).refs
  |.convert _ _ x=>(opd s x).refs
  |_=>[])
 |.alo=>[h.length]
 |.cnv=>(match op with
  |.convert _ _ x=>(opd s x).refs
  |_=>[])
 |_=>[]
abbrev Pins:=List (Nat×List Nat)
def pinsOk(anc:Array Nat)(q:Nat)(t:List Nat)(pins:Pins):Bool:=pins.all λ(j,bs)=>bit anc q j||bs.all λb=>!t.contains b
def evOrd(P:Program)(cf:aaj)(ops:Array Oper)(anc:Array Nat):List Nat->St->Pins->Option St
 | [],st,_=>some st
 | i::r,st,pins=>match ops[i]? with
  | none=>none
  | some o=>match acl ops st.s o with
   | some true=>(match evOp P cf st.s st.h o.op with
    | some (a,h)=>if isEff P o then
      (if pinsOk anc i (touched P st.s st.h o.op) pins then evOrd P cf ops anc r ⟨putA st.s o.dst a,h⟩ pins else none)
     else evOrd P cf ops anc r ⟨putA st.s o.dst a,h⟩ ((i,pinned P st.s st.h o.op)::pins)
    | none=>none)
   | some false=>evOrd P cf ops anc r ⟨putA st.s o.dst undA,st.h⟩ pins
   | none=>none
def evDraw(P:Program)(cf:aaj)(ops:Array Oper)(st:St):Option St:=
 let anc:=ancs ops
 let ord:=air P ops anc ops.size 0
 if drawOk P ops anc ord then evOrd P cf ops anc ord st []else none
abbrev Ann:=Nat->List Gh
def headId:Code->Option Nat
 |.region id _ _=>some id
 |.seq a _=>headId a
 |.block _ b=>headId b
 |.cond (.tmp t) _ _=>some (2000000+t)
 |_=>none
def aht:Operand->Nat
 |.tmp t=>2000000+t
 |_=>1999999
def afZ(b:Code):Nat:=match headId b with
 | some id=>1000000+id
 | none=>999999
def aeI(s:List A):Op->Option Nat
 |.call { callee:=.builtin .append,args,.. }=>match args[0]? with
  | some x=>(match opd s x with
   |.c (.slw b _ _)=>some b
   |_=>none)
  | none=>none
 |_=>none
def als:A->A
 |.c (.v v)=>.c (.v v)
 |.tup []=>.tup []
 |_=>.und
def restS(ds:List Tmp):Nat->List A->List A->List A
 | i,x::r,y::r'=>(if ds.contains i then als y else x)::restS ds (i+1) r r'
 |_,_,_=>[]
def af5(h:Heap):Bool:=h.all fun | some (.mix _ _) | some (.mp _ _)=>false |_=>true
def apg(l:List Oper):List Tmp:=l.filterMap (·.dst)
def ahH(l:List Oper)(st st2:St):St:=⟨restS (apg l) 0 st.s st2.s,st.h⟩
open Classical in
noncomputable def evPeek(P:Program)(cf:aaj)(ops:Array Oper):List Oper->St->Option St
 | [],_=>none
 | o::l,st=>match acl ops st.s o,aeI st.s o.op with
  | some false,_=>evOps P cf ops (o::l) st
  | some true,some _=>(match evOp P cf st.s st.h o.op with
   | some (x1,h1)=>(match evOps P cf ops l ⟨putA st.s o.dst x1,h1⟩with
    | some st2=>if af5 st.h=true/\st2.s.length=st.s.length/\st2.h.take (st.h.length+1)=h1 then some (ahH (o::l) st st2)else none
    | none=>none)
   | none=>none)
  |_,_=>none
def extA(P:Program)(st:St)(o:Oper):Option A:=match o.guard,o.op with
 | none,.slice t x lo (some hi) none=>(match P.underlying t,opd st.s x with
  | some (.slice e),.c (.sl b sz i n none)=>(match szOf P e,bnd st.s lo (some hi) none n,live st.h b with
   | some sz',some (l,h,none),some k=>if sz'=sz/\l<=h/\i+h<=k.len then some (.c (.sl b sz (i+l) (h-l) none))else none
   |_,_,_=>none)
  |_,_=>none)
 |_,_=>none
noncomputable def evRow(P:Program)(cf:aaj)(np:Nat)(ops:Array Oper):List Gh->List Oper->St->Option St
 | [],l,st=>evOps P cf ops l st
 |.stop m::gs,l,st=>(match evOps P cf ops (l.take m) st with
  | some st1=>(match ghosts np gs st1 with
   | some st2=>evOps P cf ops (l.drop m) st2
   | none=>none)
  | none=>none)
 |.peek m n::gs,l,st=>(match evOps P cf ops (l.take m) st with
  | some st1=>(match evPeek P cf ops ((l.drop m).take n) st1 with
   | some st2=>evRow P cf np ops gs ((l.drop m).drop n) st2
   | none=>none)
  | none=>none)
 |.ext m::gs,l,st=>(match evOps P cf ops (l.take m) st,l.drop m with
  | some st1,o::r=>(match extA P st1 o with
   | some a=>evRow P cf np ops gs r ⟨putA st1.s o.dst a,st1.h⟩
   | none=>none)
  |_,_=>none)
 |.mid m g::gs,l,st=>(match evOps P cf ops (l.take m) st with
  | some st1=>(match ghosts np [g] st1 with
   | some st2=>evRow P cf np ops gs (l.drop m) st2
   | none=>none)
  | none=>none)
 |_::_,_,_=>none
def an6(P:Program)(cf:aaj)(np:Nat)(ops:Array Oper)(st:St)(gs:List Gh):Option St:=match evDraw P cf ops st with
 | some st'=>ghosts np gs st'
 | none=>none
def leave(n:Nat)(x:A)(h:Heap):A×Heap:=
 let R:=aep n h x.refs
 (x.ren (pos R),aaQ h R)
class Itr where
 it:FuncId->List FV->Option (Bool×List (List A))
def setP:List A->List Tmp->List A->List A
 | s,p::ps,x::xs=>setP (s.set p x) ps xs
 | s,_,_=>s
def rng(f:Nat->St->Option (Ex×St))(s0:List A)(ps:List Tmp):List (List A)->Heap->Option (Ex×Heap)
 | [],h=>some (.normal,h)
 | row::rest,h=>match f h.length ⟨setP s0 ps row,h⟩with
  | some (.normal,st)=>rng f s0 ps rest (leave h.length undA st.h).2
  | some (e,st)=>some (e,(leave h.length undA st.h).2)
  | none=>none
def ndO(o:Oper):Bool:=match o.op with
 |.defer _=>false
 |_=>true
def ndC:Code->Bool
 |.region _ ops _=>ops.toList.all ndO
 |.seq a b=>ndC a&&ndC b
 |.cond _ a b=>ndC a&&ndC b
 |.block _ a=>ndC a
 |.loop a=>ndC a
 |.rangeFunc ..=>false
 |_=>true
noncomputable def evCode[Itr](P:Program)(cf:aaj)(ann:Ann):Nat->Nat->Code->St->Option (Ex×St)
 |_,_,.skip,st=>some (.normal,st)
 |_,_,.label _,st=>some (.normal,st)
 | np,n,.region id ops d,st=>match ghosts np (ann id++ann (4000000+id)) st with
  | some st=>(match(if d then an6 P cf np ops st (ann (3000000+id)++ann (5000000+id))else evRow P cf np ops (ann (3000000+id)++ann (5000000+id)) ops.toList st)with
   | some st'=>some (.normal,st')
   | none=>none)
  | none=>none
 | np,n,.seq a b,st=>match evCode P cf ann np n a st with
  | some (.normal,st')=>evCode P cf ann np n b st'
  | r=>r
 | np,n,.cond c a b,st=>match ghosts np (ann (aht c)) st with
  | some st=>(match opd st.s c with
   |.c (.v (.bool t))=>bif t then evCode P cf ann np n a st else evCode P cf ann np n b st
   |_=>none)
  | none=>none
 | np,n,.block id b,st=>match evCode P cf ann np n b st with
  | some (.exit id',st')=>if id'=id then some (.normal,st')else some (.exit id',st')
  | r=>r
 | np,n,.loop b,st=>match iter (evCode P cf ann np n b) n st with
  | some (e,st')=>(match ghosts np (ann (afZ b)) st' with
   | some st''=>some (e,st'')
   | none=>none)
  | none=>none
 |_,_,.exit id,st=>some (.exit id,st)
 |_,_,.ret,st=>some (.ret,st)
 |_,n,.rangeFunc g ps as bd,st=>match opd st.s g with
  |.c (.v (.fn f caps))=>(match Itr.it f caps with
   | some (b,rows)=>if b=true/\ndC as=true/\ndC bd=true/\(∀ r∈rows,r.length=ps.size)then
     (match rng (λnp st=>match evCode P cf ann np n as st with
      | some (.normal,st1)=>evCode P cf ann np n bd st1
      |_=>none) st.s ps.toList rows st.h with
     | some (e,h)=>some (e,⟨st.s,h⟩)
     | none=>none)else none
   | none=>none)
  |_=>none
 |_,_,_,_=>none
def resV(P:Program)(s:List A)(h:Heap):ResultVar->Option A
 |.tmp t=>some (s.getD t .und)
 |.cell a ty=>match aggT P ty,szOf P ty with
  | some g,some n=>loadA h g n (s.getD a .und)
  |_,_=>none
def aio(P:Program)(fn:Func)(s:List A)(h:Heap):Option A:=
 match allSome (resV P s h) fn.results.toList with
 | some [x]=>some x
 | some l=>some (.tup l)
 | none=>none
structure Cfg where
 ann:FuncId->Ann
 fin:FuncId->List Gh
 bor:FuncId->Bool:=λ_=>false
def amz:FV->Bool
 |.bool _ |.int _ _ |.flt _ _ |.str _ |.nilp |.nilfn |.nili=>true
 |_=>false
def flatAs:List A->Bool
 | []=>true
 |.c (.v x)::r=>amz x&&flatAs r
 |_=>false
def agw:A->Bool
 |.c (.v x)=>amz x
 |.tup l=>flatAs l
 |_=>false
def frzAs(h:Heap):List A->Option (List A×List Nat)
 | []=>some ([],[])
 | a::r=>match frzA h a,frzAs h r with
  | some (x,bs),some (xs,cs)=>some (x::xs,bs++cs)
  |_,_=>none
noncomputable def evFun[Itr](P:Program)(cfg:Cfg)(cf:aaj)(k:Nat):aaj:=λf args h=>match P.funcs[f]? with
 | none=>none
 | some fn=>match fn.body with
  | none=>none
  | some body=>match evCode P cf (cfg.ann f) h.length k body ⟨args++List.replicate (fn.ntmps-args.length) undA,h⟩with
   | some (e,st)=>(match e,ghosts h.length (cfg.fin f) st with
    |.exit _,_=>none
    |_,some st'=>(aio P fn st'.s st'.h).map λx=>leave h.length x st'.h
    |_,none=>none)
   | none=>none
noncomputable def evCall[Itr](P:Program)(cfg:Cfg)(prim:FuncId->Option (List A->Heap->Option (A×Heap))):Nat->aaj
 | 0=>λ_ _ _=>none
 | k+1=>λf args h=>match prim f with
  | some p=>p args h
  | none=>match cfg.bor f with
   | true=>(match frzAs h args with
    | some (args',_)=>(match evFun P cfg (evCall P cfg prim k) k f args' []with
     | some (r,_)=>if agw r=true then some (r,h)else none
     | none=>none)
    | none=>none)
   | false=>evFun P cfg (evCall P cfg prim k) k f args h
theorem agS[Itr]{P:Program}{cfg:Cfg}{prim:FuncId->Option (List A->Heap->Option (A×Heap))}{f:FuncId}{args:List A}{h:Heap}:evCall P cfg prim 0 f args h=none:=by simp only[evCall]
theorem ag3[Itr]{P:Program}{cfg:Cfg}{prim:FuncId->Option (List A->Heap->Option (A×Heap))}{k:Nat}{f:FuncId}{args:List A}{h:Heap}(hn:prim f=none)(hb:cfg.bor f=false) :
  evCall P cfg prim (k+1) f args h=evFun P cfg (evCall P cfg prim k) k f args h:=by simp only[evCall,hn,hb]
end Go.Ev
