import Derived.Test.YtganajogkdinaaaGreatEvSim
set_option linter.all false
namespace Go.Ev
variable[Itr]
abbrev bigN:Nat:=140737488351232
theorem aoi{O α:Type}{x:Option (O⊕α)}{t:O->Option α}{o:O}{a:α}(hx:x=some (.inl o))(ht:t o=some a):segB x t=some a:=by rw[hx];exact ht
def AllD:List Prop->Prop
 | []=>True
 | [p]=>p
 | p::q::r=>p/\AllD (q::r)
theorem ahR:∀ {ps:List Prop},AllD ps->All ps
 | [],_=>trivial
 | [_],h=>⟨h,trivial⟩
 |_::q::r,h=>⟨h.1,ahR (ps:=q::r) h.2⟩
instance:Decidable (AllD []):=inferInstanceAs (Decidable True)
instance {p:Prop}[d:Decidable p]:Decidable (AllD [p]):=d
instance {p q:Prop}{r:List Prop}[d:Decidable p][e:Decidable (AllD (q::r))]:Decidable (AllD (p::q::r)):=inferInstanceAs (Decidable (p/\AllD (q::r)))
def Sc.ck{α:Type}(r i:Nat)(ps:List Prop)[d:Decidable (AllD ps)](t:Sc α):Sc α:=.chk r i (AllD ps) d ps ahR t
instance (n b:Nat):Decidable (aad n b):=inferInstanceAs (Decidable (_/\_))
def iadd(k:IntKind)(a b:Int):Int:=k.wrap (a+b)
def isub(k:IntKind)(a b:Int):Int:=k.wrap (a-b)
def imul(k:IntKind)(a b:Int):Int:=k.wrap (a*b)
def iquo(k:IntKind)(a b:Int):Int:=k.wrap (a.tdiv b)
def irem(_:IntKind)(a b:Int):Int:=a.tmod b
def iand(k:IntKind)(a b:Int):Int:=k.wrap ((BitVec.ofInt k.bits a &&& BitVec.ofInt k.bits b).toNat)
def ior(k:IntKind)(a b:Int):Int:=k.wrap ((BitVec.ofInt k.bits a ||| BitVec.ofInt k.bits b).toNat)
def adf(k:IntKind)(a b:Int):Int:=k.wrap ((BitVec.ofInt k.bits a &&& ~~~ BitVec.ofInt k.bits b).toNat)
def ishl(k:IntKind)(a b:Int):Int:=k.wrap (a*2 ^ (min b.toNat k.bits))
def ishr(k:IntKind)(a b:Int):Int:=a.fdiv (2 ^ (min b.toNat k.bits))
def icv(k:IntKind)(n:Int):Int:=k.wrap n
def at?{β:Type}(l:List β)(n:Int):Option β:=if 0<=n then l[n.toNat]? else none
theorem at?_ok{β:Type}{l:List β}{n:Int}{b:β}(h:at? l n=some b):0<=n/\l[n.toNat]?=some b:=by
 unfold at? at h
 split at h
 ·rename_i h0;exact⟨h0,h⟩
 ·cases h
abbrev eI(k:IntKind)(n:Int):List FV:=[.int k n]
abbrev eB(b:Bool):List FV:=[.bool b]
def Rd.call{cf:aaj}{f:FuncId}{args:List A}{h:Heap}{β:Type}{o:Option β}{e:β->A×Heap}(pf:∀ b,o=some b->cf f args h=some (e b)):Rd β:=
 ⟨o,λb=>.ret (e b).1 (e b).2,λb=>[cf f args h=some (e b)],λb hb=>⟨pf b hb,trivial⟩⟩
def Rd.bcall{P:Program}{cfg:Cfg}{prim:FuncId->Option (List A->Heap->Option (A×Heap))}{k:Nat}{f:FuncId}{args raw args':List A}{h:Heap}{β:Type}{o:Option β}{e:β->A×Heap}
  (pf:∀ b,o=some b->evCall P cfg prim k f args' []=some (e b)) (hn:prim f=none) (hb:cfg.bor f=true) (hz:(frzAs h args).map Prod.fst=some raw) (hq:raw=args') (hz':(frzAs [] args').map Prod.fst=some args'):Rd β:=
 ⟨o,λb=>.ret (e b).1 h,λb=>[evCall P cfg prim k f args h=some ((e b).1,h)],λb hb'=>⟨aoI (h':=(e b).2) (pf b hb') hn hb hz hq hz',trivial⟩⟩
def Rd.el{β:Type}(e:β->List FV)(l:List β)(n:Int):Rd β:=
 ⟨at? l n,λb=>.el (e b),λb=>[0<=n,(l.map e)[n.toNat]?=some (e b)],λb hb=>by
  obtain⟨h1,h2⟩:=at?_ok hb
  exact⟨h1,by rw[List.getElem?_map,h2];rfl,trivial⟩⟩
def Rd.ld{β:Type}(sz:Nat)(e:β->List FV)(l:List β)(j:Nat):Rd β:=
 ⟨l[j]?,λb=>.at (.p (e b)),λb=>[Blk.at j (.pur sz (l.map e))=some (.p (e b))],λb hb=>
  ⟨by simp only[Blk.at];rw[List.getElem?_map,hb];rfl,trivial⟩⟩
def u8s(l:List Int):List UInt8:=l.map λn=>UInt8.ofNat n.toNat
abbrev abr(l:List Int):ByteArray:=⟨(u8s l).toArray⟩
theorem ad0:∀ l:List Int,bytesOf (l.map (eI .u8))=some (u8s l)
 | []=>rfl
 | x::l=>by
  simp only[List.map_cons,eI,bytesOf,ad0 l,u8s,Option.map_some]
def Rd.txt(l:List Int):Rd Unit:=
 ⟨some (),λ_=>.txt (u8s l),λ_=>[bytesOf (l.map (eI .u8))=some (u8s l)],λ_ _=>⟨ad0 l,trivial⟩⟩
def Rd.sx(s:ByteArray)(n:Int):Rd Int:=
 ⟨if 0<=n then(s[n.toNat]?).map (λb=>(b.toNat:Int))else none,λb=>.num b,λb=>[0<=n,(s[n.toNat]?).map (λb=>(b.toNat:Int))=some b,b=b],λb hb=>by
  split at hb
  ·rename_i h;exact⟨h,hb,rfl,trivial⟩
  ·cases hb⟩
def Rd.fit(b:Bool)(ps:List Prop)(p:Prop)(d:Decidable p)(pf:p->All ps):Rd Unit:=
 ⟨@ite _ p d (some ()) none,λ_=>.fit b,λ_=>ps,λ_ h=>by
  split at h
  ·rename_i hp;exact pf hp
  ·cases h⟩
def eS(s:ByteArray):List FV:=[.str s]
def eL{β:Type}(sz:Nat)(e:β->List FV)(l:List β):List FV:=[.sl sz (l.map e) none]
def imin(a b:Int):Int:=if b<a then b else a
def imax(a b:Int):Int:=if b>a then b else a
def apn(s:ByteArray)(n:Int):Option Int:=if 0<=n then(s[n.toNat]?).map (λb=>(b.toNat:Int))else none
def abI(x y:ByteArray):Bool:=x.toList == y.toList
def strL(s:ByteArray):List Int:=s.data.toList.map λb=>(b.toNat:Int)
section
variable{β:Type}{e:β->List FV}{X:List (List FV)}{m:List β}
theorem mX(e:β->List FV)(m:List β):m.map e=m.map e:=rfl
theorem midX(e:β->List FV)(m:List β)(i n:Nat):((m.map e).drop i).take n=(List.take n (List.drop i m)).map e:=by rw[List.map_take,List.map_drop]
theorem strX(s:ByteArray):(s.data.toList.map λb=>[FV.int .u8 b.toNat])=(strL s).map (eI .u8):=by simp[strL,List.map_map,Function.comp_def]
theorem aaa(bytes n:Nat)(m:List β)(hX:X=m.map e):aad (n+m.length) bytes->All [aad (n+X.length) bytes]:=λh=>⟨by rw[hX,List.length_map];exact h,trivial⟩
theorem ahN(bytes:Nat)(m:List β)(hX:X=m.map e):aad m.length bytes->All [aad X.length bytes]:=λh=>⟨by rw[hX,List.length_map];exact h,trivial⟩
theorem aac(b sz:Nat)(l m:List β)(hX:X=m.map e):A.c (.slw b sz (l.length+X.length))=A.c (.slw b sz (l++m).length):=by rw[hX,List.length_map,List.length_append]
theorem aab(sz:Nat)(e:β->List FV)(l m:List β)(hX:X=m.map e):Blk.pur sz (l.map e++X)=Blk.pur sz ((l++m).map e):=by rw[hX,List.map_append]
theorem ag5(b sz:Nat)(m:List β)(hX:X=m.map e):A.c (.slw b sz X.length)=A.c (.slw b sz m.length):=by rw[hX,List.length_map]
theorem agP(sz:Nat)(m:List β)(hX:X=m.map e):Blk.pur sz X=Blk.pur sz (m.map e):=by rw[hX]
theorem repX(e:β->List FV)(z:β)(n:Nat):List.replicate n (e z)=(List.replicate n z).map e:=by rw[List.map_replicate]
theorem akE(bytes:Nat)(x:Int)(z:List FV):0<=x/\aad x.toNat bytes->All ([0<=x,aad x.toNat bytes]++[aad (List.replicate x.toNat z).length bytes]):=
 λh=>⟨h.1,h.2,by rw[List.length_replicate];exact h.2,trivial⟩
theorem lm(e:β->List FV)(l:List β):A.int .i64 ((l.map e).length:Nat)=A.int .i64 (l.length:Nat):=by rw[List.length_map]
theorem afw(sz:Nat)(e:β->List FV)(l:List β)(j:Nat)(x:β):Blk.pur sz ((l.map e).set j (e x))=Blk.pur sz ((l.set j x).map e):=by rw[List.map_set]
theorem abE(l:List β)(j:Nat)(x:β):(l.set j x).length=l.length:=List.length_set
theorem an8(e:β->List FV)(l:List β)(i:Int):0<=i/\i<=(l.length:Int)->All ([0<=i]++[]++[i.toNat<=(l.map e).length,(l.map e).length<=(l.map e).length]):=λh=>⟨h.1,by rw[List.length_map];omega,Nat.le_refl _,trivial⟩
theorem anX(e:β->List FV)(l:List β)(i j:Int):0<=i/\i<=j/\j<=(l.length:Int)->All ([0<=i]++[0<=j]++[i.toNat<=j.toNat,j.toNat<=(l.map e).length]):=λh=>⟨h.1,by omega,by omega,by rw[List.length_map];omega,trivial⟩
theorem aoo(sz:Nat)(e:β->List FV)(l:List β)(i:Int)(cap:Option Nat):A.c (.v (.sl sz (((l.map e).take (l.map e).length).drop i.toNat) cap))=A.c (.v (.sl sz ((List.drop i.toNat l).map e) cap)):=by rw[List.map_drop,List.take_length]
theorem aoG(sz:Nat)(e:β->List FV)(l:List β)(i j:Int)(cap:Option Nat):A.c (.v (.sl sz (((l.map e).take j.toNat).drop i.toNat) cap))=A.c (.v (.sl sz ((List.drop i.toNat (List.take j.toNat l)).map e) cap)):=by rw[List.map_drop,List.map_take]
end
theorem aaY{β:Type}(z:Nat)(e:β->List FV)(l:List β)(n:Nat):Blk.pur z (((l.map e).drop 0).take n)=Blk.pur z ((l.take n).map e):=by rw[List.drop_zero,List.map_take]
theorem aa0{β:Type}{n:Nat}{l:List β}(h:n<=l.length):n=(l.take n).length:=by rw[List.length_take];omega
def overL{β:Type}(l:List β)(i:Nat)(m:List β):List β:=l.take i++(m++(l.drop (i+m.length)).take l.length)
theorem over_len{β:Type}{l m:List β}{i:Nat}(h:i+m.length<=l.length):(overL l i m).length=l.length:=by
 simp only[overL,List.length_append,List.length_take,List.length_drop];omega
theorem aji{β:Type}{e:β->List FV}{X:List (List FV)}{m:List β}(b sz i n:Nat)(hX:X=m.map e):A.c (.sl b sz i (n+X.length) none)=A.c (.sl b sz i (n+m.length) none):=by rw[hX,List.length_map]
theorem ah5{β:Type}{e:β->List FV}{X:List (List FV)}(sz:Nat)(l:List β)(i:Nat)(m:List β)(hX:X=m.map e) :
  Blk.pur sz (((l.map e).drop 0).take i++(X++((l.map e).drop (i+X.length)).take (l.map e).length))=Blk.pur sz ((overL l i m).map e):=by
 simp only[hX,overL,List.drop_zero,List.length_map,List.map_append,List.map_take,List.map_drop]
theorem aho{β:Type}{e:β->List FV}{X:List (List FV)}(l:List β)(i:Nat)(m:List β)(hX:X=m.map e):i+m.length<=l.length->All [i+X.length<=(l.map e).length]:=λh=>⟨by rw[hX,List.length_map,List.length_map];exact h,trivial⟩
theorem agz(b:Nat)(s:ByteArray):A.c (.slw b 1 s.size)=A.c (.slw b 1 (strL s).length):=by
 have:(strL s).length=s.size:=by rw[strL,List.length_map];rfl
 rw[this]
theorem agt(s:ByteArray):Blk.pur 1 (s.data.toList.map λx=>[FV.int .u8 x.toNat])=Blk.pur 1 ((strL s).map (eI .u8)):=by rw[strX]
section
variable{K V:Type}
def mE(ke:K->FV)(ve:V->FV)(l:List (K×V)):List (FV×FV):=l.map λx=>(ke x.1,ve x.2)
def mget(eq:K->K->Bool):List (K×V)->K->Option V
 | [],_=>none
 | (k,v)::r,x=>bif eq x k then some v else mget eq r x
def mput(eq:K->K->Bool):List (K×V)->K->V->List (K×V)
 | [],x,v=>[(x,v)]
 | (k,u)::r,x,v=>bif eq x k then(x,v)::r else(k,u)::mput eq r x v
abbrev sEq(a b:ByteArray):Bool:=a == b
theorem am0{ke:K->FV}{eq:K->K->Bool}(he:∀ a b,keyEq (ke a) (ke b)=eq a b)(ve:V->FV)(x:K):∀ l:List (K×V),mpGet (mE ke ve l) (ke x)=(mget eq l x).map ve
 | []=>rfl
 | (k,v)::r=>by
  simp only[mE,List.map_cons,mpGet,mget,he]
  cases eq x k with
  | true=>rfl
  | false=>exact am0 he ve x r
theorem amM{ke:K->FV}{eq:K->K->Bool}(he:∀ a b,keyEq (ke a) (ke b)=eq a b)(ve:V->FV)(x:K)(v:V):∀ l:List (K×V),mpPut (mE ke ve l) (ke x) (ve v)=mE ke ve (mput eq l x v)
 | []=>rfl
 | (k,u)::r=>by
  simp only[mE,List.map_cons,mpPut,mput,he]
  cases eq x k with
  | true=>rfl
  | false=>rw[show List.map (λx:K×V=>(ke x.1,ve x.2)) r=mE ke ve r from rfl,cond_false,cond_false,amM he ve x v r];rfl
theorem ahw(ve:V->FV)(l:List (ByteArray×V))(x:ByteArray)(d:V):A.c (.v ((mpGet (mE .str ve l) (.str x)).getD (ve d)))=A.c (.v (ve ((mget sEq l x).getD d))):=by
 rw[am0 (eq:=sEq) (λ_ _=>rfl)];cases mget sEq l x <;> rfl
theorem aoP(ve:V->FV)(l:List (ByteArray×V))(x:ByteArray)(v:V):Blk.mp none (mpPut (mE .str ve l) (.str x) (ve v))=Blk.mp none (mE .str ve (mput sEq l x v)):=by rw[amM (eq:=sEq) (λ_ _=>rfl)]
end
end Go.Ev
