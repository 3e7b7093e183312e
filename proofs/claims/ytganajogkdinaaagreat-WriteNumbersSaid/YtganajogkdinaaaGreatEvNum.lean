import Derived.Test.YtganajogkdinaaaGreatEvCore
set_option linter.all false
namespace Go.Ev
def All:List Prop->Prop
 | []=>True
 | p::r=>p/\All r
theorem All_app{l m:List Prop}:All (l++m)↔All l/\All m:=by
 induction l with
 | nil=>simp[All]
 | cons p l ih=>simp only[List.cons_append,All,ih,and_assoc]
theorem abO{p:Prop}:All [p]↔p:=by simp[All]
inductive It where
 | bo (b:Bool)
 | num (n:Int)
 | el (cs:List FV)
 | at(cl:CL)
 | fit (b:Bool)
 | txt (bs:List UInt8)
 | ret (r:A) (h:Heap)
 | as (a:A)
 | cut
structure Or where
 r:Nat
 i:Nat
 it:It
def inR:IntKind->Int->Prop
 |.i8,n=>-128<=n/\n<=127
 |.i16,n=>-32768<=n/\n<=32767
 |.i32,n=>-2147483648<=n/\n<=2147483647
 |.i64,n=>-9223372036854775808<=n/\n<=9223372036854775807
 |.u8,n=>0<=n/\n<=255
 |.u16,n=>0<=n/\n<=65535
 |.u32,n=>0<=n/\n<=4294967295
 |.u64,n=>0<=n/\n<=18446744073709551615
theorem abe{k:IntKind}{n:Int}(h:inR k n):k.wrap n=n:=by
 cases k <;> simp only[inR]at h <;> simp only[IntKind.wrap,IntKind.bits,IntKind.signed] <;> (simp;try omega)
def num(k:IntKind)(n:Int):Int×List Prop:=if k.signed then(n,[inR k n])else(k.wrap n,[])
theorem ana{k:IntKind}{n:Int}(h:All (num k n).2):(num k n).1=k.wrap n:=by
 unfold num at h ⊢
 split
 ·rename_i hs;rw[if_pos hs]at h;exact(abe (abO.1 h)).symm
 ·rfl
def intD(op:BinOp)(k:IntKind)(a:Int)(k':IntKind)(b:Int):Option (FV×List Prop):=
 match op with
 |.shl=>some (.int k (k.wrap (a*2 ^ (min b.toNat k.bits))),[0<=b])
 |.shr=>some (.int k (a.fdiv (2 ^ (min b.toNat k.bits))),[0<=b])
 |.quo=>if k=k' then some (.int k (k.wrap (a.tdiv b)),[b≠0])else none
 |.rem=>if k=k' then some (.int k (a.tmod b),[b≠0])else none
 | op=>(ac7 op k a k' b).map λr=>(r,[])
theorem aop{op:BinOp}{k k':IntKind}{a b:Int}{r:FV}{p:List Prop}(h:intD op k a k' b=some (r,p))(hp:All p):ac7 op k a k' b=some r:=by
 unfold intD at h
 split at h
 ·simp only[Option.some.injEq,Prod.mk.injEq]at h
  obtain⟨rfl,rfl⟩:=h
  simp only[abO]at hp
  simp only[ac7]
  rw[if_neg (by omega)]
 ·simp only[Option.some.injEq,Prod.mk.injEq]at h
  obtain⟨rfl,rfl⟩:=h
  simp only[abO]at hp
  simp only[ac7]
  rw[if_neg (by omega)]
 ·split at h
  ·rename_i hk
   simp only[Option.some.injEq,Prod.mk.injEq]at h
   obtain⟨rfl,rfl⟩:=h
   simp only[abO]at hp
   simp only[ac7]
   rw[if_pos hk,if_neg hp]
  ·cases h
 ·split at h
  ·rename_i hk
   simp only[Option.some.injEq,Prod.mk.injEq]at h
   obtain⟨rfl,rfl⟩:=h
   simp only[abO]at hp
   simp only[ac7]
   rw[if_pos hk,if_neg hp]
  ·cases h
 ·simp only[Option.map_eq_some_iff,Prod.mk.injEq]at h
  obtain⟨r',h,rfl,_⟩:=h
  exact h
def wide(k0 k:IntKind):Bool:=match k0,k with
 |.u8,.u8 |.u8,.u16 |.u8,.u32 |.u8,.u64 |.u8,.i16 |.u8,.i32 |.u8,.i64=>true
 |.u16,.u16 |.u16,.u32 |.u16,.u64 |.u16,.i32 |.u16,.i64=>true
 |.u32,.u32 |.u32,.u64 |.u32,.i64=>true
 |.u64,.u64=>true
 |.i8,.i8 |.i8,.i16 |.i8,.i32 |.i8,.i64 |.i16,.i16 |.i16,.i32 |.i16,.i64 |.i32,.i32 |.i32,.i64 |.i64,.i64=>true
 |_,_=>false
def nilD(op:BinOp)(x:C)(it:Option It):Option (A×List Prop):=match op,it with
 |.eql,some (.fit b)=>some (A.bool b,[ag6 x=some b])
 |.neq,some (.fit b)=>some (A.bool (!b),[ag6 x=some b])
 |_,_=>none
def binD(P:Program)(op:BinOp)(t:TypeId)(x y:A)(it:Option It):Option (A×List Prop):=
 match x,y with
 |.c (.v (.int k a)),.c (.v (.int k' b))=>(intD op k a k' b).map λ(r,p)=>(.c (.v r),p)
 |.c (.v (.str a)),.c (.v (.str b))=>(match op with
  |.add=>some (.c (.v (.str (a++b))),[((a.size+b.size:Nat):Int)<=9223372036854775807])
  | op=>(af8 op a b).map λr=>(.c (.v r),[]))
 |.c x,.c (.v (.sl 0 [] (some 0)))=>(match it,P.underlying t with
  | some (.fit b),some (.slice _)=>nilD op x (some (.fit b))
  |_,_=>(binA P op t (.c x) (.c (.v (.sl 0 [] (some 0))))).map λr=>(r,[]))
 | x,y=>(binA P op t x y).map λr=>(r,[])
theorem alh{P:Program}{op:BinOp}{t:TypeId}{x:C}:binA P op t (.c x) (.c (.v (.sl 0 [] (some 0))))=(match op with
  |.eql=>(eqN P t (.c x) (.c (.v (.sl 0 [] (some 0))))).map λb=>.c (.v (.bool b))
  |.neq=>(eqN P t (.c x) (.c (.v (.sl 0 [] (some 0))))).map λb=>.c (.v (.bool !b))
  |_=>none):=by
 cases x with
 | v v=>cases v <;> cases op <;> rfl
 |_=>cases op <;> rfl
theorem anI{P:Program}{op:BinOp}{t:TypeId}{x y:A}{it:Option It}{r:A}{p:List Prop}(h:binD P op t x y it=some (r,p))(hp:All p):binA P op t x y=some r:=by
 unfold binD at h
 split at h
 ·simp only[Option.map_eq_some_iff,Prod.mk.injEq]at h
  obtain⟨⟨q,p'⟩,h,rfl,rfl⟩:=h
  simp[binA,aop h hp]
 ·split at h
  ·simp only[Option.some.injEq,Prod.mk.injEq]at h
   obtain⟨rfl,rfl⟩:=h
   simp only[abO]at hp
   simp only[binA,af8]
   rw[if_neg (by simp only[IntKind.max,IntKind.signed,IntKind.bits];simp;omega)]
   rfl
  ·simp only[Option.map_eq_some_iff,Prod.mk.injEq]at h
   obtain⟨q,h,rfl,_⟩:=h
   simp[binA,h]
 ·rename_i x
  split at h
  ·rename_i b e hu
   have key:ag6 x=some b->eqN P t (.c x) (.c (.v (.sl 0 [] (some 0))))=some b:=by
    intro hb
    cases x with
    | v v=>cases v <;> simp_all[eqN,ag6]
    |_=>simp_all[eqN,ag6]
   rw[alh]
   unfold nilD at h
   split at h
   ·rename_i heq
    simp only[Option.some.injEq,It.fit.injEq]at heq
    subst heq
    simp only[Option.some.injEq,Prod.mk.injEq]at h
    obtain⟨rfl,rfl⟩:=h
    simp[key (abO.1 hp)]
   ·rename_i heq
    simp only[Option.some.injEq,It.fit.injEq]at heq
    subst heq
    simp only[Option.some.injEq,Prod.mk.injEq]at h
    obtain⟨rfl,rfl⟩:=h
    simp[key (abO.1 hp)]
   ·cases h
  ·simp only[Option.map_eq_some_iff,Prod.mk.injEq]at h
   obtain⟨q,h,rfl,_⟩:=h
   exact h
 ·simp only[Option.map_eq_some_iff,Prod.mk.injEq]at h
  obtain⟨q,h,rfl,_⟩:=h
  exact h
def anq(P:Program)(src dst:TypeId)(x:A):Option (A×List Prop):=
 match P.underlying src,P.underlying dst,x with
 | some _,some (.int k),.c (.v (.int _ n))=>some (A.int k (k.wrap n),[])
 |_,_,_=>(convA P src dst x).map λr=>(r,[])
theorem alb{P:Program}{src dst:TypeId}{x:A}{r:A}{p:List Prop}(h:anq P src dst x=some (r,p))(hp:All p):convA P src dst x=some r:=by
 unfold anq at h
 split at h
 ·rename_i h1 h2
  simp only[Option.some.injEq,Prod.mk.injEq]at h
  obtain⟨rfl,rfl⟩:=h
  simp[convA,h1,h2]
 ·simp only[Option.map_eq_some_iff,Prod.mk.injEq]at h
  obtain⟨q,h,rfl,_⟩:=h
  exact h
def adn(P:Program)(t:TypeId)(x ix:A)(it:Option It):Option (A×List Prop):=
 match aen P t,ix with
 | some e,.c (.v (.int _ n))=>(match szOf P e,x with
  | some sz',.c (.v (.sl sz els _))=>if sz'=sz then(match it with
   | some (.el cs)=>some (.c (.v (.ref cs)),[0<=n,els[n.toNat]?=some cs])
   |_=>(indexAddrA P t x ix).map λr=>(r,[]))else none
  | some sz',.c (.sl b sz i m _)=>if sz'=sz then some (.c (.ptr b sz (i+n.toNat) 0),[0<=n,n<(m:Int)])else none
  | some sz',.c (.slw b sz m)=>if sz'=sz then some (.c (.ptr b sz n.toNat 0),[0<=n,n<(m:Int)])else none
  |_,_=>none)
 |_,_=>none
theorem aeP{P:Program}{t:TypeId}{x ix:A}{it:Option It}{r:A}{p:List Prop}(h:adn P t x ix it=some (r,p))(hp:All p):indexAddrA P t x ix=some r:=by
 unfold adn at h
 split at h
 ·rename_i e k n he
  split at h
  ·rename_i sz' sz els cap hs
   split at h
   ·rename_i hz
    split at h
    ·simp only[Option.some.injEq,Prod.mk.injEq]at h
     obtain⟨rfl,rfl⟩:=h
     simp only[All,and_true]at hp
     simp[indexAddrA,he,hs,hz,hp.1,hp.2]
    ·simp only[Option.map_eq_some_iff,Prod.mk.injEq]at h
     obtain⟨q,h,rfl,_⟩:=h
     exact h
   ·cases h
  ·rename_i hs
   split at h
   ·rename_i hz
    simp only[Option.some.injEq,Prod.mk.injEq]at h
    obtain⟨rfl,rfl⟩:=h
    simp only[All,and_true]at hp
    simp[indexAddrA,he,hs,hz,hp.1,hp.2]
   ·cases h
  ·rename_i hs
   split at h
   ·rename_i hz
    simp only[Option.some.injEq,Prod.mk.injEq]at h
    obtain⟨rfl,rfl⟩:=h
    simp only[All,and_true]at hp
    simp[indexAddrA,he,hs,hz,hp.1,hp.2]
   ·cases h
  ·cases h
 ·cases h
def ajO(P:Program)(t:TypeId)(x ix:A)(it:Option It):Option (A×List Prop):=
 match P.underlying t,x,ix,it with
 | some .string,.c (.v (.str s)),.c (.v (.int _ n)),some (.num v)=>some (A.int .u8 v,[0<=n,(s[n.toNat]?).map (λb=>(b.toNat:Int))=some v])
 |_,_,_,_=>(indexA P t x ix).map λr=>(r,[])
theorem akB{P:Program}{t:TypeId}{x ix:A}{it:Option It}{r:A}{p:List Prop}(h:ajO P t x ix it=some (r,p))(hp:All p):indexA P t x ix=some r:=by
 unfold ajO at h
 split at h
 ·rename_i s k n v hu
  simp only[Option.some.injEq,Prod.mk.injEq]at h
  obtain⟨rfl,rfl⟩:=h
  simp only[All,and_true]at hp
  obtain⟨h0,h1⟩:=hp
  obtain⟨b,h2,rfl⟩:=Option.map_eq_some_iff.1 h1
  simp only[indexA,hu,h0,if_true,h2]
 ·simp only[Option.map_eq_some_iff,Prod.mk.injEq]at h
  obtain⟨q,h,rfl,_⟩:=h
  exact h
def natD:A->Option (Nat×List Prop)
 |.c (.v (.int _ n))=>some (n.toNat,[0<=n])
 |_=>none
theorem ajR{x:A}{n:Nat}{p:List Prop}(h:natD x=some (n,p))(hp:All p):natA x=some n:=by
 unfold natD at h
 split at h
 ·simp only[Option.some.injEq,Prod.mk.injEq]at h
  obtain⟨rfl,rfl⟩:=h
  simp[natA,abO.1 hp]
 ·cases h
def lowD(s:List A)(lo:Option Operand)(d:Nat):Option (Nat×List Prop):=match lo with
 | some x=>natD (opd s x)
 | none=>some (d,[])
def bndD(s:List A)(lo hi mx:Option Operand)(len:Nat):Option (Nat×Nat×Option Nat×List Prop):=
 match lowD s lo 0,lowD s hi len with
 | some (l,p),some (h,q)=>(match mx with
  | none=>some (l,h,none,p++q)
  | some x=>(match hi with
   | some _=>(natD (opd s x)).map λ(m,r)=>(l,h,some m,p++q++r)
   | none=>none))
 |_,_=>none
theorem ab2{s:List A}{lo hi mx:Option Operand}{len l h:Nat}{m:Option Nat}{p:List Prop}(hb:bndD s lo hi mx len=some (l,h,m,p))(hp:All p):bnd s lo hi mx len=some (l,h,m):=by
 unfold bndD at hb
 split at hb
 ·rename_i l' p' h' q' h1 h2
  have low:∀ {o:Option Operand}{d n:Nat}{p:List Prop},lowD s o d=some (n,p)->All p->(match o with | some x=>natA (opd s x) | none=>some d)=some n:=by
   intro o d n p h hp
   unfold lowD at h
   cases o with
   | none=>simp only[Option.some.injEq,Prod.mk.injEq]at h;simp[h.1]
   | some x=>exact ajR h hp
  unfold bnd
  cases mx with
  | none=>
   simp only[Option.some.injEq,Prod.mk.injEq]at hb
   obtain⟨rfl,rfl,rfl,rfl⟩:=hb
   rw[All_app]at hp
   have k1:=low h1 hp.1
   have k2:=low h2 hp.2
   cases lo <;> cases hi <;> simp_all
  | some x=>
   cases hi with
   | none=>simp at hb
   | some y=>
    simp only[Option.map_eq_some_iff,Prod.mk.injEq]at hb
    obtain⟨⟨m',r⟩,hm,rfl,rfl,rfl,rfl⟩:=hb
    rw[All_app,All_app]at hp
    have k1:=low h1 hp.1.1
    have k2:=low h2 hp.1.2
    have k3:=ajR hm hp.2
    cases lo <;> simp_all
 ·cases hb
def akK(P:Program)(t:TypeId)(s:List A)(x:A)(lo hi mx:Option Operand):Option (A×List Prop):=
 match P.underlying t,x with
 | some .string,.c (.v (.str b))=>(match bndD s lo hi mx b.size with
  | some (l,h,none,p)=>some (.c (.v (.str (b.extract l h))),p++[l<=h,h<=b.size])
  |_=>none)
 | some (.slice e),.c (.v (.sl sz els cap))=>(match szOf P e,bndD s lo hi mx els.length with
  | some sz',some (l,h,m,p)=>if sz'=sz∨sz=0 then(match m with
   | none=>some (.c (.v (.sl sz ((els.take h).drop l) (cap.map (· - l)))),p++[l<=h,h<=els.length])
   | some m=>some (.c (.v (.sl sz ((els.take h).drop l) (some (m-l)))),p++[l<=h,h<=els.length,h<=m,m<=els.length,cap≠none∨0<els.length]))else none
  |_,_=>none)
 | some (.slice e),.c (.sl b sz i n cap)=>(match szOf P e,bndD s lo hi mx n with
  | some sz',some (l,h,m,p)=>if sz'=sz then(match m with
   | none=>some (.c (.sl b sz (i+l) (h-l) (cap.map (· - l))),p++[l<=h,h<=n])
   | some m=>some (.c (.sl b sz (i+l) (h-l) (some (m-l))),p++[l<=h,h<=n,h<=m,m<=n,cap≠none∨0<n]))else none
  |_,_=>none)
 | some (.slice e),.c (.slw b sz n)=>(match szOf P e,bndD s lo hi mx n with
  | some sz',some (l,h,m,p)=>if sz'=sz then(match m with
   | none=>some (.c (.sl b sz l (h-l) none),p++[l<=h,h<=n])
   | some m=>some (.c (.sl b sz l (h-l) (some (m-l))),p++[l<=h,h<=n,h<=m,m<=n,0<n]))else none
  |_,_=>none)
 |_,_=>none
theorem ajg{P:Program}{t:TypeId}{s:List A}{x:A}{lo hi mx:Option Operand}{r:A}{p:List Prop}(h:akK P t s x lo hi mx=some (r,p))(hp:All p):ady P t s x lo hi mx=some r:=by
 unfold akK at h
 unfold ady
 split at h
 ·rename_i b hu
  split at h
  ·rename_i l h' q hb
   simp only[Option.some.injEq,Prod.mk.injEq]at h
   obtain⟨rfl,rfl⟩:=h
   simp only[All_app,All,and_true]at hp
   simp only[hu,ab2 hb hp.1,hp.2,and_self,if_true]
  ·cases h
 ·rename_i e sz els cap hu
  split at h
  ·rename_i sz' l h' m q hs hb
   split at h
   ·rename_i hz
    split at h
    ·simp only[Option.some.injEq,Prod.mk.injEq]at h
     obtain⟨rfl,rfl⟩:=h
     simp only[All_app,All,and_true]at hp
     simp only[hu,hs,ab2 hb hp.1]
     rw[if_pos ⟨hz,hp.2.1,hp.2.2⟩]
    ·simp only[Option.some.injEq,Prod.mk.injEq]at h
     obtain⟨rfl,rfl⟩:=h
     simp only[All_app,All,and_true]at hp
     obtain⟨p1,p2,p3,p4,p5,p6⟩:=hp
     simp only[hu,hs,ab2 hb p1]
     rw[if_pos ⟨hz,p2,p3⟩,if_pos ⟨p4,p5,p6⟩]
   ·cases h
  ·cases h
 ·rename_i e b sz i n cap hu
  split at h
  ·rename_i sz' l h' m q hs hb
   split at h
   ·rename_i hz
    split at h
    ·simp only[Option.some.injEq,Prod.mk.injEq]at h
     obtain⟨rfl,rfl⟩:=h
     simp only[All_app,All,and_true]at hp
     simp only[hu,hs,ab2 hb hp.1]
     rw[if_pos ⟨hz,hp.2.1,hp.2.2⟩]
    ·simp only[Option.some.injEq,Prod.mk.injEq]at h
     obtain⟨rfl,rfl⟩:=h
     simp only[All_app,All,and_true]at hp
     obtain⟨p1,p2,p3,p4,p5,p6⟩:=hp
     simp only[hu,hs,ab2 hb p1]
     rw[if_pos ⟨hz,p2,p3⟩,if_pos ⟨p4,p5,p6⟩]
   ·cases h
  ·cases h
 ·rename_i e b sz n hu
  split at h
  ·rename_i sz' l h' m q hs hb
   split at h
   ·rename_i hz
    split at h
    ·simp only[Option.some.injEq,Prod.mk.injEq]at h
     obtain⟨rfl,rfl⟩:=h
     simp only[All_app,All,and_true]at hp
     simp only[hu,hs,ab2 hb hp.1]
     rw[if_pos ⟨hz,hp.2.1,hp.2.2⟩]
    ·simp only[Option.some.injEq,Prod.mk.injEq]at h
     obtain⟨rfl,rfl⟩:=h
     simp only[All_app,All,and_true]at hp
     obtain⟨p1,p2,p3,p4,p5,p6⟩:=hp
     simp only[hu,hs,ab2 hb p1]
     rw[if_pos ⟨hz,p2,p3⟩,if_pos ⟨p4,p5,p6⟩]
   ·cases h
  ·cases h
 ·cases h
end Go.Ev
namespace Go.Ev
set_option linter.unusedSimpArgs false
def aad(n bytes:Nat):Prop:=n*bytes<=140737488355328/\n<=140737488355328
theorem abQ{n bytes:Nat}(h:aad n bytes):room n bytes=true:=by
 simp[room,h.1,h.2]
def anl(h:Heap)(agg:Bool)(n:Nat)(x:A)(it:Option It):Option (A×List Prop):=
 match x,it with
 |.c (.ptr b _ i o),some (.at cl)=>(match live h b with
  | some k=>(cl.part agg o n).map λa=>(a,[k.at i=some cl])
  | none=>none)
 | x,_=>(loadA h agg n x).map λa=>(a,[])
theorem alV{h:Heap}{agg:Bool}{n:Nat}{x:A}{it:Option It}{r:A}{p:List Prop}(hd:anl h agg n x it=some (r,p))(hp:All p):loadA h agg n x=some r:=by
 unfold anl at hd
 split at hd
 ·rename_i b z i o cl
  split at hd
  ·rename_i k hk
   simp only[Option.map_eq_some_iff,Prod.mk.injEq]at hd
   obtain⟨a,ha,rfl,rfl⟩:=hd
   simp only[All,and_true]at hp
   simp[loadA,hk,hp,ha]
  ·cases hd
 ·simp only[Option.map_eq_some_iff,Prod.mk.injEq]at hd
  obtain⟨a,ha,rfl,_⟩:=hd
  exact ha
def aku(h:Heap)(n:Nat)(x v:A)(it:Option It):Option (Heap×List Prop):=
 match x,it,acD v with
 |.c (.ptr b _ i o),some (.at old),some cl=>if cl.len=n then(match live h b with
  | some k=>if o+n<=old.len then some (h.set b (some (k.setAt i (old.put o cl))),[k.at i=some old])else none
  | none=>none)else none
 | x,_,_=>(storeA h n x v).map λh'=>(h',[])
theorem akR{h h':Heap}{n:Nat}{x v:A}{it:Option It}{p:List Prop}(hd:aku h n x v it=some (h',p))(hp:All p):storeA h n x v=some h':=by
 unfold aku at hd
 split at hd
 ·rename_i b z i o old cl hc
  split at hd
  ·rename_i hl
   split at hd
   ·rename_i k hk
    split at hd
    ·rename_i ho
     simp only[Option.some.injEq,Prod.mk.injEq]at hd
     obtain⟨rfl,rfl⟩:=hd
     simp only[All,and_true]at hp
     simp[storeA,hc,hl,hk,hp,ho]
    ·cases hd
   ·cases hd
  ·cases hd
 ·simp only[Option.map_eq_some_iff,Prod.mk.injEq]at hd
  obtain⟨a,ha,rfl,_⟩:=hd
  exact ha
def ag2(h:Heap)(sz bytes:Nat)(x:A)(new:EL)(it:Option It):Option (A×Heap×List Prop):=
 match x with
 |.c (.v (.sl z els (some 0)))=>if(z=sz∨z=0)then(match els with
  | []=>some (.c (.slw h.length sz new.len),h++[some (new.blk sz)],[aad new.len bytes])
  |_::_=>none)else none
 |.c (.v (.sl z els (some (k+1))))=>if z=sz then
   some (.c (.slw h.length sz (els.length+new.len)),h++[some ((EL.app (.p els) new).blk sz)],[k+1<els.length+new.len,aad (els.length+new.len) bytes])else none
 |.c (.slw b z n)=>if z=sz then(match live h b with
  | some k=>some (.c (.slw h.length sz (n+new.len)),h.set b none++[some ((k.el.app new).blk sz)],[aad (n+new.len) bytes])
  | none=>none)else none
 |.c (.sl b z i n (some c))=>if z=sz then(match live h b,it with
  | some k,some (.fit true)=>some (.c (.sl b sz i (n+new.len) (some c)),h.set b (some ((k.el.over (i+n) new).blk sz)),[n+new.len<=c,i+n+new.len<=k.len,¬(n=0/\c=0)])
  | some k,some (.fit false)=>some (.c (.slw h.length sz (n+new.len)),h++[some (((k.el.mid i n).app new).blk sz)],[¬n+new.len<=c,aad (n+new.len) bytes,¬(n=0/\c=0)])
  | some k,none=>(match n,c with
   | 0,0=>some (.c (.slw h.length sz new.len),h++[some (new.blk sz)],[aad new.len bytes])
   |_,_=>none)
  |_,_=>none)else none
 |.c (.sl b z i n none)=>if z=sz then(match live h b,it with
  | some k,some (.fit true)=>some (.c (.sl b sz i (n+new.len) none),h.set b (some ((k.el.over (i+n) new).blk sz)),[i+n+new.len<=k.len])
  | some k,some (.fit false)=>some (.c (.slw h.length sz (n+new.len)),h.set b none++[some (((k.el.mid i n).app new).blk sz)],[¬i+n+new.len<=k.len,aad (n+new.len) bytes])
  |_,_=>none)else none
 |_=>none
theorem aii{h h':Heap}{sz bytes:Nat}{x r:A}{new:EL}{it:Option It}{p:List Prop}(hd:ag2 h sz bytes x new it=some (r,h',p))(hp:All p):appendA h sz bytes x new=some (r,h'):=by
 unfold ag2 at hd
 split at hd
 ·rename_i z els
  split at hd
  ·rename_i hz
   split at hd
   ·simp only[Option.some.injEq,Prod.mk.injEq]at hd
    obtain⟨rfl,rfl,rfl⟩:=hd
    simp only[All,and_true]at hp
    simp[appendA,hz,abQ hp]
   ·cases hd
  ·cases hd
 ·rename_i z els k
  split at hd
  ·rename_i hz
   simp only[Option.some.injEq,Prod.mk.injEq]at hd
   obtain⟨rfl,rfl,rfl⟩:=hd
   simp only[All,and_true]at hp
   simp[appendA,hz,abQ hp.2,hp.1]
  ·cases hd
 ·rename_i b z n
  split at hd
  ·rename_i hz
   split at hd
   ·rename_i k hk
    simp only[Option.some.injEq,Prod.mk.injEq]at hd
    obtain⟨rfl,rfl,rfl⟩:=hd
    simp only[All,and_true]at hp
    simp[appendA,hz,hk,abQ hp]
   ·cases hd
  ·cases hd
 ·rename_i b z i n c
  split at hd
  ·rename_i hz
   split at hd
   ·rename_i k hk
    simp only[Option.some.injEq,Prod.mk.injEq]at hd
    obtain⟨rfl,rfl,rfl⟩:=hd
    simp only[All,and_true]at hp
    simp only[appendA,hz,hk,if_true]
    rw[if_neg hp.2.2,if_pos hp.1,if_pos hp.2.1]
   ·rename_i k hk
    simp only[Option.some.injEq,Prod.mk.injEq]at hd
    obtain⟨rfl,rfl,rfl⟩:=hd
    simp only[All,and_true]at hp
    simp only[appendA,hz,hk,if_true]
    rw[if_neg hp.2.2,if_neg hp.1,if_pos (abQ hp.2.1)]
   ·rename_i k hk
    split at hd
    ·simp only[Option.some.injEq,Prod.mk.injEq]at hd
     obtain⟨rfl,rfl,rfl⟩:=hd
     simp only[All,and_true]at hp
     simp only[appendA,hz,hk,if_true]
     simp[abQ hp]
    ·cases hd
   ·cases hd
  ·cases hd
 ·rename_i b z i n
  split at hd
  ·rename_i hz
   split at hd
   ·rename_i k hk
    simp only[Option.some.injEq,Prod.mk.injEq]at hd
    obtain⟨rfl,rfl,rfl⟩:=hd
    simp only[All,and_true]at hp
    simp[appendA,hz,hk,hp]
   ·rename_i k hk
    simp only[Option.some.injEq,Prod.mk.injEq]at hd
    obtain⟨rfl,rfl,rfl⟩:=hd
    simp only[All,and_true]at hp
    simp only[appendA,hz,hk,if_true]
    rw[if_neg hp.1,if_pos (abQ hp.2)]
   ·cases hd
  ·cases hd
 ·cases hd
def agL(P:Program)(s:List A)(h:Heap)(u e:TypeId)(sz bytes:Nat)(y:Operand):Option (EL×List Prop):=match P.underlying u with
 | some (.int _)=>(match opd s y,acn P e with
  |.c (.v (.int _ m)),some z=>some (.p (List.replicate m.toNat z),[0<=m,aad m.toNat bytes])
  |_,_=>none)
 | some _=>(elsA h sz (opd s y)).map λn=>(n,[])
 | none=>none
theorem aiq{P:Program}{s:List A}{h:Heap}{u e:TypeId}{sz bytes:Nat}{y:Operand}{new:EL}{q:List Prop}(hd:agL P s h u e sz bytes y=some (new,q))(hq:All q):appNew P s h u e sz bytes y=some new:=by
 unfold agL at hd
 unfold appNew
 split at hd
 ·split at hd
  ·rename_i m z hm hz
   simp only[Option.some.injEq,Prod.mk.injEq]at hd
   obtain⟨rfl,rfl⟩:=hd
   simp only[*]
   rw[if_pos ⟨hq.1,abQ hq.2.1⟩]
  ·cases hd
 ·rename_i d hne hu
  simp only[Option.map_eq_some_iff,Prod.mk.injEq]at hd
  obtain⟨n,h1,rfl,rfl⟩:=hd
  simp only[*]
 ·cases hd
def dirD(P:Program)(s:List A)(h:Heap)(op:Op):Option (A×Heap×List Prop):=(evOp P (λ_ _ _=>none) s h op).map λ(a,h')=>(a,h',[])
def opD(P:Program)(cf:aaj)(s:List A)(h:Heap)(it:Option It)(op:Op):Option (A×Heap×List Prop):=
 match op with
 |.binOp o t x y _=>(binD P o t (opd s x) (opd s y) it).map λ(a,p)=>(a,h,p)
 |.convert src dst x=>(match cls P (.convert src dst x)with
  |.sil=>(anq P src dst (opd s x)).map λ(a,p)=>(a,h,p)
  |.rdo=>(match it with
   | some (.txt bs)=>(match P.underlying src,P.underlying dst with
    | some (.slice e),some .string=>(match P.underlying e,elsN h 1 (opd s x)with
     | some (.int .u8),some (.p l)=>some (.c (.v (.str ⟨bs.toArray⟩)),h,[bytesOf l=some bs])
     |_,_=>none)
    |_,_=>none)
   |_=>dirD P s h (.convert src dst x))
  |.alo=>(match P.underlying src,P.underlying dst,opd s x with
   | some .string,some (.slice e),.c (.v (.str t))=>(match P.underlying e with
    | some (.int .u8)=>some (.c (.slw h.length 1 t.size),h++[some (.pur 1 (t.data.toList.map λx=>[.int .u8 x.toNat]))],[t.size<=140737488355328])
    |_=>none)
   |_,_,_=>none)
  |.cnv=>dirD P s h (.convert src dst x)
  |.eff=>dirD P s h (.convert src dst x))
 |.indexAddr t x ix=>(adn P t (opd s x) (opd s ix) it).map λ(a,p)=>(a,h,p)
 |.index t x ix=>(ajO P t (opd s x) (opd s ix) it).map λ(a,p)=>(a,h,p)
 |.slice t x lo hi mx=>(akK P t s (opd s x) lo hi mx).map λ(a,p)=>(a,h,p)
 |.load t a=>(match aggT P t,szOf P t with
  | some g,some n=>(anl h g n (opd s a) it).map λ(r,p)=>(r,h,p)
  |_,_=>none)
 |.store t a x=>(match szOf P t with
  | some n=>(aku h n (opd s a) (opd s x) it).map λ(h',p)=>(undA,h',p)
  | none=>none)
 |.makeSlice t l c=>(match aen P t,opd s l,opd s c with
  | some e,.c (.v (.int _ n)),.c (.v (.int _ m))=>(match szOf P e,acn P e,bytesT P e with
   | some sz,some z,some bytes=>if z.length=sz/\0<sz then
     (match agQ l c with
     | true=>some (.c (.slw h.length sz m.toNat),h++[some (.pur sz (List.replicate m.toNat (nrmL (aeo P 20 e) z)))],[0<=n,n<=m,aad m.toNat bytes])
     | false=>some (.c (.sl h.length sz 0 n.toNat (some m.toNat)),h++[some (.pur sz (List.replicate m.toNat (nrmL (aeo P 20 e) z)))],[0<=n,n<=m,aad m.toNat bytes]))else none
   |_,_,_=>none)
  |_,_,_=>none)
 |.call { callee:=.builtin .append,args,argTypes }=>(match argTypes[0]?,argTypes[1]?,args[0]?,args[1]? with
  | some t,some u,some x,some y=>(match aen P t with
   | some e=>(match szOf P e,bytesT P e with
    | some sz,some bytes=>if 0<sz/\zOk P e sz=true then(match agL P s h u e sz bytes y with
     | some (new,q)=>(ag2 h sz bytes (opd s x) new it).map λ(a,h',p)=>(a,h',q++p)
     | none=>none)else none
    |_,_=>none)
   | none=>none)
  |_,_,_,_=>none)
 |.call { callee:=.value f,args,argTypes }=>(match it,calleeA s f (args.toList.map (opd s))with
  | some (.ret r h'),some (f,l)=>(match P.funcs[f]? with
   | some fn => if fn.body.isSome && fn.name != "runtime.NumGoroutine" then
     some (r.ren (back (abY h deep (abp l) []) h.length),
      abk h (abY h deep (abp l) []) ((h'.take (abY h deep (abp l) []).length).map (renB (back (abY h deep (abp l) []) h.length)))++(h'.drop (abY h deep (abp l) []).length).map (renB (back (abY h deep (abp l) []) h.length)),
      [cf f (renAs (pos (abY h deep (abp l) [])) l) (aaQ h (abY h deep (abp l) []))=some (r,h')])else none
   | none=>none)
  |_,_=>none)
 | op=>dirD P s h op
theorem ahI{P:Program}{cf:aaj}{s:List A}{h h':Heap}{op:Op}{r:A}{p:List Prop}(hd:dirD P s h op=some (r,h',p))(hn:∀ f args ts,op ≠ .call { callee:=.value f,args:=args,argTypes:=ts }):evOp P cf s h op=some (r,h'):=by
 unfold dirD at hd
 simp only[Option.map_eq_some_iff,Prod.mk.injEq]at hd
 obtain⟨⟨a,h1⟩,hd,rfl,rfl,_⟩:=hd
 unfold evOp at hd ⊢
 split at hd
 ·exact hd
 ·exact hd
 ·exact hd
 ·unfold effC at hd ⊢
  split at hd
  ·exact absurd rfl (hn _ _ _)
  ·exact hd
 ·exact hd
theorem ape{P:Program}{cf:aaj}{s:List A}{h h':Heap}{it:Option It}{op:Op}{r:A}{p:List Prop}(hd:opD P cf s h it op=some (r,h',p))(hp:All p):evOp P cf s h op=some (r,h'):=by
 unfold opD at hd
 split at hd
 ·simp only[Option.map_eq_some_iff,Prod.mk.injEq]at hd
  obtain⟨⟨a,q⟩,hd,rfl,rfl,rfl⟩:=hd
  simp[evOp,cls,sil,anI hd hp]
 ·rename_i src dst x
  split at hd
  ·rename_i hc
   simp only[Option.map_eq_some_iff,Prod.mk.injEq]at hd
   obtain⟨⟨a,q⟩,hd,rfl,rfl,rfl⟩:=hd
   simp[evOp,hc,sil,alb hd hp]
  ·rename_i hc
   split at hd
   ·split at hd
    ·rename_i e h1 h2
     split at hd
     ·rename_i l h3 h4
      simp only[Option.some.injEq,Prod.mk.injEq]at hd
      obtain⟨rfl,rfl,rfl⟩:=hd
      simp only[All,and_true]at hp
      simp[evOp,hc,rdo,h1,h2,h3,h4,hp]
     ·cases hd
    ·cases hd
   ·exact ahI hd (by intros;simp)
  ·rename_i hc
   split at hd
   ·rename_i e t h1 h2 h3
    split at hd
    ·rename_i h4
     simp only[Option.some.injEq,Prod.mk.injEq]at hd
     obtain⟨rfl,rfl,rfl⟩:=hd
     simp only[All,and_true]at hp
     simp[evOp,hc,alo,h1,h2,h3,h4,hp]
    ·cases hd
   ·cases hd
  ·exact ahI hd (by intros;simp)
  ·exact ahI hd (by intros;simp)
 ·simp only[Option.map_eq_some_iff,Prod.mk.injEq]at hd
  obtain⟨⟨a,q⟩,hd,rfl,rfl,rfl⟩:=hd
  simp[evOp,cls,sil,aeP hd hp]
 ·simp only[Option.map_eq_some_iff,Prod.mk.injEq]at hd
  obtain⟨⟨a,q⟩,hd,rfl,rfl,rfl⟩:=hd
  simp[evOp,cls,sil,akB hd hp]
 ·simp only[Option.map_eq_some_iff,Prod.mk.injEq]at hd
  obtain⟨⟨a,q⟩,hd,rfl,rfl,rfl⟩:=hd
  simp[evOp,cls,sil,ajg hd hp]
 ·split at hd
  ·rename_i g n h1 h2
   simp only[Option.map_eq_some_iff,Prod.mk.injEq]at hd
   obtain⟨⟨a,q⟩,hd,rfl,rfl,rfl⟩:=hd
   simp[evOp,cls,rdo,h1,h2,alV hd hp]
  ·cases hd
 ·split at hd
  ·rename_i n h1
   simp only[Option.map_eq_some_iff,Prod.mk.injEq]at hd
   obtain⟨⟨a,q⟩,hd,rfl,rfl,rfl⟩:=hd
   simp[evOp,cls,effC,eff,h1,akR hd hp]
  ·cases hd
 ·split at hd
  ·rename_i e k1 n k2 m h1 h2 h3
   split at hd
   ·rename_i sz z bytes h4 h5 h6
    split at hd
    ·rename_i hc
     split at hd
     ·rename_i hsame
      simp only[Option.some.injEq,Prod.mk.injEq]at hd
      obtain⟨rfl,rfl,rfl⟩:=hd
      simp only[All,and_true]at hp
      obtain⟨p1,p2,p3⟩:=hp
      simp only[evOp,cls,alo,h1,h2,h3,h4,h5,h6]
      rw[if_pos ⟨hc.1,hc.2,p1,p2,abQ p3⟩]
      simp[hsame]
     ·rename_i hsame
      simp only[Option.some.injEq,Prod.mk.injEq]at hd
      obtain⟨rfl,rfl,rfl⟩:=hd
      simp only[All,and_true]at hp
      obtain⟨p1,p2,p3⟩:=hp
      simp only[evOp,cls,alo,h1,h2,h3,h4,h5,h6]
      rw[if_pos ⟨hc.1,hc.2,p1,p2,abQ p3⟩]
      simp[hsame]
    ·cases hd
   ·cases hd
  ·cases hd
 ·split at hd
  ·rename_i t u x y h1 h2 h3 h4
   split at hd
   ·rename_i e h5
    split at hd
    ·rename_i sz bytes h6 h7
     split at hd
     ·rename_i hc
      split at hd
      ·rename_i new q h9
       simp only[Option.map_eq_some_iff,Prod.mk.injEq]at hd
       obtain⟨⟨a1,h1',p1⟩,hd,rfl,rfl,rfl⟩:=hd
       rw[All_app]at hp
       have this:=aii hd hp.2
       have h10:=aiq h9 hp.1
       simp only[evOp,cls,effC,eff,h1,h2,h3,h4,h5,h6,h7]
       rw[if_pos hc]
       simp only[h10,this]
      ·cases hd
     ·cases hd
    ·cases hd
   ·cases hd
  ·cases hd
 ·split at hd
  ·rename_i r0 h0 f' l hl
   split at hd
   ·rename_i fn hfn
    split at hd
    ·rename_i hb
     simp only[Option.some.injEq,Prod.mk.injEq]at hd
     obtain⟨rfl,rfl,rfl⟩:=hd
     simp only[All,and_true]at hp
     simp only[evOp,cls,effC,hl,hfn,ah8]
     rw[if_pos hb,hp]
    ·cases hd
   ·cases hd
  ·cases hd
 ·rename_i hn
  refine ahI hd ?_
  rintro f args ts rfl
  exact hn f args ts rfl
end Go.Ev
namespace Go.Ev
variable[Itr]
set_option linter.unusedSimpArgs false
def renD(it:Option It)(a:A)(p:List Prop):Option (A×List Prop):=match it,a with
 | some (.bo b),.c (.v (.bool t))=>some (A.bool b,p++[t=b])
 | some (.num n'),.c (.v (.int k n))=>some (A.int k n',p++[n=n'])
 | some (.as a'),a=>some (a',p++[a=a'])
 |_,a=>some (a,p)
theorem aom{it:Option It}{a a':A}{p p':List Prop}(h:renD it a p=some (a',p'))(hp:All p'):All p/\a=a':=by
 unfold renD at h
 split at h <;> simp only[Option.some.injEq,Prod.mk.injEq]at h <;> obtain⟨rfl,rfl⟩:=h
 ·simp only[All_app,All,and_true]at hp;exact⟨hp.1,by rw[hp.2]⟩
 ·simp only[All_app,All,and_true]at hp;exact⟨hp.1,by rw[hp.2]⟩
 ·simp only[All_app,All,and_true]at hp;exact⟨hp.1,hp.2⟩
 ·exact⟨hp,rfl⟩
def opR(P:Program)(cf:aaj)(s:List A)(h:Heap)(it:Option It)(op:Op):Option (A×Heap×List Prop):=
 match opD P cf s h it op with
 | some (a,h',p)=>(match renD it a p with
  | some (a',p')=>some (a',h',p')
  | none=>none)
 | none=>none
theorem aeJ{P:Program}{cf:aaj}{s:List A}{h h':Heap}{it:Option It}{op:Op}{r:A}{p:List Prop}(hd:opR P cf s h it op=some (r,h',p))(hp:All p):evOp P cf s h op=some (r,h'):=by
 unfold opR at hd
 split at hd
 ·rename_i a h1 q hq
  split at hd
  ·rename_i a' p' hr
   simp only[Option.some.injEq,Prod.mk.injEq]at hd
   obtain⟨rfl,rfl,rfl⟩:=hd
   obtain⟨g1,rfl⟩:=aom hr hp
   exact ape hq g1
  ·cases hd
 ·cases hd
noncomputable def loopG(P:Program)(cf:aaj)(ann:Ann)(np n:Nat)(b:Code)(m:Nat)(st:St):Option (Ex×St):=match iter (evCode P cf ann np n b) m st with
 | some (e,st')=>(match ghosts np (ann (afZ b)) st' with
  | some st''=>some (e,st'')
  | none=>none)
 | none=>none
theorem ghosts_app{np:Nat}:∀ {a b:List Gh}{st:St},ghosts np (a++b) st=(match ghosts np a st with
  | some st'=>ghosts np b st'
  | none=>none)
 | [],b,st=>rfl
 | g::a,b,st=>by
  simp only[List.cons_append,ghosts]
  cases ghost np st g with
  | none=>rfl
  | some st'=>exact ghosts_app
theorem ajo{P:Program}{cf:aaj}{ann:Ann}{np n id:Nat}:∀ {c:Code}{st st':St},headId c=some id->ghosts np (ann id) st=ghosts np (ann id) st'->evCode P cf ann np n c st=evCode P cf ann np n c st':=by
 intro c
 induction c with
 | region i ops d=>
  intro st st' h hg
  simp only[headId,Option.some.injEq]at h
  subst h
  simp only[evCode,ghosts_app,hg]
 | seq a b iha ihb=>
  intro st st' h hg
  simp only[evCode,iha h hg]
 | block i b ih=>
  intro st st' h hg
  simp only[evCode,ih h hg]
 | cond c a b iha ihb=>
  intro st st' h hg
  cases c with
  | tmp t=>
   simp only[headId,Option.some.injEq]at h
   subst h
   simp only[evCode,aht,hg]
  |_=>simp[headId]at h
 |_=>intro st st' h;simp[headId]at h
theorem aei{P:Program}{cf:aaj}{ann:Ann}{np n id:Nat}{c:Code}{st st':St}(h:headId c=some id)(hg:ghosts np (ann id) st=ghosts np (ann id) st')(m:Nat) :
  iter (evCode P cf ann np n c) m st=iter (evCode P cf ann np n c) m st':=by
 cases m with
 | zero=>rfl
 | succ m=>simp only[iter,ajo h hg]
theorem ajb{P:Program}{cf:aaj}{ann:Ann}{np n id:Nat}{c:Code}{st st1:St}(h:headId c=some id)(hg:ghosts np (ann id) st=ghosts np (ann id) st1)(m:Nat):loopG P cf ann np n c m st=loopG P cf ann np n c m st1:=by
 unfold loopG;rw[aei h hg]
def abK(ann:Ann)(np:Nat)(b:Code)(st:St):Option St:=(headId b).bind λid=>ghosts np (ann id) st
theorem ais{P:Program}{cf:aaj}{ann:Ann}{np n:Nat}{b:Code}{st stc:St}(h:abK ann np b st=some stc)(hi:abK ann np b stc=some stc):evCode P cf ann np n b st=evCode P cf ann np n b stc:=by
 unfold abK at h hi
 cases hb:headId b with
 | none=>simp[hb]at h
 | some id=>simp only[hb,Option.bind_some]at h hi;exact ajo hb (h.trans hi.symm)
theorem adk{P:Program}{cf:aaj}{ann:Ann}{np n:Nat}{b:Code}{st stc:St}(h:abK ann np b st=some stc)(hi:abK ann np b stc=some stc)(m:Nat):loopG P cf ann np n b m st=loopG P cf ann np n b m stc:=by
 unfold abK at h hi
 cases hb:headId b with
 | none=>simp[hb]at h
 | some id=>simp only[hb,Option.bind_some]at h hi;exact ajb hb (h.trans hi.symm) m
theorem amu{P:Program}{cfg:Cfg}{cf:aaj}{k:Nat}{f:FuncId}{fn:Func}{body:Code}{args:List A}{h:Heap}{e:Ex}{st st':St}{x:A}{r:A×Heap}
  (hf:P.funcs[f]?=some fn) (hb:fn.body=some body) (he:evCode P cf (cfg.ann f) h.length k body ⟨args++List.replicate (fn.ntmps-args.length) undA,h⟩=some (e,st))
  (hx:∀ id,e ≠ .exit id) (hg:ghosts h.length (cfg.fin f) st=some st') (hr:aio P fn st'.s st'.h=some x) (hl:leave h.length x st'.h=r):evFun P cfg cf k f args h=some r:=by
 simp only[evFun,hf,hb,he,hg]
 cases e with
 | exit id=>exact absurd rfl (hx id)
 | normal=>simp[hr,hl]
 | ret=>simp[hr,hl]
def mk(n:Nat)(l:List (Nat×A)):List A:=(List.range n).map λi=>((l.find? λp=>p.1 == i).map (·.2)).getD .und
end Go.Ev
namespace Go.Ev
theorem bv8{n:Int}(h0:0<=n)(h1:n<256):(BitVec.ofInt 8 n).toNat=n.toNat:=by
 rw[BitVec.toNat_ofInt];omega
theorem apo{n:Int}(h0:0<=n)(h1:n<256):IntKind.u8.wrap n=n:=abe (k:=.u8) ⟨h0,by omega⟩
theorem apq{x:Int}(h0:0<=x)(h1:x<128):IntKind.u8.wrap ((BitVec.ofInt 8 x ||| BitVec.ofInt 8 128).toNat)=x+128:=by
 have e:(BitVec.ofInt 8 x ||| BitVec.ofInt 8 128).toNat=x.toNat+128:=by
  rw[BitVec.toNat_or,bv8 h0 (by omega),bv8 (by omega) (by omega)]
  have:=Nat.two_pow_add_eq_or_of_lt (i:=7) (b:=x.toNat) (by omega) 1
  simp only[Nat.mul_one,show(2:Nat) ^ 7=128 from rfl]at this
  rw[Nat.or_comm,show(128:Int).toNat=128 from rfl]
  omega
 rw[e,apo (by omega) (by omega)]
 omega
end Go.Ev
