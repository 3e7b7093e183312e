import Derived.Test.YtganajogkdinaaaGreatEvNum
import Derived.Test.YtganajogkdinaaaGreatEvLink
import Derived.CheckFast
set_option linter.all false
namespace Go.Ev
variable[Itr]
set_option linter.unusedSimpArgs false
structure Rd(β:Type)where
 o:Option β
 it:β->It
 ps:β->List Prop
 pf:∀ b,o=some b->All (ps b)
inductive Sc:Type->Type 1 where
 | ret {α:Type} (a:α):Sc α
 | fail {α:Type}:Sc α
 | op {α β:Type} (r i:Nat) (rd:Rd β) (t:β->Sc α):Sc α
 | chk {α:Type} (r i:Nat) (p:Prop) (d:Decidable p) (ps:List Prop) (pf:p->All ps) (t:Sc α):Sc α
 | prf {α:Type} (r i:Nat) (ps:List Prop) (pf:All ps) (t:Sc α):Sc α
 | op2 {α β γ:Type} (r i:Nat) (rd:Rd (β⊕γ)) (t:β->Sc α) (t2:γ->Sc α):Sc α
 | br {α:Type} (r i:Nat) (s:Tmp) (c:Bool) (t e:Sc α):Sc α
 | brp {α:Type} (r i:Nat) (s:Tmp) (neg:Bool) (p:Prop) (d:Decidable p) (t e:Sc α):Sc α
 | nm {α:Type} (r i:Nat) (s:Tmp) (k:IntKind) (x:Int) (t:Int->Sc α):Sc α
 | rwS {α:Type} (r i:Nat) (s:Tmp) (a a':A) (pf:a=a') (t:Sc α):Sc α
 | rwB {α:Type} (r i:Nat) (b:Nat) (k k':Blk) (pf:k=k') (t:Sc α):Sc α
 | asm {α:Type} (r i:Nat) (p:Prop) (d:Decidable p) (t:p->Sc α):Sc α
 | cls {α:Type} (b:Nat) (k:Blk) (bs:List Nat) (ks:List Blk) (k1:Blk) (pf:∀ h:Heap,bs.map (live h)=ks.map some->clsB h k=some (k1,bs)) (t:Sc α):Sc α
 | pk {α:Type} (H:Heap) (t:Sc α):Sc α
 | seg {α O:Type} (id:Nat) (s:Sc (O⊕α)) (K:O->St) (t:O->Sc α):Sc α
 | loop {α V O:Type} (id:Nat) (v:V) (K:V->St) (body:V->Sc (V⊕O)) (e:Ex) (KO:O->St) (t:O->Sc α):Sc α
 | loop2 {α V O O2:Type} (id:Nat) (v:V) (K:V->St) (body:V->Sc (V⊕(O⊕O2))) (e:Ex) (KO:O->St) (t:O->Sc α) (e2:Ex) (KO2:O2->St) (t2:O2->Sc α):Sc α
 | unr {α:Type} (m:Nat) (t:Sc α):Sc α
 | rng {α V X O:Type} (b:Bool) (v:V) (K:V->Heap) (rows:List (List A)) (xs:List X) (row:X->List A) (pf:rows=xs.map row) (body:V->X->Sc (V⊕O)) (e:Ex) (KO:O->Heap) (t:V->Sc α) (t2:O->Sc α):Sc α
def bn(neg b:Bool):Bool:=bif neg then !b else b
def segB{O α:Type}(x:Option (O⊕α))(t:O->Option α):Option α:=match x with
 | some (.inl o)=>t o
 | some (.inr a)=>some a
 | none=>none
def altB{O O2 α:Type}(x:Option (O⊕O2))(t:O->Option α)(t2:O2->Option α):Option α:=match x with
 | some (.inl o)=>t o
 | some (.inr o)=>t2 o
 | none=>none
def loopS{V O:Type}(f:V->Option (V⊕O)):Nat->V->Option O
 | 0,_=>none
 | m+1,v=>match f v with
  | some (.inl v')=>loopS f m v'
  | some (.inr o)=>some o
  | none=>none
def rngB{V X O:Type}(f:V->X->Option (V⊕O)):List X->V->Option (V⊕O)
 | [],v=>some (.inl v)
 | x::r,v=>match f v x with
  | some (.inl v')=>rngB f r v'
  | some (.inr o)=>some (.inr o)
  | none=>none
def Sc.run(n:Nat):{α:Type}->Sc α->Option α
 |_,.ret a=>some a
 |_,.fail=>none
 |_,.op _ _ rd t=>rd.o.bind λb=>(t b).run n
 |_,.chk _ _ p d _ _ t=>@ite _ p d (t.run n) none
 |_,.prf _ _ _ _ t=>t.run n
 |_,.op2 _ _ rd t t2=>altB rd.o (λb=>(t b).run n) (λb=>(t2 b).run n)
 |_,.br _ _ _ c t e=>if c then t.run n else e.run n
 |_,.brp _ _ _ _ p d t e=>@ite _ p d (t.run n) (e.run n)
 |_,.nm _ _ _ _ x t=>(t x).run n
 |_,.rwS _ _ _ _ _ _ t=>t.run n
 |_,.rwB _ _ _ _ _ _ t=>t.run n
 |_,.asm _ _ p d t=>@dite _ p d (λh=>(t h).run n) λ_=>none
 |_,.cls _ _ _ _ _ _ t=>t.run n
 |_,.pk _ t=>t.run n
 |_,.seg _ s _ t=>segB (s.run n) λo=>(t o).run n
 |_,.loop _ v _ body _ _ t=>(loopS (λv=>(body v).run n) n v).bind λo=>(t o).run n
 |_,.loop2 _ v _ body _ _ t _ _ t2=>altB (loopS (λv=>(body v).run n) n v) (λo=>(t o).run n) (λo=>(t2 o).run n)
 |_,.unr m t=>if m<=n then t.run n else none
 |_,.rng b v _ _ xs _ _ body _ _ t t2=>bif b then altB (rngB (λv x=>(body v x).run n) xs v) (λv=>(t v).run n) (λo=>(t2 o).run n)else none
def Sc.triv:{α:Type}->(α->Prop)->Sc α->Prop
 |_,L,.ret a=>L a
 |_,_,.fail=>True
 |_,L,.op _ _ rd t=>∀ b,rd.ps b=rd.ps b/\(t b).triv L
 |_,L,.chk _ _ _ _ ps _ t=>ps=ps/\t.triv L
 |_,L,.prf _ _ ps _ t=>ps=ps/\t.triv L
 |_,L,.op2 _ _ rd t t2=>(∀ b,rd.ps (.inl b)=rd.ps (.inl b)/\(t b).triv L)/\∀ b,rd.ps (.inr b)=rd.ps (.inr b)/\(t2 b).triv L
 |_,L,.brp _ _ _ neg p d t e=>some (A.bool (bn neg (@decide p d)))=some (A.bool (bn neg (@decide p d)))/\t.triv L/\e.triv L
 |_,L,.br _ _ _ c t e=>some (A.bool c)=some (A.bool c)/\t.triv L/\e.triv L
 |_,L,.nm _ _ _ k x t=>some (A.int k x)=some (A.int k x)/\∀ y,(t y).triv L
 |_,L,.rwS _ _ _ a _ _ t=>some a=some a/\t.triv L
 |_,L,.rwB _ _ _ k _ _ t=>some k=some k/\t.triv L
 |_,L,.asm _ _ p _ t=>∀ h:p,(t h).triv L
 |_,L,.cls b k _ ks _ _ t=>some b=some b/\some k=some k/\ks.map some=ks.map some/\false=false/\t.triv L
 |_,L,.pk H t=>true=true/\some H=some H/\some H=some H/\t.triv L
 |_,L,.seg _ s K t=>s.triv (fun
   |.inl o=>some (K o)=some (K o)
   |.inr a=>L a)/\∀ o,some (K o)=some (K o)/\(t o).triv L
 |_,L,.loop _ v K body _ KO t=>some (K v)=some (K v)/\(∀ v,some (K v)=some (K v)/\(body v).triv (fun
   |.inl v'=>some (K v')=some (K v')
   |.inr o=>some (KO o)=some (KO o)))/\∀ o,(t o).triv L
 |_,L,.loop2 _ v K body _ KO t _ KO2 t2=>some (K v)=some (K v)/\(∀ v,some (K v)=some (K v)/\(body v).triv (fun
   |.inl v'=>some (K v')=some (K v')
   |.inr (.inl o)=>some (KO o)=some (KO o)
   |.inr (.inr o)=>some (KO2 o)=some (KO2 o)))/\(∀ o,(t o).triv L)/\∀ o,(t2 o).triv L
 |_,L,.unr _ t=>t.triv L
 |_,L,.rng (X:=X) b v K rows _ _ _ body _ KO t t2=>some (b,rows)=some (b,rows)/\true=true/\(X->true=true)/\some (K v)=some (K v)/\(∀ v x,(body v x).triv (fun
   |.inl v'=>some (K v')=some (K v')
   |.inr o=>some (KO o)=some (KO o)))/\(∀ v,(t v).triv L)/\∀ o,(t2 o).triv L
theorem Sc.triv_ok:∀ {α:Type}{L:α->Prop} (s:Sc α),(∀ a,L a)->s.triv L
 |_,_,.ret a,h=>h a
 |_,_,.fail,_=>trivial
 |_,_,.op _ _ _ t,h=>λb=>⟨rfl,triv_ok (t b) h⟩
 |_,_,.chk _ _ _ _ _ _ t,h=>⟨rfl,triv_ok t h⟩
 |_,_,.prf _ _ _ _ t,h=>⟨rfl,triv_ok t h⟩
 |_,_,.op2 _ _ _ t t2,h=>⟨λb=>⟨rfl,triv_ok (t b) h⟩,λb=>⟨rfl,triv_ok (t2 b) h⟩⟩
 |_,_,.brp _ _ _ _ _ _ t e,h=>⟨rfl,triv_ok t h,triv_ok e h⟩
 |_,_,.br _ _ _ _ t e,h=>⟨rfl,triv_ok t h,triv_ok e h⟩
 |_,_,.nm _ _ _ _ _ t,h=>⟨rfl,λy=>triv_ok (t y) h⟩
 |_,_,.rwS _ _ _ _ _ _ t,h=>⟨rfl,triv_ok t h⟩
 |_,_,.rwB _ _ _ _ _ _ t,h=>⟨rfl,triv_ok t h⟩
 |_,_,.asm _ _ _ _ t,h=>λx=>triv_ok (t x) h
 |_,_,.cls _ _ _ _ _ _ t,h=>⟨rfl,rfl,rfl,rfl,triv_ok t h⟩
 |_,_,.pk _ t,h=>⟨rfl,rfl,rfl,triv_ok t h⟩
 |_,_,.seg _ s _ t,h=>⟨triv_ok s λx=>by cases x;exact rfl;exact h _,λo=>⟨rfl,triv_ok (t o) h⟩⟩
 |_,_,.loop _ _ _ body _ _ t,h=>⟨rfl,λv=>⟨rfl,triv_ok (body v) λx=>by cases x <;> rfl⟩,λo=>triv_ok (t o) h⟩
 |_,_,.loop2 _ _ _ body _ _ t _ _ t2,h=>⟨rfl,λv=>⟨rfl,triv_ok (body v) λx=>by
   rcases x with x | x | x <;> rfl⟩,λo=>triv_ok (t o) h,λo=>triv_ok (t2 o) h⟩
 |_,_,.unr _ t,h=>triv_ok t h
 |_,_,.rng _ _ _ _ _ _ _ body _ _ t t2,h=>⟨rfl,rfl,λ_=>rfl,rfl,λv x=>triv_ok (body v x) λx=>by cases x <;> rfl,λv=>triv_ok (t v) h,λo=>triv_ok (t2 o) h⟩
def here(r i r' i':Nat):Bool:=Nat.beq r r'&&Nat.beq i i'
def post(r i:Nat):{α:Type}->St->Sc α->(St->Sc α->Prop)->Prop
 |_,st,.br r' i' s c t e,k=>bif here r i r' i' then st.s[s]?=some (A.bool c)/\post r i ⟨st.s.set s (A.bool true),st.h⟩ t k/\post r i ⟨st.s.set s (A.bool false),st.h⟩ e k else k st (.br r' i' s c t e)
 |_,st,.brp r' i' s neg p d t e,k=>bif here r i r' i' then st.s[s]?=some (A.bool (bn neg (@decide p d)))/\post r i ⟨st.s.set s (A.bool (bn neg true)),st.h⟩ t k/\post r i ⟨st.s.set s (A.bool (bn neg false)),st.h⟩ e k else k st (.brp r' i' s neg p d t e)
 |_,st,.nm r' i' s kd x t,k=>bif here r i r' i' then st.s[s]?=some (A.int kd x)/\∀ y,post r i ⟨st.s.set s (A.int kd y),st.h⟩ (t y) k else k st (.nm r' i' s kd x t)
 |_,st,.rwS r' i' s a a' pf t,k=>bif here r i r' i' then st.s[s]?=some a/\post r i ⟨st.s.set s a',st.h⟩ t k else k st (.rwS r' i' s a a' pf t)
 |_,st,.rwB r' i' b x x' pf t,k=>bif here r i r' i' then live st.h b=some x/\post r i ⟨st.s,st.h.set b (some x')⟩ t k else k st (.rwB r' i' b x x' pf t)
 |_,st,.asm r' i' p d t,k=>bif here r i r' i' then(∀ h:p,post r i st (t h) k)else k st (.asm r' i' p d t)
 |_,_,.fail,_=>True
 |_,st,s,k=>k st s
section
variable(P:Program)(cf:aaj)
def adB{α:Type}(o:Oper)(st:St)(s:Sc α)(k:A->Heap->Sc α->Prop):Prop:=match opR P cf st.s st.h none o.op with
 | some (a,h,[])=>k a h s
 |_=>False
def acO{α:Type}(r i:Nat)(o:Oper)(st:St)(s:Sc α)(k:A->Heap->Sc α->Prop):Prop:=match s with
 |.op r' i' rd t=>bif here r i r' i' then(∀ b,match opR P cf st.s st.h (some (rd.it b)) o.op with
   | some (a,h,q)=>q=rd.ps b/\k a h (t b)
   | none=>False)else adB P cf o st (.op r' i' rd t) k
 |.op2 r' i' rd t t2=>bif here r i r' i' then(∀ b,match opR P cf st.s st.h (some (rd.it (.inl b))) o.op with
   | some (a,h,q)=>q=rd.ps (.inl b)/\k a h (t b)
   | none=>False)/\(∀ b,match opR P cf st.s st.h (some (rd.it (.inr b))) o.op with
   | some (a,h,q)=>q=rd.ps (.inr b)/\k a h (t2 b)
   | none=>False)else adB P cf o st (.op2 r' i' rd t t2) k
 |.chk r' i' p d ps pf t=>bif here r i r' i' then(match opR P cf st.s st.h none o.op with
   | some (a,h,q)=>q=ps/\k a h t
   | none=>False)else adB P cf o st (.chk r' i' p d ps pf t) k
 |.prf r' i' ps pf t=>bif here r i r' i' then(match opR P cf st.s st.h none o.op with
   | some (a,h,q)=>q=ps/\k a h t
   | none=>False)else adB P cf o st (.prf r' i' ps pf t) k
 | s=>adB P cf o st s k
def abL(r:Nat)(ops:Array Oper){α:Type}:Nat->List Oper->St->Sc α->(St->Sc α->Prop)->Prop
 |_,[],st,s,k=>k st s
 | i,o::l,st,s,k=>match acl ops st.s o with
  | some true=>acO P cf r i o st s λa h s'=>post r i ⟨putA st.s o.dst a,h⟩ s' λst2 s2=>abL r ops (i+1) l st2 s2 k
  | some false=>abL r ops (i+1) l ⟨putA st.s o.dst undA,st.h⟩ s k
  | none=>False
def ak5(l:List Oper)(st:St)(h1:Heap)(st2:St){α:Type}:Sc α->(St->Sc α->Prop)->Prop
 |.pk H t,k=>(Nat.beq st2.s.length st.s.length&&af5 st.h)=true/\some h1=some H/\some (st2.h.take (st.h.length+1))=some H/\k (ahH l st st2) t
 |.fail,_=>True
 |_,_=>False
def agD(r:Nat)(ops:Array Oper){α:Type}(i:Nat):List Oper->St->Sc α->(St->Sc α->Prop)->Prop
 | [],_,_,_=>False
 | o::l,st,s,k=>match acl ops st.s o,aeI st.s o.op with
  | some false,_=>abL P cf r ops i (o::l) st s k
  | some true,some _=>acO P cf r i o st s λa h s'=>post r i ⟨putA st.s o.dst a,h⟩ s' λst1 s1=>abL P cf r ops (i+1) l st1 s1 λst2 s2=>ak5 (o::l) st st1.h st2 s2 k
  |_,_=>False
def extD(P:Program)(st:St)(o:Oper):Option (A×List Prop):=match o.guard,o.op with
 | none,.slice t x lo (some hi) none=>(match P.underlying t,opd st.s x with
  | some (.slice e),.c (.sl b sz i n none)=>(match szOf P e,bndD st.s lo (some hi) none n,live st.h b with
   | some sz',some (l,h,none,p),some k=>if sz'=sz then some (.c (.sl b sz (i+l) (h-l) none),p++[l<=h,i+h<=k.len])else none
   |_,_,_=>none)
  |_,_=>none)
 |_,_=>none
def aha{α:Type}(r i:Nat)(o:Oper)(st:St)(s:Sc α)(k:A->Sc α->Prop):Prop:=match s with
 |.chk r' i' p d ps pf t=>bif here r i r' i' then(match extD P st o with
   | some (a,q)=>q=ps/\k a t
   | none=>False)else False
 |.fail=>True
 |_=>False
def abJ(np r:Nat)(ops:Array Oper){α:Type}:Nat->List Gh->List Oper->St->Sc α->(St->Sc α->Prop)->Prop
 | i,[],l,st,s,k=>abL P cf r ops i l st s k
 | i,.peek m n::gs,l,st,s,k=>abL P cf r ops i (l.take m) st s λst s=>agD P cf r ops (i+m) ((l.drop m).take n) st s λst s=>abJ np r ops (i+m+n) gs ((l.drop m).drop n) st s k
 | i,.ext m::gs,l,st,s,k=>abL P cf r ops i (l.take m) st s λst s=>(match l.drop m with
  | o::l2=>aha P r (i+m) o st s λa s=>post r (i+m) ⟨putA st.s o.dst a,st.h⟩ s λst s=>abJ np r ops (i+m+1) gs l2 st s k
  | []=>False)
 | i,.mid m g::gs,l,st,s,k=>abL P cf r ops i (l.take m) st s λst s=>(match ghosts np [g] st with
  | some st=>abJ np r ops (i+m) gs (l.drop m) st s k
  | none=>False)
 |_,_,_,_,_,_=>False
def aeF(r:Nat)(ops:Array Oper)(anc:Array Nat){α:Type}:List Nat->St->Pins->Sc α->(St->Sc α->Prop)->Prop
 | [],st,_,s,k=>k st s
 | i::l,st,pins,s,k=>match ops[i]? with
  | none=>False
  | some o=>match acl ops st.s o with
   | some true=>(match isEff P o with
    | true=>(match pinsOk anc i (touched P st.s st.h o.op) pins with
     | true=>acO P cf r i o st s λa h s'=>post r i ⟨putA st.s o.dst a,h⟩ s' λst2 s2=>aeF r ops anc l st2 pins s2 k
     | false=>False)
    | false=>acO P cf r i o st s λa h s'=>post r i ⟨putA st.s o.dst a,h⟩ s' λst2 s2=>aeF r ops anc l st2 ((i,pinned P st.s st.h o.op)::pins) s2 k)
   | some false=>aeF r ops anc l ⟨putA st.s o.dst undA,st.h⟩ pins s k
   | none=>False
variable(ann:Ann)(np:Nat)
def ai8(b:Code){α O:Type}(K:O->St)(k:Ex->St->Sc α->Prop)(e:Ex)(st:St):Sc (O⊕α)->Prop
 |.ret (.inl o)=>(match e with
  |.normal=>abK ann np b st=some (K o)
  |_=>False)
 |.ret (.inr a)=>(match e with
  |.normal=>False
  | e=>k e st (.ret a))
 |.fail=>True
 |_=>False
def Ex.same:Ex->Ex->Bool
 |.normal,.normal=>true
 |.ret,.ret=>true
 |.exit i,.exit j=>Nat.beq i j
 |_,_=>false
def acI(b:Code){V O:Type}(K:V->St)(e0:Ex)(KO:O->St)(e:Ex)(st:St):Sc (V⊕O)->Prop
 |.ret (.inl v)=>(match e with
  |.normal=>abK ann np b st=some (K v)
  |_=>False)
 |.ret (.inr o)=>(match e with
  |.normal=>False
  | e=>bif e.same e0 then ghosts np (ann (afZ b)) st=some (KO o)else False)
 |.fail=>True
 |_=>False
def adL(b:Code)(e0:Ex)(e:Ex)(st st2:St):Prop:=match e with
 |.normal=>False
 | e=>bif e.same e0 then ghosts np (ann (afZ b)) st=some st2 else False
def ab7(b:Code){V O O2:Type}(K:V->St)(e0:Ex)(KO:O->St)(e2:Ex)(KO2:O2->St)(e:Ex)(st:St):Sc (V⊕(O⊕O2))->Prop
 |.ret (.inl v)=>(match e with
  |.normal=>abK ann np b st=some (K v)
  |_=>False)
 |.ret (.inr (.inl o))=>adL ann np b e0 e st (KO o)
 |.ret (.inr (.inr o))=>adL ann np b e2 e st (KO2 o)
 |.fail=>True
 |_=>False
def ad8(b:Code)(id:Nat):Bool:=match headId b with
 | some i=>Nat.beq i id
 | none=>false
def akL(a b:Code)(id:Nat):Bool:=bif Nat.blt id 10000000 then ad8 b id else ad8 b (id/10000000)&&ad8 a (id % 10000000)
def ado:List Gh->{α:Type}->St->Sc α->(St->Sc α->Prop)->Prop
 | [],_,st,s,k=>k st s
 |.cls t::gs,_,st,.cls b k0 bs ks k1 _ s,k=>aka st.s t=some b/\live st.h b=some k0/\bs.map (live st.h)=ks.map some/\bs.contains b=false/\ado gs ⟨st.s,(aaX st.h bs).set b (some k1)⟩ s k
 |_,_,_,_,_=>False
def ahZ{α:Type}(f:St->Sc α->(Ex->St->Sc α->Prop)->Prop)(g:St->Option St)(k:Ex->St->Sc α->Prop):Nat->St->Sc α->Prop
 | 0,_,_=>False
 | m+1,st,s=>f st s λe st' s'=>(match e with
  |.normal=>ahZ f g k m st' s'
  | e=>(match g st' with
   | some st2=>k e st2 s'
   | none=>False))
def aeg(m:Nat){V O:Type}(K:V->Heap)(e0:Ex)(KO:O->Heap)(e:Ex)(st:St):Sc (V⊕O)->Prop
 |.ret (.inl v)=>(match e with
  |.normal=>some (leave m undA st.h).2=some (K v)
  |_=>False)
 |.ret (.inr o)=>(match e with
  |.normal=>False
  | e=>bif e.same e0 then some (leave m undA st.h).2=some (KO o)else False)
 |.fail=>True
 |_=>False
def aaq:Nat->Code->{α:Type}->St->Sc α->(Ex->St->Sc α->Prop)->Prop
 | np,.skip,_,st,s,k=>k .normal st s
 | np,.label _,_,st,s,k=>k .normal st s
 | np,.region id ops d,_,st,s,k=>match ghosts np (ann id) st with
  | some st=>post id 900 st s λst s=>ado (ann (4000000+id)) st s λst s=>post id 903 st s λst s=>(match d with
   | true=>(match drawOk P ops (CheckFast.beforeF ops) (air P ops (CheckFast.beforeF ops) ops.size 0)with
    | true=>aeF P cf id ops (CheckFast.beforeF ops) (air P ops (CheckFast.beforeF ops) ops.size 0) st [] s λst s=>(match ghosts np (ann (3000000+id)) st with
     | some st=>post id 902 st s λst s=>ado (ann (5000000+id)) st s λst s=>post id 904 st s λst s=>k .normal st s
     | none=>False)
    | false=>False)
   | false=>(match ann (3000000+id)with
    | []=>(match ann (5000000+id)with
     | []=>abL P cf id ops 0 ops.toList st s λst s=>k .normal st s
     |_::_=>False)
    |.peek m n::gs=>(match ann (5000000+id)with
     | []=>abJ P cf np id ops 0 (.peek m n::gs) ops.toList st s λst s=>k .normal st s
     |_::_=>False)
    |.mid m g::gs=>(match ann (5000000+id)with
     | []=>abJ P cf np id ops 0 (.mid m g::gs) ops.toList st s λst s=>k .normal st s
     |_::_=>False)
    |.ext m::gs=>(match ann (5000000+id)with
     | []=>abJ P cf np id ops 0 (.ext m::gs) ops.toList st s λst s=>k .normal st s
     |_::_=>False)
    |.stop m::gs=>abL P cf id ops 0 (ops.toList.take m) st s λst s=>(match ghosts np gs st with
     | some st=>post id 902 st s λst s=>ado (ann (5000000+id)) st s λst s=>post id 904 st s λst s=>abL P cf id ops m (ops.toList.drop m) st s λst s=>k .normal st s
     | none=>False)
    |_::_=>False))
  | none=>False
 | np,.seq a b,_,st,.seg id s1 K t,k=>bif akL a b id then aaq np a st s1 (ai8 ann np b K k)/\∀ o,abK ann np b (K o)=some (K o)/\aaq np b (K o) (t o) k
   else aaq np a st (.seg id s1 K t) λe st' s'=>(match e with
    |.normal=>aaq np b st' s' k
    | e=>k e st' s')
 | np,.seq a b,_,st,s,k=>aaq np a st s λe st' s'=>(match e with
   |.normal=>aaq np b st' s' k
   | e=>k e st' s')
 | np,.cond c a b,_,st,s,k=>match ghosts np (ann (aht c)) st with
  | some st=>post (aht c) 900 st s λst s=>(match opd st.s c with
   |.c (.v (.bool true))=>aaq np a st s k
   |.c (.v (.bool false))=>aaq np b st s k
   |_=>False)
  | none=>False
 | np,.block id b,_,st,s,k=>aaq np b st s λe st' s'=>(match e with
   |.exit j=>bif Nat.beq j id then k .normal st' s' else k (.exit j) st' s'
   | e=>k e st' s')
 | np,.loop b,_,st,.loop id v K body e KO t,k=>bif ad8 b id then abK ann np b st=some (K v)/\(∀ v,abK ann np b (K v)=some (K v)/\aaq np b (K v) (body v) (acI ann np b K e KO))/\∀ o,k e (KO o) (t o)else False
 | np,.loop b,_,st,.loop2 id v K body e KO t e2 KO2 t2,k=>bif ad8 b id then abK ann np b st=some (K v)/\(∀ v,abK ann np b (K v)=some (K v)/\aaq np b (K v) (body v) (ab7 ann np b K e KO e2 KO2))/\(∀ o,k e (KO o) (t o))/\∀ o,k e2 (KO2 o) (t2 o)else False
 | np,.loop b,_,st,.unr m s,k=>ahZ (λst s k=>aaq np b st s k) (ghosts np (ann (afZ b))) k m st s
 | np,.exit id,_,st,s,k=>k (.exit id) st s
 | np,.ret,_,st,s,k=>k .ret st s
 |_,.rangeFunc g ps as bd,_,st,.rng b v K rows _ row _ body e KO t t2,k=>match opd st.s g with
  |.c (.v (.fn f caps))=>Itr.it f caps=some (b,rows)/\(ndC as&&ndC bd)=true/\(∀ x,Nat.beq (row x).length ps.size=true)/\some st.h=some (K v) ∧
    (∀ v x,aaq (K v).length as ⟨setP st.s ps.toList (row x),K v⟩ (body v x) (λe' st s=>match e' with
     |.normal=>aaq (K v).length bd st s (aeg (K v).length K e KO)
     |_=>False))/\(∀ v,k .normal ⟨st.s,K v⟩ (t v))/\∀ o,k e ⟨st.s,KO o⟩ (t2 o)
  |_=>False
 |_,_,_,_,_,_=>False
end
variable{P:Program}{cf:aaj}{ann:Ann}{np n:Nat}
theorem acd{l:List A}{s:Nat}{a:A}(h:l[s]?=some a):l.set s a=l:=by
 apply List.ext_getElem?
 intro j
 rw[List.getElem?_set]
 split
 ·rename_i hj;subst hj
  split
  ·exact h.symm
  ·rename_i hl;rw[List.getElem?_eq_none (by omega)]at h;cases h
 ·rfl
theorem alT{h:Heap}{b:Nat}{k:Blk}(hl:live h b=some k):h.set b (some k)=h:=by
 unfold live at hl
 split at hl
 ·rename_i k' hb
  cases hl
  apply List.ext_getElem?
  intro j
  rw[List.getElem?_set]
  split
  ·rename_i hj;subst hj
   split
   ·exact hb.symm
   ·rename_i hl;rw[List.getElem?_eq_none (by omega)]at hb;cases hb
  ·rfl
 ·cases hl
theorem aaD{r i:Nat}:∀ {α:Type}{st:St}{s:Sc α}{k:St->Sc α->Prop}{a:α},post r i st s k->s.run n=some a->∃ s',k st s'/\s'.run n=some a
 |_,st,.br r' i' s c t e,k,a,h,hr=>by
  simp only[post]at h
  cases hh:here r i r' i' with
  | false=>simp only[hh,cond_false]at h;exact⟨_,h,hr⟩
  | true=>
   simp only[hh,cond_true]at h
   obtain⟨h1,h2,h3⟩:=h
   cases c with
   | true=>
    rw[acd h1]at h2
    exact aaD h2 (by simpa[Sc.run]using hr)
   | false=>
    rw[acd h1]at h3
    exact aaD h3 (by simpa[Sc.run]using hr)
 |_,st,.brp r' i' s neg p d t e,k,a,h,hr=>by
  simp only[post]at h
  cases hh:here r i r' i' with
  | false=>simp only[hh,cond_false]at h;exact⟨_,h,hr⟩
  | true=>
   simp only[hh,cond_true]at h
   obtain⟨h1,h2,h3⟩:=h
   simp only[Sc.run]at hr
   by_cases hp:p
   ·rw[if_pos hp]at hr
    rw[decide_eq_true hp]at h1
    rw[acd h1]at h2
    exact aaD h2 hr
   ·rw[if_neg hp]at hr
    rw[decide_eq_false hp]at h1
    rw[acd h1]at h3
    exact aaD h3 hr
 |_,st,.nm r' i' s kd x t,k,a,h,hr=>by
  simp only[post]at h
  cases hh:here r i r' i' with
  | false=>simp only[hh,cond_false]at h;exact⟨_,h,hr⟩
  | true=>
   simp only[hh,cond_true]at h
   obtain⟨h1,h2⟩:=h
   have:=h2 x
   rw[acd h1]at this
   exact aaD this (by simpa[Sc.run]using hr)
 |_,st,.rwS r' i' s x x' pf t,k,a,h,hr=>by
  simp only[post]at h
  cases hh:here r i r' i' with
  | false=>simp only[hh,cond_false]at h;exact⟨_,h,hr⟩
  | true=>
   simp only[hh,cond_true]at h
   obtain⟨h1,h2⟩:=h
   rw[<-pf,acd h1]at h2
   exact aaD h2 (by simpa[Sc.run]using hr)
 |_,st,.rwB r' i' b x x' pf t,k,a,h,hr=>by
  simp only[post]at h
  cases hh:here r i r' i' with
  | false=>simp only[hh,cond_false]at h;exact⟨_,h,hr⟩
  | true=>
   simp only[hh,cond_true]at h
   obtain⟨h1,h2⟩:=h
   rw[<-pf,alT h1]at h2
   exact aaD h2 (by simpa[Sc.run]using hr)
 |_,st,.asm r' i' p d t,k,a,h,hr=>by
  simp only[post]at h
  cases hh:here r i r' i' with
  | false=>simp only[hh,cond_false]at h;exact⟨_,h,hr⟩
  | true=>
   simp only[hh,cond_true]at h
   simp only[Sc.run]at hr
   by_cases hp:p
   ·rw[dif_pos hp]at hr
    exact aaD (h hp) hr
   ·rw[dif_neg hp]at hr;cases hr
 |_,st,.pk ..,k,a,h,hr |_,st,.cls ..,k,a,h,hr |_,st,.ret _,k,a,h,hr |_,st,.op ..,k,a,h,hr |_,st,.op2 ..,k,a,h,hr |_,st,.chk ..,k,a,h,hr |_,st,.prf ..,k,a,h,hr |_,st,.seg ..,k,a,h,hr |_,st,.loop ..,k,a,h,hr |_,st,.loop2 ..,k,a,h,hr |_,st,.unr ..,k,a,h,hr |_,st,.rng ..,k,a,h,hr=>⟨_,h,hr⟩
 |_,st,.fail,k,a,h,hr=>by simp[Sc.run]at hr
theorem akp{α:Type}{o:Oper}{st:St}{s:Sc α}{k:A->Heap->Sc α->Prop}(h:adB P cf o st s k):∃ x h',evOp P cf st.s st.h o.op=some (x,h')/\k x h' s:=by
 unfold adB at h
 split at h
 ·rename_i x h' hq
  exact⟨x,h',aeJ hq trivial,h⟩
 ·exact h.elim
theorem acC{α:Type}{r i:Nat}{o:Oper}{st:St}{s:Sc α}{k:A->Heap->Sc α->Prop}{a:α}(h:acO P cf r i o st s k)(hr:s.run n=some a) :
  ∃ x h' s',evOp P cf st.s st.h o.op=some (x,h')/\k x h' s'/\s'.run n=some a:=by
 have dir:∀ {s:Sc α},adB P cf o st s k->s.run n=some a->∃ x h' s',evOp P cf st.s st.h o.op=some (x,h')/\k x h' s'/\s'.run n=some a:=by
  intro s h hr
  obtain⟨x,h',g1,g2⟩:=akp h
  exact⟨x,h',s,g1,g2,hr⟩
 cases s with
 | op r' i' rd t=>
  simp only[acO]at h
  cases hh:here r i r' i' with
  | false=>simp only[hh,cond_false]at h;exact dir h hr
  | true=>
   simp only[hh,cond_true]at h
   simp only[Sc.run,Option.bind_eq_some_iff]at hr
   obtain⟨b,hb,hr⟩:=hr
   have hq:=h b
   split at hq
   ·rename_i x h' q heq
    exact⟨x,h',t b,aeJ heq (by rw[hq.1];exact rd.pf b hb),hq.2,hr⟩
   ·exact hq.elim
 | op2 r' i' rd t t2=>
  simp only[acO]at h
  cases hh:here r i r' i' with
  | false=>simp only[hh,cond_false]at h;exact dir h hr
  | true=>
   simp only[hh,cond_true]at h
   simp only[Sc.run]at hr
   unfold altB at hr
   split at hr
   ·rename_i b hb
    have hq:=h.1 b
    split at hq
    ·rename_i x h' q heq
     exact⟨x,h',t b,aeJ heq (by rw[hq.1];exact rd.pf _ hb),hq.2,hr⟩
    ·exact hq.elim
   ·rename_i b hb
    have hq:=h.2 b
    split at hq
    ·rename_i x h' q heq
     exact⟨x,h',t2 b,aeJ heq (by rw[hq.1];exact rd.pf _ hb),hq.2,hr⟩
    ·exact hq.elim
   ·cases hr
 | chk r' i' p d ps pf t=>
  simp only[acO]at h
  cases hh:here r i r' i' with
  | false=>simp only[hh,cond_false]at h;exact dir h hr
  | true=>
   simp only[hh,cond_true]at h
   simp only[Sc.run]at hr
   split at hr
   ·rename_i hp
    split at h
    ·rename_i x h' q heq
     exact⟨x,h',t,aeJ heq (by rw[h.1];exact pf hp),h.2,hr⟩
    ·exact h.elim
   ·cases hr
 | prf r' i' ps pf t=>
  simp only[acO]at h
  cases hh:here r i r' i' with
  | false=>simp only[hh,cond_false]at h;exact dir h hr
  | true=>
   simp only[hh,cond_true]at h
   simp only[Sc.run]at hr
   split at h
   ·rename_i x h' q heq
    exact⟨x,h',t,aeJ heq (by rw[h.1];exact pf),h.2,hr⟩
   ·exact h.elim
 |_=>exact dir h hr
theorem aaP{r:Nat}{ops:Array Oper}{α:Type}{a:α}:∀ {l:List Oper}{i:Nat}{st:St}{s:Sc α}{k:St->Sc α->Prop},abL P cf r ops i l st s k->s.run n=some a →
  ∃ st' s',evOps P cf ops l st=some st'/\k st' s'/\s'.run n=some a
 | [],i,st,s,k,h,hr=>⟨st,s,rfl,h,hr⟩
 | o::l,i,st,s,k,h,hr=>by
  simp only[abL]at h
  split at h
  ·rename_i hw
   obtain⟨x,h',s1,g1,g2,g3⟩:=acC h hr
   obtain⟨s2,g4,g5⟩:=aaD g2 g3
   obtain⟨st',s',g6,g7,g8⟩:=aaP g4 g5
   exact⟨st',s',by simp only[evOps,hw,g1];exact g6,g7,g8⟩
  ·rename_i hw
   obtain⟨st',s',g6,g7,g8⟩:=aaP h hr
   exact⟨st',s',by simp only[evOps,hw];exact g6,g7,g8⟩
  ·exact h.elim
theorem aiB{r:Nat}{ops:Array Oper}{α:Type}{a:α}{l:List Oper}{i:Nat}{st:St}{s:Sc α}{k:St->Sc α->Prop}(h:agD P cf r ops i l st s k)(hr:s.run n=some a) :
  ∃ st' s',evPeek P cf ops l st=some st'/\k st' s'/\s'.run n=some a:=by
 cases l with
 | nil=>exact h.elim
 | cons o l=>
  simp only[agD]at h
  split at h
  ·rename_i hw
   obtain⟨st',s',g1,g2,g3⟩:=aaP h hr
   exact⟨st',s',by simp only[evPeek,hw];exact g1,g2,g3⟩
  ·rename_i b hw hb
   obtain⟨x,h',s1,g1,g2,g3⟩:=acC h hr
   obtain⟨s2,g4,g5⟩:=aaD g2 g3
   obtain⟨st2,s3,g6,g7,g8⟩:=aaP g4 g5
   unfold ak5 at g7
   split at g7
   ·rename_i H t
    obtain⟨c1,c2,c3,c4⟩:=g7
    simp only[Bool.and_eq_true]at c1
    simp only[Option.some.injEq]at c2 c3
    refine⟨_,t,?_,c4,by simpa[Sc.run]using g8⟩
    simp only[evPeek,hw,hb,g1,g6]
    rw[if_pos ⟨c1.2,Nat.eq_of_beq_eq_true c1.1,by rw[c3,c2]⟩]
   ·simp[Sc.run]at g8
   ·exact g7.elim
  ·exact h.elim
theorem aoj{st:St}{o:Oper}{a:A}{q:List Prop}(h:extD P st o=some (a,q))(hp:All q):extA P st o=some a:=by
 unfold extD at h
 unfold extA
 split at h
 ·rename_i t x lo hi hg ho
  split at h
  ·rename_i e b sz i n hu hx
   split at h
   ·rename_i sz' l h' p k hsz hb hk
    split at h
    ·rename_i hz
     simp only[Option.some.injEq,Prod.mk.injEq]at h
     obtain⟨rfl,rfl⟩:=h
     simp only[All_app,All,and_true]at hp
     simp only[hg,ho,hu,hx,hsz,ab2 hb hp.1,hk]
     rw[if_pos ⟨hz,hp.2.1,hp.2.2⟩]
    ·cases h
   ·cases h
  ·cases h
 ·cases h
theorem aie{α:Type}{r i:Nat}{o:Oper}{st:St}{s:Sc α}{k:A->Sc α->Prop}{a:α}(h:aha P r i o st s k)(hr:s.run n=some a):∃ x s',extA P st o=some x/\k x s'/\s'.run n=some a:=by
 unfold aha at h
 split at h
 ·rename_i r' i' p d ps pf t
  cases hh:here r i r' i' with
  | false=>simp[hh]at h
  | true=>
   simp only[hh,cond_true]at h
   simp only[Sc.run]at hr
   split at hr
   ·rename_i hp
    split at h
    ·rename_i x q heq
     exact⟨x,t,aoj heq (by rw[h.1];exact pf hp),h.2,hr⟩
    ·exact h.elim
   ·cases hr
 ·simp[Sc.run]at hr
 ·exact h.elim
theorem abN{r:Nat}{ops:Array Oper}{α:Type}{a:α}:∀ {gs:List Gh}{l:List Oper}{i:Nat}{st:St}{s:Sc α}{k:St->Sc α->Prop},abJ P cf np r ops i gs l st s k->s.run n=some a →
  ∃ st' s',evRow P cf np ops gs l st=some st'/\k st' s'/\s'.run n=some a
 | [],l,i,st,s,k,h,hr=>by
  simp only[abJ]at h
  simp only[evRow]
  exact aaP h hr
 |.peek m n::gs,l,i,st,s,k,h,hr=>by
  simp only[abJ]at h
  obtain⟨st1,s1,g1,g2,g3⟩:=aaP h hr
  obtain⟨st2,s2,g4,g5,g6⟩:=aiB g2 g3
  obtain⟨st3,s3,g7,g8,g9⟩:=abN g5 g6
  exact⟨st3,s3,by simp only[evRow,g1,g4];exact g7,g8,g9⟩
 |.mid m g::gs,l,i,st,s,k,h,hr=>by
  simp only[abJ]at h
  obtain⟨st1,s1,g1,g2,g3⟩:=aaP h hr
  split at g2
  ·rename_i st2 hg
   obtain⟨st3,s3,g7,g8,g9⟩:=abN g2 g3
   exact⟨st3,s3,by simp only[evRow,g1,hg];exact g7,g8,g9⟩
  ·exact g2.elim
 |.ext m::gs,l,i,st,s,k,h,hr=>by
  simp only[abJ]at h
  obtain⟨st1,s1,g1,g2,g3⟩:=aaP h hr
  split at g2
  ·rename_i o l2 hd
   obtain⟨x,s2,g4,g5,g6⟩:=aie g2 g3
   obtain⟨s3,g5,g6⟩:=aaD g5 g6
   obtain⟨st3,s4,g7,g8,g9⟩:=abN g5 g6
   exact⟨st3,s4,by simp only[evRow,g1,hd,g4];exact g7,g8,g9⟩
  ·exact g2.elim
 |.stop _::_,_,_,_,_,_,h,_=>by simp[abJ]at h
 |.keep _::_,_,_,_,_,_,h,_ |.only _::_,_,_,_,_,_,h,_ |.frz _::_,_,_,_,_,_,h,_ |.own .. :: _,_,_,_,_,_,h,_ |.nrm .. :: _,_,_,_,_,_,h,_ |.ownC .. :: _,_,_,_,_,_,h,_ |.wkC .. :: _,_,_,_,_,_,h,_ |.mvC .. :: _,_,_,_,_,_,h,_ |.drop _::_,_,_,_,_,_,h,_ |.frzC .. :: _,_,_,_,_,_,h,_ |.trimC .. :: _,_,_,_,_,_,h,_ |.wk _::_,_,_,_,_,_,h,_ |.nrmP .. :: _,_,_,_,_,_,h,_ |.trim _::_,_,_,_,_,_,h,_ |.cls _::_,_,_,_,_,_,h,_=>by simp[abJ]at h
theorem acT{r:Nat}{ops:Array Oper}{anc:Array Nat}{α:Type}{a:α}:∀ {l:List Nat}{st:St}{pins:Pins}{s:Sc α}{k:St->Sc α->Prop},aeF P cf r ops anc l st pins s k->s.run n=some a →
  ∃ st' s',evOrd P cf ops anc l st pins=some st'/\k st' s'/\s'.run n=some a
 | [],st,pins,s,k,h,hr=>⟨st,s,rfl,h,hr⟩
 | i::l,st,pins,s,k,h,hr=>by
  simp only[aeF]at h
  split at h
  ·exact h.elim
  ·rename_i o ho
   split at h
   ·rename_i hw
    split at h
    ·rename_i he
     split at h
     ·rename_i hp
      obtain⟨x,h',s1,g1,g2,g3⟩:=acC h hr
      obtain⟨s2,g4,g5⟩:=aaD g2 g3
      obtain⟨st',s',g6,g7,g8⟩:=acT g4 g5
      exact⟨st',s',by simp only[evOrd,ho,hw,g1,he,if_true,hp];exact g6,g7,g8⟩
     ·exact h.elim
    ·rename_i he
     obtain⟨x,h',s1,g1,g2,g3⟩:=acC h hr
     obtain⟨s2,g4,g5⟩:=aaD g2 g3
     obtain⟨st',s',g6,g7,g8⟩:=acT g4 g5
     exact⟨st',s',by simp only[evOrd,ho,hw,g1,he,Bool.false_eq_true,if_false];exact g6,g7,g8⟩
   ·rename_i hw
    obtain⟨st',s',g6,g7,g8⟩:=acT h hr
    exact⟨st',s',by simp only[evOrd,ho,hw];exact g6,g7,g8⟩
   ·exact h.elim
theorem adc{e e':Ex}(h:e.same e'=true):e=e':=by
 cases e <;> cases e' <;> simp_all[Ex.same]
def adi(P:Program)(cf:aaj)(ann:Ann)(np n:Nat)(c:Code):Prop:=∀ {α:Type}{st:St}{s:Sc α}{k:Ex->St->Sc α->Prop}{a:α},aaq P cf ann np c st s k->s.run n=some a →
  ∃ e st' s',evCode P cf ann np n c st=some (e,st')/\k e st' s'/\s'.run n=some a
theorem adx{b:Code}(hb:adi P cf ann np n b){V O:Type}{K:V->St}{body:V->Sc (V⊕O)}{e:Ex}{KO:O->St}
  (h:∀ v,abK ann np b (K v)=some (K v)/\aaq P cf ann np b (K v) (body v) (acI ann np b K e KO)) :
  ∀ (m:Nat) (v:V) (o:O),loopS (λv=>(body v).run n) m v=some o->loopG P cf ann np n b m (K v)=some (e,KO o)
 | 0,v,o,hl=>by simp[loopS]at hl
 | m+1,v,o,hl=>by
  simp only[loopS]at hl
  have key:∀ x,(body v).run n=some x->∃ e' st' s',evCode P cf ann np n b (K v)=some (e',st')/\acI ann np b K e KO e' st' s'/\s'.run n=some x:=λx hx=>hb (h v).2 hx
  split at hl
  ·rename_i v' hv
   obtain⟨e',st',s',g1,g2,g3⟩:=key _ hv
   unfold acI at g2
   split at g2
   ·rename_i v2
    simp only[Sc.run,Option.some.injEq,Sum.inl.injEq]at g3
    subst g3
    cases e' with
    | normal=>
     have:=adx hb h m v2 o hl
     unfold loopG at this ⊢
     simp only[iter,g1]
     have hcan:abK ann np b st'=some (K v2):=g2
     have h2:=(h v2).1
     unfold abK at hcan h2
     cases hid:headId b with
     | none=>simp[hid]at h2
     | some id=>
      simp only[hid,Option.bind_some]at hcan h2
      rw[aei hid (hcan.trans h2.symm)]
      exact this
    |_=>exact g2.elim
   ·rename_i o2
    simp[Sc.run]at g3
   ·simp[Sc.run]at g3
   ·exact g2.elim
  ·rename_i o2 hv
   cases hl
   obtain⟨e',st',s',g1,g2,g3⟩:=key _ hv
   unfold acI at g2
   split at g2
   ·simp[Sc.run]at g3
   ·simp only[Sc.run,Option.some.injEq,Sum.inr.injEq]at g3
    subst g3
    cases e' with
    | normal=>exact g2.elim
    | exit i=>
     simp only at g2
     cases hs:Ex.same (.exit i) e with
     | false=>simp[hs]at g2
     | true=>
      simp only[hs,cond_true]at g2
      rw[<-adc hs]
      simp only[loopG,iter,g1,g2]
    | ret=>
     simp only at g2
     cases hs:Ex.same .ret e with
     | false=>simp[hs]at g2
     | true=>
      simp only[hs,cond_true]at g2
      rw[<-adc hs]
      simp only[loopG,iter,g1,g2]
   ·simp[Sc.run]at g3
   ·exact g2.elim
  ·cases hl
theorem abV{b:Code}(hb:adi P cf ann np n b){V O O2:Type}{K:V->St}{body:V->Sc (V⊕(O⊕O2))}{e e2:Ex}{KO:O->St}{KO2:O2->St}
  (h:∀ v,abK ann np b (K v)=some (K v)/\aaq P cf ann np b (K v) (body v) (ab7 ann np b K e KO e2 KO2)) :
  ∀ (m:Nat) (v:V) (o:O⊕O2),loopS (λv=>(body v).run n) m v=some o->loopG P cf ann np n b m (K v)=(match o with
   |.inl o=>some (e,KO o)
   |.inr o=>some (e2,KO2 o))
 | 0,v,o,hl=>by simp[loopS]at hl
 | m+1,v,o,hl=>by
  simp only[loopS]at hl
  have key:∀ x,(body v).run n=some x->∃ e' st' s',evCode P cf ann np n b (K v)=some (e',st')/\ab7 ann np b K e KO e2 KO2 e' st' s'/\s'.run n=some x:=λx hx=>hb (h v).2 hx
  split at hl
  ·rename_i v' hv
   obtain⟨e',st',s',g1,g2,g3⟩:=key _ hv
   unfold ab7 at g2
   split at g2
   ·rename_i v2
    simp only[Sc.run,Option.some.injEq,Sum.inl.injEq]at g3
    subst g3
    cases e' with
    | normal=>
     have:=abV hb h m v2 o hl
     unfold loopG at this ⊢
     simp only[iter,g1]
     have hcan:abK ann np b st'=some (K v2):=g2
     have h2:=(h v2).1
     unfold abK at hcan h2
     cases hid:headId b with
     | none=>simp[hid]at h2
     | some id=>
      simp only[hid,Option.bind_some]at hcan h2
      rw[aei hid (hcan.trans h2.symm)]
      exact this
    |_=>exact g2.elim
   ·simp[Sc.run]at g3
   ·simp[Sc.run]at g3
   ·simp[Sc.run]at g3
   ·exact g2.elim
  ·rename_i o2 hv
   cases hl
   obtain⟨e',st',s',g1,g2,g3⟩:=key _ hv
   have fin:∀ {e0:Ex}{st2:St},adL ann np b e0 e' st' st2->loopG P cf ann np n b (m+1) (K v)=some (e0,st2):=by
    intro e0 st2 g2
    unfold adL at g2
    cases e' with
    | normal=>exact g2.elim
    | exit i=>
     simp only at g2
     cases hs:Ex.same (.exit i) e0 with
     | false=>simp[hs]at g2
     | true=>
      simp only[hs,cond_true]at g2
      rw[<-adc hs]
      simp only[loopG,iter,g1,g2]
    | ret=>
     simp only at g2
     cases hs:Ex.same .ret e0 with
     | false=>simp[hs]at g2
     | true=>
      simp only[hs,cond_true]at g2
      rw[<-adc hs]
      simp only[loopG,iter,g1,g2]
   unfold ab7 at g2
   split at g2
   ·simp[Sc.run]at g3
   ·simp only[Sc.run,Option.some.injEq,Sum.inr.injEq]at g3
    subst g3
    exact fin g2
   ·simp only[Sc.run,Option.some.injEq,Sum.inr.injEq]at g3
    subst g3
    exact fin g2
   ·simp[Sc.run]at g3
   ·exact g2.elim
  ·cases hl
theorem ace{np:Nat}:∀ {gs:List Gh}{α:Type}{st:St}{s:Sc α}{k:St->Sc α->Prop}{a:α},ado gs st s k->s.run n=some a->∃ st' s',ghosts np gs st=some st'/\k st' s'/\s'.run n=some a
 | [],_,st,s,k,a,h,hr=>⟨st,s,rfl,h,hr⟩
 |.cls t::gs,_,st,.cls b k0 bs ks k1 pf s,k,a,h,hr=>by
  simp only[ado]at h
  obtain⟨h1,h2,h3,h4,h5⟩:=h
  obtain⟨st',s',g1,g2,g3⟩:=ace h5 hr
  refine⟨st',s',?_,g2,g3⟩
  simp only[ghosts,ghost,h1,h2,pf _ h3,h4]
  exact g1
theorem agi{f:St->Option (Ex×St)}{r:Ex×St}:∀ {m n:Nat}{st:St},iter f m st=some r->m<=n->iter f n st=some r
 | 0,_,_,h,_=>by simp[iter]at h
 | m+1,0,_,_,hl=>by omega
 | m+1,n+1,st,h,hl=>by
  simp only[iter]at h ⊢
  split at h
  ·exact agi h (by omega)
  ·exact h
theorem aea{b:Code}(hb:adi P cf ann np n b){α:Type}{g:St->Option St}{k:Ex->St->Sc α->Prop}{a:α}:∀ (m:Nat) (st:St) (s:Sc α),ahZ (λst s k=>aaq P cf ann np b st s k) g k m st s->s.run n=some a →
  ∃ e st1 st' s',iter (evCode P cf ann np n b) m st=some (e,st1)/\g st1=some st'/\k e st' s'/\s'.run n=some a
 | 0,st,s,h,hr=>h.elim
 | m+1,st,s,h,hr=>by
  simp only[ahZ]at h
  obtain⟨e,st',s',g1,g2,g3⟩:=hb h hr
  cases e with
  | normal=>
   obtain⟨e2,st1,st2,s2,q1,q2,q3,q4⟩:=aea hb m st' s' g2 g3
   exact⟨e2,st1,st2,s2,by simp only[iter,g1,q1],q2,q3,q4⟩
  | exit i=>
   simp only at g2
   split at g2
   ·rename_i st2 hg
    exact⟨.exit i,st',st2,s',by simp only[iter,g1],hg,g2,g3⟩
   ·exact g2.elim
  | ret=>
   simp only at g2
   split at g2
   ·rename_i st2 hg
    exact⟨.ret,st',st2,s',by simp only[iter,g1],hg,g2,g3⟩
   ·exact g2.elim
theorem acs{as bd:Code}(ha:∀ np,adi P cf ann np n as)(hb:∀ np,adi P cf ann np n bd){V X O:Type}{K:V->Heap}{row:X->List A}{s0:List A}{ps:List Tmp}{body:V->X->Sc (V⊕O)}{e:Ex}{KO:O->Heap}
  (h:∀ v x,aaq P cf ann (K v).length as ⟨setP s0 ps (row x),K v⟩ (body v x) (λe' st s=>match e' with
   |.normal=>aaq P cf ann (K v).length bd st s (aeg (K v).length K e KO)
   |_=>False)) :
  ∀ (xs:List X) (v:V) (r:V⊕O),rngB (λv x=>(body v x).run n) xs v=some r->rng (λnp st=>match evCode P cf ann np n as st with
   | some (.normal,st1)=>evCode P cf ann np n bd st1
   |_=>none) s0 ps (xs.map row) (K v)=(match r with
   |.inl v'=>some (.normal,K v')
   |.inr o=>some (e,KO o))
 | [],v,r,hl=>by
  simp only[rngB,Option.some.injEq]at hl
  subst hl
  rfl
 | x::xs,v,r,hl=>by
  simp only[rngB]at hl
  have key:∀ z,(body v x).run n=some z->∃ e' st' s',(match evCode P cf ann (K v).length n as ⟨setP s0 ps (row x),K v⟩with
    | some (.normal,st1)=>evCode P cf ann (K v).length n bd st1
    |_=>none)=some (e',st')/\aeg (K v).length K e KO e' st' s'/\s'.run n=some z:=by
   intro z hz
   obtain⟨e1,st1,s1,g1,g2,g3⟩:=ha _ (h v x) hz
   cases e1 with
   | normal=>
    obtain⟨e2,st2,s2,q1,q2,q3⟩:=hb _ g2 g3
    exact⟨e2,st2,s2,by rw[g1];exact q1,q2,q3⟩
   |_=>exact g2.elim
  simp only[List.map_cons,rng]
  split at hl
  ·rename_i v' hv
   obtain⟨e',st',s',g1,g2,g3⟩:=key _ hv
   unfold aeg at g2
   split at g2
   ·rename_i v2
    simp only[Sc.run,Option.some.injEq,Sum.inl.injEq]at g3
    subst g3
    cases e' with
    | normal=>
     simp only[Option.some.injEq]at g2
     simp only[g1,g2]
     exact acs ha hb h xs _ r hl
    |_=>exact g2.elim
   ·simp[Sc.run]at g3
   ·simp[Sc.run]at g3
   ·exact g2.elim
  ·rename_i o hv
   cases hl
   obtain⟨e',st',s',g1,g2,g3⟩:=key _ hv
   unfold aeg at g2
   split at g2
   ·simp[Sc.run]at g3
   ·simp only[Sc.run,Option.some.injEq,Sum.inr.injEq]at g3
    subst g3
    cases e' with
    | normal=>exact g2.elim
    | exit i=>
     simp only at g2
     cases hs:Ex.same (.exit i) e with
     | false=>simp[hs]at g2
     | true=>
      simp only[hs,cond_true,Option.some.injEq]at g2
      rw[<-adc hs]
      simp only[g1,g2]
    | ret=>
     simp only at g2
     cases hs:Ex.same .ret e with
     | false=>simp[hs]at g2
     | true=>
      simp only[hs,cond_true,Option.some.injEq]at g2
      rw[<-adc hs]
      simp only[g1,g2]
   ·simp[Sc.run]at g3
   ·exact g2.elim
  ·cases hl
theorem aiF:∀ (c:Code) (np:Nat),adi P cf ann np n c:=by
 intro c
 induction c with
 | skip=>intro np α st s k a h hr;exact⟨_,_,s,rfl,h,hr⟩
 | label=>intro np α st s k a h hr;exact⟨_,_,s,rfl,h,hr⟩
 | exit=>intro np α st s k a h hr;exact⟨_,_,s,rfl,h,hr⟩
 | ret=>intro np α st s k a h hr;exact⟨_,_,s,rfl,h,hr⟩
 | region id ops d=>
  intro np α st s k a h hr
  simp only[aaq]at h
  split at h
  ·rename_i st0 hg0
   obtain⟨s0,g1,g2⟩:=aaD h hr
   obtain⟨st1,s9,hg1,g1,g2⟩:=ace g1 g2
   obtain⟨s1,g1,g2⟩:=aaD g1 g2
   have hg:ghosts np (ann id++ann (4000000+id)) st=some st1:=by rw[ghosts_app,hg0];exact hg1
   cases d with
   | true=>
    simp only at g1
    split at g1
    ·rename_i hd
     obtain⟨st2,s2,g3,g4,g5⟩:=acT g1 g2
     rw[CheckFast.beforeF_eq]at hd g3
     split at g4
     ·rename_i st9 hgs0
      obtain⟨s9,g6,g7⟩:=aaD g4 g5
      obtain⟨st3,s8,hgs1,g6,g7⟩:=ace g6 g7
      obtain⟨s3,g6,g7⟩:=aaD g6 g7
      have hgs:ghosts np (ann (3000000+id)++ann (5000000+id)) st2=some st3:=by rw[ghosts_app,hgs0];exact hgs1
      exact⟨.normal,st3,s3,by simp only[evCode,hg,if_true,an6,evDraw,ancs,hd,g3,hgs],g6,g7⟩
     ·exact g4.elim
    ·exact g1.elim
   | false=>
    simp only at g1
    split at g1
    ·rename_i ha
     split at g1
     ·rename_i ha2
      obtain⟨st',s',g3,g4,g5⟩:=aaP g1 g2
      exact⟨.normal,st',s',by simp only[evCode,hg,Bool.false_eq_true,if_false,ha,ha2,List.append_nil,evRow,g3],g4,g5⟩
     ·exact g1.elim
    ·rename_i m m2 gs ha
     split at g1
     ·rename_i ha2
      obtain⟨st',s',g3,g4,g5⟩:=abN g1 g2
      exact⟨.normal,st',s',by simp only[evCode,hg,Bool.false_eq_true,if_false,ha,ha2,List.append_nil,g3],g4,g5⟩
     ·exact g1.elim
    ·rename_i m g gs ha
     split at g1
     ·rename_i ha2
      obtain⟨st',s',g3,g4,g5⟩:=abN g1 g2
      exact⟨.normal,st',s',by simp only[evCode,hg,Bool.false_eq_true,if_false,ha,ha2,List.append_nil,g3],g4,g5⟩
     ·exact g1.elim
    ·rename_i m gs ha
     split at g1
     ·rename_i ha2
      obtain⟨st',s',g3,g4,g5⟩:=abN g1 g2
      exact⟨.normal,st',s',by simp only[evCode,hg,Bool.false_eq_true,if_false,ha,ha2,List.append_nil,g3],g4,g5⟩
     ·exact g1.elim
    ·rename_i m gs ha
     obtain⟨st2,s2,g3,g4,g5⟩:=aaP g1 g2
     split at g4
     ·rename_i st9 hgs0
      obtain⟨s9,g6,g7⟩:=aaD g4 g5
      obtain⟨st3,s8,hgs1,g6,g7⟩:=ace g6 g7
      obtain⟨s3,g6,g7⟩:=aaD g6 g7
      have hgs:ghosts np (gs++ann (5000000+id)) st2=some st3:=by rw[ghosts_app,hgs0];exact hgs1
      obtain⟨st',s',g8,g9,g10⟩:=aaP g6 g7
      exact⟨.normal,st',s',by simp only[evCode,hg,Bool.false_eq_true,if_false,ha,List.cons_append,evRow,g3,hgs,g8],g9,g10⟩
     ·exact g4.elim
    ·exact g1.elim
  ·exact h.elim
 | seq x y ihx ihy=>
  intro np α st s k a h hr
  have plain:aaq P cf ann np x st s (λe st' s'=>(match e with
   |.normal=>aaq P cf ann np y st' s' k
   | e=>k e st' s'))->∃ e st' s',evCode P cf ann np n (.seq x y) st=some (e,st')/\k e st' s'/\s'.run n=some a:=by
   intro h
   obtain⟨e,st1,s1,g1,g2,g3⟩:=ihx np h hr
   cases e with
   | normal=>
    obtain⟨e,st',s',g4,g5,g6⟩:=ihy np g2 g3
    exact⟨e,st',s',by simp only[evCode,g1];exact g4,g5,g6⟩
   | exit i=>exact⟨_,st1,s1,by simp only[evCode,g1],g2,g3⟩
   | ret=>exact⟨_,st1,s1,by simp only[evCode,g1],g2,g3⟩
  cases s with
  | seg id s1 K t=>
   simp only[aaq]at h
   cases hh:akL x y id with
   | false=>simp only[hh,cond_false]at h;exact plain h
   | true=>
    simp only[hh,cond_true]at h
    obtain⟨h1,h2⟩:=h
    simp only[Sc.run]at hr
    obtain⟨z,hz,hr⟩:∃ z,s1.run n=some z/\segB (some z) (λo=>(t o).run n)=some a:=by
     cases hx:s1.run n with
     | none=>rw[hx]at hr;simp[segB]at hr
     | some z=>rw[hx]at hr;exact⟨z,rfl,hr⟩
    obtain⟨e,st1,s',g1,g2,g3⟩:=ihx np h1 hz
    unfold ai8 at g2
    split at g2
    ·rename_i o
     simp only[Sc.run,Option.some.injEq]at g3
     subst g3
     cases e with
     | normal=>
      obtain⟨e,st',s',g4,g5,g6⟩:=ihy np (h2 o).2 hr
      refine⟨e,st',s',?_,g5,g6⟩
      simp only[evCode,g1]
      rw[ais g2 (h2 o).1]
      exact g4
     |_=>exact g2.elim
    ·rename_i a'
     simp only[Sc.run,Option.some.injEq]at g3
     subst g3
     simp only[segB,Option.some.injEq]at hr
     subst hr
     cases e with
     | normal=>exact g2.elim
     | exit i=>exact⟨_,st1,.ret a',by simp only[evCode,g1],g2,rfl⟩
     | ret=>exact⟨_,st1,.ret a',by simp only[evCode,g1],g2,rfl⟩
    ·simp[Sc.run]at g3
    ·exact g2.elim
  |_=>exact plain h
 | cond c x y ihx ihy=>
  intro np α st s k a h hr
  simp only[aaq]at h
  split at h
  ·rename_i st1 hg
   obtain⟨s1,h,hr⟩:=aaD h hr
   split at h
   ·rename_i hc
    obtain⟨e,st',s',g1,g2,g3⟩:=ihx np h hr
    exact⟨e,st',s',by simp only[evCode,hg,hc,cond_true];exact g1,g2,g3⟩
   ·rename_i hc
    obtain⟨e,st',s',g1,g2,g3⟩:=ihy np h hr
    exact⟨e,st',s',by simp only[evCode,hg,hc,cond_false];exact g1,g2,g3⟩
   ·exact h.elim
  ·exact h.elim
 | block id x ih=>
  intro np α st s k a h hr
  simp only[aaq]at h
  obtain⟨e,st',s',g1,g2,g3⟩:=ih np h hr
  cases e with
  | normal=>exact⟨_,st',s',by simp only[evCode,g1],g2,g3⟩
  | ret=>exact⟨_,st',s',by simp only[evCode,g1],g2,g3⟩
  | exit j=>
   simp only at g2
   cases hj:Nat.beq j id with
   | true=>
    simp only[hj,cond_true]at g2
    exact⟨_,st',s',by simp only[evCode,g1];rw[if_pos (Nat.eq_of_beq_eq_true hj)],g2,g3⟩
   | false=>
    simp only[hj,cond_false]at g2
    have:j≠id:=by intro he;subst he;simp at hj
    exact⟨_,st',s',by simp only[evCode,g1];rw[if_neg this],g2,g3⟩
 | loop x ih=>
  intro np α st s k a h hr
  cases s with
  | loop id v K body e KO t=>
   simp only[aaq]at h
   cases hh:ad8 x id with
   | false=>simp[hh]at h
   | true=>
    simp only[hh,cond_true]at h
    obtain⟨h1,h2,h3⟩:=h
    simp only[Sc.run,Option.bind_eq_some_iff]at hr
    obtain⟨o,ho,hr⟩:=hr
    refine⟨e,KO o,t o,?_,h3 o,hr⟩
    have:=adx (ih np) h2 n v o ho
    rw[<-adk h1 (h2 v).1]at this
    exact this
  | loop2 id v K body e KO t e2 KO2 t2=>
   simp only[aaq]at h
   cases hh:ad8 x id with
   | false=>simp[hh]at h
   | true=>
    simp only[hh,cond_true]at h
    obtain⟨h1,h2,h3,h4⟩:=h
    simp only[Sc.run]at hr
    unfold altB at hr
    split at hr
    ·rename_i o ho
     have:=abV (ih np) h2 n v _ ho
     rw[<-adk h1 (h2 v).1]at this
     exact⟨e,KO o,t o,this,h3 o,hr⟩
    ·rename_i o ho
     have:=abV (ih np) h2 n v _ ho
     rw[<-adk h1 (h2 v).1]at this
     exact⟨e2,KO2 o,t2 o,this,h4 o,hr⟩
    ·cases hr
  | unr m t=>
   simp only[aaq]at h
   simp only[Sc.run]at hr
   split at hr
   ·rename_i hm
    obtain⟨e,st1,st',s',q1,q2,q3,q4⟩:=aea (ih np) m st t h hr
    exact⟨e,st',s',by simp only[evCode,agi q1 hm,q2],q3,q4⟩
   ·cases hr
  |_=>exact h.elim
 | rangeFunc g ps as bd iha ihb=>
  intro np α st s k a h hr
  cases s with
  | rng b v K rows xs row pf body e KO t t2=>
   simp only[aaq]at h
   split at h
   ·rename_i f caps hg
    obtain⟨h1,h2,h3,h4,h5,h6,h7⟩:=h
    simp only[Bool.and_eq_true]at h2
    simp only[Option.some.injEq]at h4
    have hl:∀ r∈rows,r.length=ps.size:=by
     intro r hr
     rw[pf,List.mem_map]at hr
     obtain⟨x,_,rfl⟩:=hr
     exact Nat.eq_of_beq_eq_true (h3 x)
    simp only[Sc.run]at hr
    cases b with
    | false=>cases hr
    | true=>
    simp only[cond_true]at hr
    unfold altB at hr
    split at hr
    ·rename_i v' hv
     have:=acs iha ihb h5 xs v _ hv
     rw[<-pf,<-h4]at this
     exact⟨.normal,_,t v',by simp only[evCode,hg,h1];rw[if_pos ⟨trivial,h2.1,h2.2,hl⟩];exact congrArg (λz:Option (Ex×Heap)=>match z with | some (e,h)=>some (e,(⟨st.s,h⟩:St)) | none=>none) this,h6 v',hr⟩
    ·rename_i o hv
     have:=acs iha ihb h5 xs v _ hv
     rw[<-pf,<-h4]at this
     exact⟨e,_,t2 o,by simp only[evCode,hg,h1];rw[if_pos ⟨trivial,h2.1,h2.2,hl⟩];exact congrArg (λz:Option (Ex×Heap)=>match z with | some (e,h)=>some (e,(⟨st.s,h⟩:St)) | none=>none) this,h7 o,hr⟩
    ·cases hr
   ·exact h.elim
  |_=>exact h.elim
 |_=>intro np α st s k a h;simp[aaq]at h
def amR(P:Program)(fn:Func)(g:List Gh)(np:Nat)(e:Ex)(st:St):Option (A×Heap):=match e with
 |.exit _=>none
 |_=>match ghosts np g st with
  | some st'=>(match aio P fn st'.s st'.h with
   | some x=>some (leave np x st'.h)
   | none=>none)
  | none=>none
def aiJ(P:Program)(fn:Func)(g:List Gh)(np:Nat){α:Type}(enc:α->A×Heap)(e:Ex)(st:St):Sc α->Prop
 |.ret a=>amR P fn g np e st=some (enc a)
 |.fail=>True
 |_=>False
def acq(P:Program)(cf:aaj)(cfg:Cfg)(f:FuncId)(args:List A)(h:Heap){α:Type}(enc:α->A×Heap)(s:Sc α):Prop:=match P.funcs[f]? with
 | some fn=>(match fn.body with
  | some body=>aaq P cf (cfg.ann f) h.length body ⟨args++List.replicate (fn.ntmps-args.length) undA,h⟩ s (aiJ P fn (cfg.fin f) h.length enc)
  | none=>False)
 | none=>False
theorem agc{cfg:Cfg}{cf:aaj}{k:Nat}{f:FuncId}{args:List A}{h:Heap}{α:Type}{enc:α->A×Heap}{s:Sc α}
  (hs:acq P cf cfg f args h enc s=s.triv (λa=>some (enc a)=some (enc a))) {a:α} (hr:s.run k=some a):evFun P cfg cf k f args h=some (enc a):=by
 have hs:acq P cf cfg f args h enc s:=by rw[hs];exact s.triv_ok λ_=>rfl
 unfold acq at hs
 split at hs
 ·rename_i fn hfn
  split at hs
  ·rename_i body hb
   obtain⟨e,st',s',g1,g2,g3⟩:=aiF body _ hs hr
   unfold aiJ at g2
   split at g2
   ·simp only[Sc.run,Option.some.injEq]at g3
    subst g3
    unfold amR at g2
    split at g2
    ·cases g2
    ·rename_i hx
     split at g2
     ·rename_i st2 hg
      split at g2
      ·rename_i x hres
       simp only[Option.some.injEq]at g2
       exact amu hfn hb g1 (λid he=>hx id he) hg hres g2
      ·cases g2
     ·cases g2
   ·simp[Sc.run]at g3
   ·exact g2.elim
  ·exact hs.elim
 ·exact hs.elim
theorem ae0{cfg:Cfg}{prim:FuncId->Option (List A->Heap->Option (A×Heap))}{k:Nat}{f:FuncId}{args:List A}{h:Heap}{α:Type}{enc:α->A×Heap}{s:Sc α}
  (hs:acq P (evCall P cfg prim k) cfg f args h enc s=s.triv (λa=>some (enc a)=some (enc a))) (hn:prim f=none) (hb:cfg.bor f=false) {a:α} (hr:s.run k=some a):evCall P cfg prim (k+1) f args h=some (enc a):=by
 rw[ag3 hn hb]
 exact agc hs hr
theorem amd{cfg:Cfg}{prim:FuncId->Option (List A->Heap->Option (A×Heap))}{k:Nat}{f:FuncId}{args:List A}{α:Type}{enc:α->A×Heap}{s:Sc α}
  (hs:acq P (evCall P cfg prim k) cfg f args [] enc s=s.triv (λa=>some (enc a)=some (enc a))) (hn:prim f=none) (hb:cfg.bor f=true) (hz:(frzAs [] args).map Prod.fst=some args) (he:∀ a,agw (enc a).1=true/\(enc a).2=[])
  {a:α} (hr:s.run k=some a):evCall P cfg prim (k+1) f args []=some (enc a):=by
 obtain⟨⟨_,bs⟩,hz,rfl⟩:=Option.map_eq_some_iff.1 hz
 have h1:=agc hs hr
 have h2:enc a=((enc a).1,[]):=by rw[<-(he a).2]
 simp only[evCall,hn,hb,hz,h1]
 rw[h2]
 simp[(he a).1]
theorem aoI{cfg:Cfg}{prim:FuncId->Option (List A->Heap->Option (A×Heap))}{k:Nat}{f:FuncId}{args raw args':List A}{h h':Heap}{r:A}(h1:evCall P cfg prim k f args' []=some (r,h'))
  (hn:prim f=none) (hb:cfg.bor f=true) (hz:(frzAs h args).map Prod.fst=some raw) (hq:raw=args') (hz':(frzAs [] args').map Prod.fst=some args'):evCall P cfg prim k f args h=some (r,h):=by
 subst hq
 obtain⟨⟨q0,bs⟩,hz1,hq0⟩:=Option.map_eq_some_iff.1 hz
 obtain⟨⟨q,bs'⟩,hz2,hq⟩:=Option.map_eq_some_iff.1 hz'
 clear hz hz'
 simp only at hq0 hq
 subst hq0
 subst hq
 cases k with
 | zero=>rw[agS]at h1;cases h1
 | succ k=>
  simp only[evCall,hn,hb,hz2]at h1
  simp only[evCall,hn,hb,hz1]
  generalize evFun P cfg (evCall P cfg prim k) k f _ []=z at h1 ⊢
  cases z with
  | none=>simp at h1
  | some z=>
   obtain⟨r1,h2⟩:=z
   simp only at h1 ⊢
   by_cases hfl:agw r1=true
   ·rw[if_pos hfl]at h1 ⊢
    simp only[Option.some.injEq,Prod.mk.injEq]at h1
    rw[h1.1]
   ·rw[if_neg hfl]at h1;cases h1
end Go.Ev
