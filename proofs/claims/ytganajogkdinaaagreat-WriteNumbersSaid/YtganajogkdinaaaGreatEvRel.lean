import Derived.Test.YtganajogkdinaaaGreatEvCore
set_option linter.all false
namespace Go.Ev
abbrev Phi:=Nat->Option (Array Value)
structure Inf where
 c:Nat
 base:Nat
 asz:Nat
abbrev Rho:=Nat->Option Inf
def ajB(cap:Option Nat)(n k:Nat):Prop:=n<=k/\∀ c,cap=some c->k=c
mutual
def FVR(Φ:Phi):FV->Value->Prop
 |.bool b,v=>v = .bool b
 |.int k n,v=>v = .int k n
 |.flt k b,v=>v = .float k b
 |.str s,v=>v = .string s
 |.nilp,v=>v = .pointer none
 |.nilfn,v=>v = .nilFunc
 |.nili,v=>v = .nilIface
 |.ref cs,v=>∃ c off arr,v = .pointer (some ⟨c,off,none⟩)/\Φ c=some arr/\FVRs Φ cs (arr[·]?) off
 |.sl sz els cap,v=>∃ p k,v = .slice p els.length k/\ajB cap els.length k/\((sz=0->els=[])/\(cap≠none->(p=none↔sz=0))) ∧
   (els=[] ∨ ∃ c off arr,p=some ⟨c,off,none⟩/\Φ c=some arr/\FVRe Φ els sz (arr[·]?) off)
 |.fn f caps,v=>∃ arr,v = .func (.func f) #[] arr/\arr.size=caps.length/\FVRs Φ caps (arr[·]?) 0
 |.iface t x,v=>∃ u,v = .iface t u/\FVR Φ x u
def FVRs(Φ:Phi):List FV->(Nat->Option Value)->Nat->Prop
 | [],_,_=>True
 | x::r,g,off=>(∃ v,g off=some v/\FVR Φ x v)/\FVRs Φ r g (off+1)
def FVRe(Φ:Phi):List (List FV)->Nat->(Nat->Option Value)->Nat->Prop
 | [],_,_,_=>True
 | e::r,sz,g,off=>e.length=sz/\FVRs Φ e g off/\FVRe Φ r sz g (off+sz)
end
mutual
def CR(Φ:Phi)(ρ:Rho)(H:Heap):C->Value->Prop
 |.und,v=>v.oneCell'=true
 |.v x,v=>FVR Φ x v
 |.ptr b sz i o,v=>∃ a,v = .pointer (some a)/\b<H.length ∧
   ∀ k,live H b=some k->k.sz=sz/\∃ inf,ρ b=some inf/\a=⟨inf.c,inf.base+i*sz+o,none⟩
 |.sl b sz i n cap,v=>∃ p k,v = .slice p n k/\ajB cap n k/\((0<n∨cap≠none)->p≠none)/\b<H.length ∧
   ∀ x,live H b=some x->x.sz=sz/\i+n<=x.len/\(cap=none->x.len<=i+k) ∧
    ((n=0/\k=0) ∨ ∃ inf,ρ b=some inf/\p=some ⟨inf.c,inf.base+i*sz,none⟩/\inf.base+(i+k)*sz<=inf.asz)
 |.slw b sz n,v=>∃ p k,v = .slice p n k/\n<=k/\(0<n->p≠none)/\b<H.length ∧
   ∀ x,live H b=some x->x.sz=sz/\n=x.len ∧
    ((n=0/\k=0) ∨ ∃ inf,ρ b=some inf/\p=some ⟨inf.c,inf.base,none⟩/\inf.base+k*sz<=inf.asz)
 |.fn f caps,v=>∃ arr,v = .func (.func f) #[] arr/\arr.size=caps.length/\CRs Φ ρ H caps (arr[·]?) 0
 |.mp b,v=>∃ c,v = .map (some c)/\b<H.length/\∀ k,live H b=some k->∃ inf,ρ b=some inf/\inf.c=c
def CRs(Φ:Phi)(ρ:Rho)(H:Heap):List C->(Nat->Option Value)->Nat->Prop
 | [],_,_=>True
 | x::r,g,off=>(∃ v,g off=some v/\CR Φ ρ H x v)/\CRs Φ ρ H r g (off+1)
end
def CRe(Φ:Phi)(ρ:Rho)(H:Heap):List (List C)->Nat->(Nat->Option Value)->Nat->Prop
 | [],_,_,_=>True
 | e::r,sz,g,off=>e.length=sz/\CRs Φ ρ H e g off/\CRe Φ ρ H r sz g (off+sz)
mutual
def AR(Φ:Phi)(ρ:Rho)(H:Heap):A->Value->Prop
 |.und,_=>True
 |.c x,v=>CR Φ ρ H x v
 |.agp cs,v=>∃ arr,v = .agg arr/\arr.size=cs.length/\FVRs Φ cs (arr[·]?) 0
 |.agm cs,v=>∃ arr,v = .agg arr/\arr.size=cs.length/\CRs Φ ρ H cs (arr[·]?) 0
 |.tup l,v=>∃ arr,v = .tuple arr/\ARs Φ ρ H l arr.toList
def ARs(Φ:Phi)(ρ:Rho)(H:Heap):List A->List Value->Prop
 | [],l=>l=[]
 | x::r,l=>∃ v l',l=v::l'/\AR Φ ρ H x v/\ARs Φ ρ H r l'
end
def CLR(Φ:Phi)(ρ:Rho)(H:Heap)(cl:CL)(g:Nat->Option Value)(off:Nat):Prop:=match cl with
 |.p l=>FVRs Φ l g off
 |.m l=>CRs Φ ρ H l g off
def ELR(Φ:Phi)(ρ:Rho)(H:Heap)(e:EL)(sz:Nat)(g:Nat->Option Value)(off:Nat):Prop:=match e with
 |.p l=>FVRe Φ l sz g off
 |.m l=>CRe Φ ρ H l sz g off
def fzOk(n:Nat)(fz:Nat×Nat):Prop:=fz.1=fz.2∨n<=fz.1
theorem fzOk.weak{n:Nat}{fz:Nat×Nat}(h:fzOk n fz):∀ o,o<n->¬(fz.1<=o/\o<fz.2):=by
 intro o ho hc
 rcases h with h | h <;> omega
class Glo where
 g:Phi
variable[Glo]
structure MR(Φ:Phi)(kk:Option IntKind)(es:List (FV×FV))(l:List MapEntry):Prop where
 len:l.length=es.length
 ent:∀ (i:Nat) (x:FV×FV),es[i]?=some x->∃ e,l[i]?=some e/\FVR Φ x.1 e.key/\FVR Φ x.2 e.val/\abC kk x.1=true
structure HR(Φ:Phi)(ρ:Rho)(H:Heap)(w:World):Prop where
 fro:∀ c arr,Φ c=some arr->∃ ty fz,w.heap[c]?=some (.cells arr ty fz)
 own:∀ b k inf,live H b=some k->k.isMp=false->ρ b=some inf->Φ inf.c=none/\∃ arr ty fz,w.heap[inf.c]?=some (.cells arr ty fz) ∧
  fzOk arr.size fz/\arr.size=inf.asz/\inf.base+k.len*k.sz<=arr.size/\ELR Φ ρ H k.el k.sz (arr[·]?) inf.base
 inj:∀ b b' k k' inf inf',live H b=some k->live H b'=some k'->ρ b=some inf->ρ b'=some inf'->inf.c=inf'.c->b=b'
 glo:∀ c arr,Glo.g c=some arr->Φ c=some arr
 mps:∀ b kk es inf,live H b=some (.mp kk es)->ρ b=some inf->Φ inf.c=none/\∃ l clock,w.heap[inf.c]?=some (.map l clock)/\MR Φ kk es l.toList
def SR(Φ:Phi)(ρ:Rho)(H:Heap)(s:List A)(tmps:Array Value):Prop:=
 s.length=tmps.size/\∀ (i:Nat) (x:A),s[i]?=some x->∃ v,tmps[i]?=some v/\AR Φ ρ H x v
structure Ext(Φ:Phi)(ρ:Rho)(H:Heap)(Φ':Phi)(ρ':Rho)(H':Heap):Prop where
 phi:∀ c arr,Φ c=some arr->Φ' c=some arr
 len:H.length<=H'.length
 rho:∀ b,b<H.length->ρ' b=ρ b
 keep:∀ b k',b<H.length->live H' b=some k'->∃ k,live H b=some k/\k.sz=k'.sz/\k.len=k'.len
def Foot(ρ:Rho)(H:Heap)(c:Nat):Prop:=∃ b k inf,live H b=some k/\ρ b=some inf/\inf.c=c
structure Io(w w':World):Prop where
 os:w'.os=w.os
 tape:w'.tape=w.tape
 output:w'.output=w.output
theorem Io.refl(w:World):Io w w:=⟨rfl,rfl,rfl⟩
theorem Io.trans{a b c:World}(h:Io a b)(k:Io b c):Io a c:=⟨k.os.trans h.os,k.tape.trans h.tape,k.output.trans h.output⟩
structure Stp(Φ:Phi)(ρ:Rho)(H:Heap)(w:World)(Φ':Phi)(ρ':Rho)(H':Heap)(w':World):Prop where
 ext:Ext Φ ρ H Φ' ρ' H'
 hr:HR Φ' ρ' H' w'
 fr:∀ c,c<w.heap.size->¬Foot ρ H c->w'.heap[c]?=w.heap[c]?
 ft:∀ c,Foot ρ' H' c->Foot ρ H c∨w.heap.size<=c
 fz:∀ c arr,Φ' c=some arr->Φ c=some arr∨Foot ρ H c∨w.heap.size<=c
 sz:w.heap.size<=w'.heap.size
 io:Io w w'
theorem aaK{H:Heap}{b:Nat}{k:Blk}(h:live H b=some k):b<H.length:=by
 unfold live at h
 split at h
 ·rename_i hx;exact(List.getElem?_eq_some_iff.1 hx).1
 ·cases h
mutual
theorem adj{Φ Φ':Phi}(hp:∀ c arr,Φ c=some arr->Φ' c=some arr):∀ (x:FV) (v:Value),FVR Φ x v->FVR Φ' x v
 |.bool _,_,h |.int _ _,_,h |.flt _ _,_,h |.str _,_,h |.nilp,_,h |.nilfn,_,h |.nili,_,h=>by simpa[FVR]using h
 |.ref cs,v,h=>by
  simp only[FVR]at h ⊢
  obtain⟨c,off,arr,rfl,h1,h2⟩:=h
  exact⟨c,off,arr,rfl,hp _ _ h1,abU hp cs _ _ h2⟩
 |.sl sz els cap,v,h=>by
  simp only[FVR]at h ⊢
  obtain⟨p,k,rfl,h1,h0,h2⟩:=h
  refine⟨p,k,rfl,h1,h0,?_⟩
  rcases h2 with h2 | ⟨c,off,arr,h3,h4,h5⟩
  ·exact .inl h2
  ·exact .inr ⟨c,off,arr,h3,hp _ _ h4,acV hp els _ _ _ h5⟩
 |.fn f caps,v,h=>by
  simp only[FVR]at h ⊢
  obtain⟨arr,rfl,h1,h2⟩:=h
  exact⟨arr,rfl,h1,abU hp caps _ _ h2⟩
 |.iface t x,v,h=>by
  simp only[FVR]at h ⊢
  obtain⟨u,rfl,h1⟩:=h
  exact⟨u,rfl,adj hp x u h1⟩
theorem abU{Φ Φ':Phi}(hp:∀ c arr,Φ c=some arr->Φ' c=some arr):∀ (l:List FV) (g:Nat->Option Value) (off:Nat),FVRs Φ l g off->FVRs Φ' l g off
 | [],_,_,_=>by simp[FVRs]
 | x::r,g,off,h=>by
  simp only[FVRs]at h ⊢
  obtain⟨⟨v,h1,h2⟩,h3⟩:=h
  exact⟨⟨v,h1,adj hp x v h2⟩,abU hp r g _ h3⟩
theorem acV{Φ Φ':Phi}(hp:∀ c arr,Φ c=some arr->Φ' c=some arr):∀ (l:List (List FV)) (sz:Nat) (g:Nat->Option Value) (off:Nat),FVRe Φ l sz g off->FVRe Φ' l sz g off
 | [],_,_,_,_=>by simp[FVRe]
 | x::r,sz,g,off,h=>by
  simp only[FVRe]at h ⊢
  obtain⟨h0,h1,h2⟩:=h
  exact⟨h0,abU hp x g _ h1,acV hp r sz g _ h2⟩
end
theorem aeW{Φ:Phi}{x:FV}{v:Value}(h:FVR Φ x v):v.oneCell'=true:=by
 cases x <;> simp only[FVR]at h
 case bool | int | flt | str | nilp | nilfn | nili=>subst h;rfl
 case ref=>obtain⟨_,_,_,rfl,_⟩:=h;rfl
 case sl=>obtain⟨_,_,rfl,_⟩:=h;rfl
 case fn=>obtain⟨_,rfl,_⟩:=h;rfl
 case iface=>obtain⟨_,rfl,_⟩:=h;rfl
variable{Φ Φ':Phi}{ρ ρ':Rho}{H H':Heap}
mutual
theorem amY(e:Ext Φ ρ H Φ' ρ' H'):∀ (x:C) (v:Value),CR Φ ρ H x v->CR Φ' ρ' H' x v
 |.und,_,h=>by simpa[CR]using h
 |.v x,v,h=>by simp only[CR]at h ⊢;exact adj e.phi x v h
 |.ptr b sz i o,v,h=>by
  simp only[CR]at h ⊢
  obtain⟨a,rfl,hb,h1⟩:=h
  refine⟨a,rfl,Nat.lt_of_lt_of_le hb e.len,λk' hk'=>?_⟩
  obtain⟨k,hk,e1,e2⟩:=e.keep b k' hb hk'
  obtain⟨h2,inf,h3,h4⟩:=h1 k hk
  exact⟨e1 ▸ h2,inf,(e.rho b hb).trans h3,h4⟩
 |.sl b sz i n cap,v,h=>by
  simp only[CR]at h ⊢
  obtain⟨p,k,rfl,hc,hp,hb,h1⟩:=h
  refine⟨p,k,rfl,hc,hp,Nat.lt_of_lt_of_le hb e.len,λk' hk'=>?_⟩
  obtain⟨x,hk,e1,e2⟩:=e.keep b k' hb hk'
  obtain⟨h2,h3,h4,h5⟩:=h1 x hk
  refine⟨e1 ▸ h2,e2 ▸ h3,λhn=>e2 ▸ h4 hn,?_⟩
  rcases h5 with h5 | ⟨inf,h5,h6,h7⟩
  ·exact .inl h5
  ·exact .inr ⟨inf,(e.rho b hb).trans h5,h6,h7⟩
 |.slw b sz n,v,h=>by
  simp only[CR]at h ⊢
  obtain⟨p,k,rfl,hc,hp,hb,h1⟩:=h
  refine⟨p,k,rfl,hc,hp,Nat.lt_of_lt_of_le hb e.len,λk' hk'=>?_⟩
  obtain⟨x,hk,e1,e2⟩:=e.keep b k' hb hk'
  obtain⟨h2,h3,h5⟩:=h1 x hk
  refine⟨e1 ▸ h2,e2 ▸ h3,?_⟩
  rcases h5 with h5 | ⟨inf,h5,h6,h7⟩
  ·exact .inl h5
  ·exact .inr ⟨inf,(e.rho b hb).trans h5,h6,h7⟩
 |.fn f caps,v,h=>by
  simp only[CR]at h ⊢
  obtain⟨arr,rfl,h1,h2⟩:=h
  exact⟨arr,rfl,h1,aeT e caps _ _ h2⟩
 |.mp b,v,h=>by
  simp only[CR]at h ⊢
  obtain⟨c,rfl,hb,h1⟩:=h
  refine⟨c,rfl,Nat.lt_of_lt_of_le hb e.len,λk' hk'=>?_⟩
  obtain⟨x,hk,e1,e2⟩:=e.keep b k' hb hk'
  obtain⟨inf,h3,h4⟩:=h1 x hk
  exact⟨inf,(e.rho b hb).trans h3,h4⟩
theorem aeT(e:Ext Φ ρ H Φ' ρ' H'):∀ (l:List C) (g:Nat->Option Value) (off:Nat),CRs Φ ρ H l g off->CRs Φ' ρ' H' l g off
 | [],_,_,_=>by simp[CRs]
 | x::r,g,off,h=>by
  simp only[CRs]at h ⊢
  obtain⟨⟨v,h1,h2⟩,h3⟩:=h
  exact⟨⟨v,h1,amY e x v h2⟩,aeT e r g _ h3⟩
end
theorem aje(e:Ext Φ ρ H Φ' ρ' H'):∀ (l:List (List C)) (sz:Nat) (g:Nat->Option Value) (off:Nat),CRe Φ ρ H l sz g off->CRe Φ' ρ' H' l sz g off
 | [],_,_,_,_=>by simp[CRe]
 | x::r,sz,g,off,h=>by
  simp only[CRe]at h ⊢
  obtain⟨h0,h1,h2⟩:=h
  exact⟨h0,aeT e x g _ h1,aje e r sz g _ h2⟩
mutual
theorem ahz(e:Ext Φ ρ H Φ' ρ' H'):∀ (x:A) (v:Value),AR Φ ρ H x v->AR Φ' ρ' H' x v
 |.und,_,_=>by simp[AR]
 |.c x,v,h=>by simp only[AR]at h ⊢;exact amY e x v h
 |.agp cs,v,h=>by
  simp only[AR]at h ⊢
  obtain⟨arr,rfl,h1,h2⟩:=h
  exact⟨arr,rfl,h1,abU e.phi _ _ _ h2⟩
 |.agm cs,v,h=>by
  simp only[AR]at h ⊢
  obtain⟨arr,rfl,h1,h2⟩:=h
  exact⟨arr,rfl,h1,aeT e _ _ _ h2⟩
 |.tup l,v,h=>by
  simp only[AR]at h ⊢
  obtain⟨arr,rfl,h1⟩:=h
  exact⟨arr,rfl,agW e l _ h1⟩
theorem agW(e:Ext Φ ρ H Φ' ρ' H'):∀ (l:List A) (vs:List Value),ARs Φ ρ H l vs->ARs Φ' ρ' H' l vs
 | [],_,h=>by simpa[ARs]using h
 | x::r,vs,h=>by
  simp only[ARs]at h ⊢
  obtain⟨v,l',rfl,h1,h2⟩:=h
  exact⟨v,l',rfl,ahz e x v h1,agW e r l' h2⟩
end
theorem aau(e:Ext Φ ρ H Φ' ρ' H'){x:EL}{sz:Nat}{g:Nat->Option Value}{off:Nat}(h:ELR Φ ρ H x sz g off):ELR Φ' ρ' H' x sz g off:=by
 cases x with
 | p l=>exact acV e.phi l sz g off h
 | m l=>exact aje e l sz g off h
theorem aaW(e:Ext Φ ρ H Φ' ρ' H'){s:List A}{t:Array Value}(h:SR Φ ρ H s t):SR Φ' ρ' H' s t:=
 ⟨h.1,λi x hx=>let⟨v,hv,ha⟩:=h.2 i x hx;⟨v,hv,ahz e x v ha⟩⟩
theorem ad9{x:C}{v:Value}(h:CR Φ ρ H x v):v.oneCell'=true:=by
 cases x <;> simp only[CR]at h
 case und=>exact h
 case v=>exact aeW h
 case ptr=>obtain⟨_,rfl,_⟩:=h;rfl
 case sl=>obtain⟨_,_,rfl,_⟩:=h;rfl
 case slw=>obtain⟨_,_,rfl,_⟩:=h;rfl
 case fn=>obtain⟨_,rfl,_⟩:=h;rfl
 case mp=>obtain⟨_,rfl,_⟩:=h;rfl
theorem am3{kk:Option IntKind}{es:List (FV×FV)}{l:List MapEntry}(hp:∀ c arr,Φ c=some arr->Φ' c=some arr)(h:MR Φ kk es l):MR Φ' kk es l:=
 ⟨h.len,λi x hx=>let⟨e,e1,e2,e3,e4⟩:=h.ent i x hx;⟨e,e1,adj hp _ _ e2,adj hp _ _ e3,e4⟩⟩
theorem Blk.cel{k:Blk}(h:0<k.sz):k.isMp=false:=by cases k <;> first | rfl | exact absurd h (by simp[Blk.sz])
theorem Blk.cel_at{k:Blk}{i:Nat}{cl:CL}(h:k.at i=some cl):k.isMp=false:=by cases k <;> first | rfl | cases h
theorem Blk.cel_len{k:Blk}(h:0<k.len):k.isMp=false:=by cases k <;> first | rfl | exact absurd h (by simp[Blk.len])
theorem Blk.cel_els{k:Blk}{i:Nat}{cl:List C}(h:k.els[i]?=some cl):k.isMp=false:=by cases k <;> first | rfl | exact absurd h (by simp[Blk.els])
theorem Blk.is_mp{k:Blk}(h:¬k.isMp=false):∃ kk es,k = .mp kk es:=by cases k <;> first | exact⟨_,_,rfl⟩ | exact absurd rfl h
theorem HR.fresh{w:World}{b:Nat}{k:Blk}{inf:Inf}(hr:HR Φ ρ H w)(hk:live H b=some k)(hi:ρ b=some inf):Φ inf.c=none/\inf.c<w.heap.size:=by
 cases hm:k.isMp with
 | false=>
  obtain⟨h1,arr,ty,fz,h2,_⟩:=hr.own b k inf hk hm hi
  exact⟨h1,(Array.getElem?_eq_some_iff.1 h2).1⟩
 | true=>
  obtain⟨kk,es,rfl⟩:=Blk.is_mp (k:=k) (by simp[hm])
  obtain⟨h1,l,c,h2,_⟩:=hr.mps b kk es inf hk hi
  exact⟨h1,(Array.getElem?_eq_some_iff.1 h2).1⟩
theorem Ext.refl(Φ:Phi)(ρ:Rho)(H:Heap):Ext Φ ρ H Φ ρ H:=
 ⟨λ_ _ h=>h,Nat.le_refl _,λ_ _=>rfl,λ_ k' _ h=>⟨k',h,rfl,rfl⟩⟩
theorem Ext.trans{Φ'':Phi}{ρ'':Rho}{H'':Heap}(e:Ext Φ ρ H Φ' ρ' H')(e':Ext Φ' ρ' H' Φ'' ρ'' H''):Ext Φ ρ H Φ'' ρ'' H'':=
 ⟨λc a h=>e'.phi c a (e.phi c a h),Nat.le_trans e.len e'.len,λb hb=>(e'.rho b (Nat.lt_of_lt_of_le hb e.len)).trans (e.rho b hb),λb k'' hb hk=>by
  obtain⟨k',h1,h2,h3⟩:=e'.keep b k'' (Nat.lt_of_lt_of_le hb e.len) hk
  obtain⟨k,g1,g2,g3⟩:=e.keep b k' hb h1
  exact⟨k,g1,g2.trans h2,g3.trans h3⟩⟩
theorem Stp.refl{w:World}(h:HR Φ ρ H w):Stp Φ ρ H w Φ ρ H w:=
 ⟨.refl _ _ _,h,λ_ _ _=>rfl,λ_ h=>.inl h,λ_ _ h=>.inl h,Nat.le_refl _,.refl _⟩
theorem Stp.trans{Φ'':Phi}{ρ'':Rho}{H'':Heap}{w w' w'':World}(a:Stp Φ ρ H w Φ' ρ' H' w')(b:Stp Φ' ρ' H' w' Φ'' ρ'' H'' w''):Stp Φ ρ H w Φ'' ρ'' H'' w'' where
 ext:=a.ext.trans b.ext
 hr:=b.hr
 fr:=λc hc hn=>by
  rw[b.fr c (Nat.lt_of_lt_of_le hc a.sz) (λhf=>(a.ft c hf).elim hn (λh=>by omega)),a.fr c hc hn]
 ft:=λc hf=>by
  rcases b.ft c hf with h | h
  ·exact a.ft c h
  ·exact .inr (Nat.le_trans a.sz h)
 fz:=λc arr hf=>by
  rcases b.fz c arr hf with h | h | h
  ·exact a.fz c arr h
  ·exact .inr (a.ft c h)
  ·exact .inr (.inr (Nat.le_trans a.sz h))
 sz:=Nat.le_trans a.sz b.sz
 io:=a.io.trans b.io
theorem aaU{Φ:Phi}:∀ {l:List FV}{g:Nat->Option Value}{off i:Nat}{x:FV},FVRs Φ l g off->l[i]?=some x->∃ v,g (off+i)=some v/\FVR Φ x v
 | y::r,g,off,0,x,h,hi=>by
  simp only[FVRs]at h
  simp at hi;subst hi;exact h.1
 | y::r,g,off,i+1,x,h,hi=>by
  simp only[FVRs]at h
  have:=aaU (i:=i) h.2 (by simpa using hi)
  rwa[show off+1+i=off+(i+1)from by omega]at this
theorem aaz:∀ {l:List C}{g:Nat->Option Value}{off i:Nat}{x:C},CRs Φ ρ H l g off->l[i]?=some x->∃ v,g (off+i)=some v/\CR Φ ρ H x v
 | y::r,g,off,0,x,h,hi=>by
  simp only[CRs]at h
  simp at hi;subst hi;exact h.1
 | y::r,g,off,i+1,x,h,hi=>by
  simp only[CRs]at h
  have:=aaz (i:=i) h.2 (by simpa using hi)
  rwa[show off+1+i=off+(i+1)from by omega]at this
theorem ak8{Φ:Phi}:∀ {l:List FV}{g:Nat->Option Value}{off:Nat},(∀ i x,l[i]?=some x->∃ v,g (off+i)=some v/\FVR Φ x v)->FVRs Φ l g off
 | [],_,_,_=>by simp[FVRs]
 | y::r,g,off,h=>by
  simp only[FVRs]
  refine⟨by simpa using h 0 y (by simp),ak8 λi x hi=>?_⟩
  have:=h (i+1) x (by simpa using hi)
  rwa[show off+(i+1)=off+1+i from by omega]at this
theorem amC:∀ {l:List C}{g:Nat->Option Value}{off:Nat},(∀ i x,l[i]?=some x->∃ v,g (off+i)=some v/\CR Φ ρ H x v)->CRs Φ ρ H l g off
 | [],_,_,_=>by simp[CRs]
 | y::r,g,off,h=>by
  simp only[CRs]
  refine⟨by simpa using h 0 y (by simp),amC λi x hi=>?_⟩
  have:=h (i+1) x (by simpa using hi)
  rwa[show off+(i+1)=off+1+i from by omega]at this
theorem abf{Φ:Phi}{l:List FV}{g:Nat->Option Value}{off:Nat}:FVRs Φ l g off ↔ ∀ i x,l[i]?=some x->∃ v,g (off+i)=some v/\FVR Φ x v:=
 ⟨λh _ _ hi=>aaU h hi,ak8⟩
theorem CRs_iff{l:List C}{g:Nat->Option Value}{off:Nat}:CRs Φ ρ H l g off ↔ ∀ i x,l[i]?=some x->∃ v,g (off+i)=some v/\CR Φ ρ H x v:=
 ⟨λh _ _ hi=>aaz h hi,amC⟩
theorem agI{l:List FV}{g:Nat->Option Value}{off:Nat}:CRs Φ ρ H (l.map .v) g off↔FVRs Φ l g off:=by
 rw[CRs_iff,abf]
 constructor
 ·intro h i x hi
  have:=h i (.v x) (by simp[hi])
  simpa[CR]using this
 ·intro h i x hi
  rw[List.getElem?_map]at hi
  obtain⟨y,hy,rfl⟩:=Option.map_eq_some_iff.1 hi
  simpa[CR]using h i y hy
theorem CLR_c{cl:CL}{g:Nat->Option Value}{off:Nat}:CLR Φ ρ H cl g off↔CRs Φ ρ H cl.c g off:=by
 cases cl with
 | p l=>exact agI.symm
 | m l=>exact Iff.rfl
theorem CL.c_len(cl:CL):cl.c.length=cl.len:=by cases cl <;> simp[CL.c,CL.len]
theorem aaA{Φ:Phi}:∀ {l:List (List FV)}{sz:Nat}{g:Nat->Option Value}{off:Nat},FVRe Φ l sz g off ↔ ∀ i e,l[i]?=some e->e.length=sz/\FVRs Φ e g (off+i*sz)
 | [],_,_,_=>by simp[FVRe]
 | y::r,sz,g,off=>by
  simp only[FVRe]
  rw[aaA (l:=r)]
  constructor
  ·rintro ⟨h0,h1,h2⟩ i e hi
   cases i with
   | zero=>simp at hi;subst hi;simpa using ⟨h0,h1⟩
   | succ i=>
    have:=h2 i e (by simpa using hi)
    rwa[show off+sz+i*sz=off+(i+1)*sz from by rw[Nat.succ_mul];omega]at this
  ·intro h
   refine⟨(h 0 y (by simp)).1,by simpa using (h 0 y (by simp)).2,λi e hi=>?_⟩
   have:=h (i+1) e (by simpa using hi)
   rwa[show off+(i+1)*sz=off+sz+i*sz from by rw[Nat.succ_mul];omega]at this
theorem CRe_iff:∀ {l:List (List C)}{sz:Nat}{g:Nat->Option Value}{off:Nat},CRe Φ ρ H l sz g off ↔ ∀ i e,l[i]?=some e->e.length=sz/\CRs Φ ρ H e g (off+i*sz)
 | [],_,_,_=>by simp[CRe]
 | y::r,sz,g,off=>by
  simp only[CRe]
  rw[CRe_iff (l:=r)]
  constructor
  ·rintro ⟨h0,h1,h2⟩ i e hi
   cases i with
   | zero=>simp at hi;subst hi;simpa using ⟨h0,h1⟩
   | succ i=>
    have:=h2 i e (by simpa using hi)
    rwa[show off+sz+i*sz=off+(i+1)*sz from by rw[Nat.succ_mul];omega]at this
  ·intro h
   refine⟨(h 0 y (by simp)).1,by simpa using (h 0 y (by simp)).2,λi e hi=>?_⟩
   have:=h (i+1) e (by simpa using hi)
   rwa[show off+(i+1)*sz=off+sz+i*sz from by rw[Nat.succ_mul];omega]at this
theorem api{l:List (List FV)}{sz:Nat}{g:Nat->Option Value}{off:Nat}:CRe Φ ρ H (l.map (·.map .v)) sz g off↔FVRe Φ l sz g off:=by
 rw[CRe_iff,aaA]
 constructor
 ·intro h i e hi
  have:=h i (e.map .v) (by simp[hi])
  simpa[agI]using this
 ·intro h i e hi
  rw[List.getElem?_map]at hi
  obtain⟨y,hy,rfl⟩:=Option.map_eq_some_iff.1 hi
  simpa[agI]using h i y hy
theorem ELR_c{e:EL}{sz:Nat}{g:Nat->Option Value}{off:Nat}:ELR Φ ρ H e sz g off↔CRe Φ ρ H e.c sz g off:=by
 cases e with
 | p l=>exact api.symm
 | m l=>exact Iff.rfl
theorem EL.c_len(e:EL):e.c.length=e.len:=by cases e <;> simp[EL.c,EL.len]
theorem Blk.el_c(k:Blk):k.el.c=k.els:=by cases k <;> rfl
theorem EL.blk_cel(e:EL)(sz:Nat):(e.blk sz).isMp=false:=by cases e <;> rfl
theorem Blk.el_len(k:Blk):k.el.len=k.len:=by cases k <;> rfl
theorem EL.app_c(a b:EL):(a.app b).c=a.c++b.c:=by cases a <;> cases b <;> simp[EL.app,EL.c]
theorem EL.mid_c(e:EL)(i n:Nat):(e.mid i n).c=(e.c.drop i).take n:=by
 cases e <;> simp[EL.mid,EL.c,List.map_take,List.map_drop]
theorem EL.blk_el(e:EL)(sz:Nat):(e.blk sz).el=e:=by cases e <;> rfl
theorem EL.blk_sz(e:EL)(sz:Nat):(e.blk sz).sz=sz:=by cases e <;> rfl
theorem EL.blk_len(e:EL)(sz:Nat):(e.blk sz).len=e.len:=by cases e <;> rfl
theorem EL.app_len(a b:EL):(a.app b).len=a.len+b.len:=by rw[<-EL.c_len,EL.app_c,List.length_append,EL.c_len,EL.c_len]
theorem EL.mid_len(e:EL)(i n:Nat):(e.mid i n).len=min n (e.len-i):=by rw[<-EL.c_len,EL.mid_c,List.length_take,List.length_drop,EL.c_len]
theorem adv:∀ {l:List A}{vs:List Value},ARs Φ ρ H l vs↔l.length=vs.length/\∀ (i:Nat) (x:A),l[i]?=some x->∃ v,vs[i]?=some v/\AR Φ ρ H x v
 | [],vs=>by
  simp only[ARs]
  constructor
  ·rintro rfl;simp
  ·intro h;cases vs with
   | nil=>rfl
   | cons=>simp at h
 | x::r,vs=>by
  simp only[ARs]
  constructor
  ·rintro ⟨v,l',rfl,h1,h2⟩
   rw[adv]at h2
   refine⟨by simp[h2.1],λi y hi=>?_⟩
   cases i with
   | zero=>simp at hi;subst hi;exact⟨v,rfl,h1⟩
   | succ i=>simpa using h2.2 i y (by simpa using hi)
  ·rintro ⟨h1,h2⟩
   cases vs with
   | nil=>simp at h1
   | cons v l'=>
    refine⟨v,l',rfl,?_,?_⟩
    ·obtain⟨u,hu,ha⟩:=h2 0 x (by simp)
     simp at hu;subst hu;exact ha
    ·rw[adv]
     exact⟨by simpa using h1,λi y hi=>by simpa using h2 (i+1) y (by simpa using hi)⟩
end Go.Ev
