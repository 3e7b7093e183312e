import Derived.Test.YtganajogkdinaaaGreatEvEff
set_option linter.all false
namespace Go.Ev
variable[Glo]
set_option linter.unusedSimpArgs false
variable{P:Program}{Φ:Phi}{ρ:Rho}{H:Heap}{s:List A}{a:Act}{w w':World}
def stInto(p:Option Addr)(off:Nat)(vs:List Value):Sem Unit:=match p with
 | some a=>storeCells (a.add off) vs
 | none=>pure ()
structure Src(P:Program)(Φ:Phi)(ρ:Rho)(H:Heap)(w:World)(sz:Nat)(e:EL)(u:Value)(vs:List Value):Prop where
 len:vs.length=e.len*sz
 rel:ELR Φ ρ H e sz (vs[·]?) 0
 one:∀ u∈vs,u.oneCell'=true
 lenOf:(Builtin.lenOf u).run P w = .ok e.len w
 cells:∀ w1:World,w1.heap=w.heap->(Builtin.firstCells sz e.len u).run P w1 = .ok vs.toArray w1
structure App(P:Program)(ts:Array TypeId)(args:Array Value)(t t2 el:TypeId)(sz bytes:Nat)(v u:Value):Prop where
 ht:ts[0]?=some t
 ht2:ts[1]?=some t2
 h0:args[0]?=some v
 h1:args[1]?=some u
 hu:P.underlying t=some (.slice el)
 hu2:∃ d,P.underlying t2=some d/\∀ k,d ≠ .int k
 hsz:szOf P el=some sz
 hby:bytesT P el=some bytes
 hz:∃ z,acn P el=some z/\z.length=sz
section
variable{ts:Array TypeId}{args:Array Value}{ty t t2 el:TypeId}{sz bytes n k:Nat}{p:Option Addr}{u:Value}{e:EL}{vs:List Value}
theorem aix(ha:App P ts args t t2 el sz bytes (.slice p n k) u)(hs:Src P Φ ρ H w sz e u vs)(hroom:n+e.len<=k∨room (n+e.len) bytes=true)(hle:n+e.len<=k) :
  (Builtin.append_ ts ty args).run P w=((stInto p (n*sz) vs).run P w).andThen λ_ w'=>.ok (.slice p (n+e.len) k) w':=by
 obtain⟨d,hd,hdk⟩:=ha.hu2
 have hz:(match d with |.int _=>true |_=>false)=false:=by cases d <;> first | rfl | (exact absurd rfl (hdk _))
 simp only[Builtin.append_,ha.ht,ha.h0,ha.h1,ha.ht2,Sem.run_bind,aaf ha.hu,Result.andThen_ok,aas ha.hsz,aaf hd,Sem.run_pure]
 have:(d matches .int _)=false:=by cases d <;> first | rfl | (exact absurd rfl (hdk _))
 simp only[this,Bool.false_eq_true,if_false,Sem.run_bind,hs.lenOf,Result.andThen_ok,Bool.not_false,if_true]
 rw[if_pos hle]
 simp only[Sem.run_bind,hs.cells w rfl,Result.andThen_ok]
 cases p with
 | none=>rfl
 | some ad=>simp only[Sem.run_bind,Sem.run_pure,stInto]
theorem ag9{old:List Value}(ha:App P ts args t t2 el sz bytes (.slice p n k) u)(hs:Src P Φ ρ H w sz e u vs)(hroom:room (n+e.len) bytes=true)(hlt:k<n+e.len)
  (hold:∀ w1:World,w1.heap=w.heap->(Builtin.firstCells sz n (.slice p n k)).run P w1 = .ok old.toArray w1) (hol:old.length=n*sz) :
  ∃ (cap:Nat) (arr:Array Value) (w':World),(Builtin.append_ ts ty args).run P w = .ok (.slice (some ⟨w.heap.size,0,none⟩) (n+e.len) cap) w'/\n+e.len<=cap ∧
   w.heap.size<=w'.heap.size/\(∀ d,d<w.heap.size->w'.heap[d]?=w.heap[d]?)/\w'.heap[w.heap.size]?=some (.cells arr el (0,0))/\arr.size=cap*sz ∧
   (∀ j,j<n*sz->arr[j]?=old[j]?)/\(∀ j,j<e.len*sz->arr[n*sz+j]?=vs[j]?)/\Io w w':=by
 obtain⟨d,hd,hdk⟩:=ha.hu2
 have hm:(d matches .int _)=false:=by cases d <;> first | rfl | (exact absurd rfl (hdk _))
 obtain⟨i,hi,hib⟩:=acu ha.hby
 obtain⟨z,hz,hzl⟩:=ha.hz
 obtain⟨zv,z1,z2,z3⟩:=abS (Φ:=Φ) hz
 simp only[room,Bool.and_eq_true,decide_eq_true_eq]at hroom
 obtain⟨c5,c6⟩:=hroom
 have hmax:¬(((n+e.len:Nat):Int)>IntKind.i64.max/\(false=true∨i.bytes=0)):=by
  rintro ⟨h,_⟩
  simp only[IntKind.max,IntKind.signed,IntKind.bits,if_true]at h
  omega
 have hfit:¬(Builtin.nextslicecap (n+e.len) k*i.bytes>2 ^ 48):=by
  have:=growslice_fits (need:=n+e.len) (old:=k) (bytes:=i.bytes) hlt (by rw[hib];exact c5)
  omega
 obtain⟨cap,hcap⟩:∃ cap,cap=(Question.appendCap (n+e.len) k el).cut (w.tape w.drawn (.appendCap (n+e.len) k el)):=⟨_,rfl⟩
 have hge:n+e.len<=cap:=by rw[hcap];simp[Question.cut]
 obtain⟨arr,harr⟩:∃ arr,arr=old.toArray++vs.toArray++Builtin.zeroCells zv.cells (cap-(n+e.len)):=⟨_,rfl⟩
 have hzs:(Builtin.zeroCells zv.cells (cap-(n+e.len))).size=(cap-(n+e.len))*sz:=by simp[Builtin.zeroCells,z2,hzl]
 refine⟨cap,arr,({ w with drawn:=w.drawn+1 }:World).alloc (.cells arr el),?_,hge,by simp,?_,?_,?_,?_,?_,⟨rfl,rfl,rfl⟩⟩
 ·simp only[Builtin.append_,ha.ht,ha.h0,ha.h1,ha.ht2,Sem.run_bind,aaf ha.hu,Result.andThen_ok,aas ha.hsz,aaf hd,Sem.run_pure]
  simp only[hm,Bool.false_eq_true,if_false,Sem.run_bind,hs.lenOf,Result.andThen_ok,Bool.not_false,if_true]
  rw[if_neg (by omega)]
  simp only[Sem.run_bind,typeInfo,run_program,Result.andThen_ok,hi,Sem.run_pure]
  rw[if_neg (by simpa using hmax)]
  simp only[Sem.run_bind,typeInfo,run_program,Result.andThen_ok,hi,Sem.run_pure]
  rw[if_neg hfit]
  simp only[Sem.run_bind,run_choose,Question.forced,Bool.false_eq_true,if_false,Result.andThen_ok,<-hcap,run_askRoom,typeInfo,run_program,hi,Sem.run_pure]
  have hold':=hold ({ w with drawn:=w.drawn+1 }:World) rfl
  have hcells':=hs.cells ({ w with drawn:=w.drawn+1 }:World) rfl
  simp only[hold',hcells',z1,Result.andThen_ok,newRow,Sem.run_bind,run_newObj,<-harr,Sem.run_pure]
  rfl
 ·intro d hd
  exact aaH ({ w with drawn:=w.drawn+1 }:World) _ hd
 ·exact abo ({ w with drawn:=w.drawn+1 }:World) _
 ·rw[harr]
  simp only[Array.size_append,List.size_toArray,hzs,hol,hs.len,<-Nat.add_mul]
  congr 1;omega
 ·intro j hj
  rw[harr,Array.append_assoc,Array.getElem?_append_left (by simpa[hol]using hj)]
  simp
 ·intro j hj
  rw[harr,Array.getElem?_append_left (by simp[hol,hs.len];omega),Array.getElem?_append_right (by simp[hol])]
  simp[hol]
theorem Src.of{x:A}(hel:elsA H sz x=some e)(hx:AR Φ ρ H x u)(hr:HR Φ ρ H w)(hsz:0<sz):∃ vs,Src P Φ ρ H w sz e u vs:=by
 obtain⟨vs,e1,e2,e3,e4,e5⟩:=ags (P:=P) hel hx hr hsz
 refine⟨vs,e1,e2,e3,e4,λw1 hw1=>?_⟩
 have:=e5 w1 hw1 _ (Nat.le_refl _)
 rwa[List.take_of_length_le (by omega)]at this
structure Ap(P:Program)(Φ:Phi)(ρ:Rho)(H:Heap)(w:World)(ts:Array TypeId)(args:Array Value)(ty el:TypeId)(sz bytes:Nat)(e:EL)(vs:List Value)(v:Value):Prop where
 len:vs.length=e.len*sz
 rel:ELR Φ ρ H e sz (vs[·]?) 0
 one:∀ u∈vs,u.oneCell'=true
 run:∀ {p:Option Addr}{n k:Nat},v = .slice p n k->n+e.len<=k →
  (Builtin.append_ ts ty args).run P w=((stInto p (n*sz) vs).run P w).andThen λ_ w'=>.ok (.slice p (n+e.len) k) w'
 grow:∀ {p:Option Addr}{n k:Nat}{old:List Value},v = .slice p n k->room (n+e.len) bytes=true->k<n+e.len →
  (∀ w1:World,w1.heap=w.heap->(Builtin.firstCells sz n (.slice p n k)).run P w1 = .ok old.toArray w1)->old.length=n*sz →
  ∃ (cap:Nat) (arr:Array Value) (w':World),(Builtin.append_ ts ty args).run P w = .ok (.slice (some ⟨w.heap.size,0,none⟩) (n+e.len) cap) w'/\n+e.len<=cap ∧
   w.heap.size<=w'.heap.size/\(∀ d,d<w.heap.size->w'.heap[d]?=w.heap[d]?)/\w'.heap[w.heap.size]?=some (.cells arr el (0,0))/\arr.size=cap*sz ∧
   (∀ j,j<n*sz->arr[j]?=old[j]?)/\(∀ j,j<e.len*sz->arr[n*sz+j]?=vs[j]?)/\Io w w'
theorem Ap.of{v:Value}(ha:App P ts args t t2 el sz bytes v u)(hs:Src P Φ ρ H w sz e u vs):Ap P Φ ρ H w ts args ty el sz bytes e vs v where
 len:=hs.len
 rel:=hs.rel
 one:=hs.one
 run:=λhv hle=>by subst hv;exact aix ha hs (.inl hle) hle
 grow:=λhv hroom hlt hold hol=>by subst hv;exact ag9 ha hs hroom hlt hold hol
structure AppZ(P:Program)(ts:Array TypeId)(args:Array Value)(t t2 el:TypeId)(sz bytes:Nat)(v:Value)(kd:IntKind)(m:Int)(z:List FV):Prop where
 ht:ts[0]?=some t
 ht2:ts[1]?=some t2
 h0:args[0]?=some v
 h1:args[1]?=some (.int kd m)
 hu:P.underlying t=some (.slice el)
 hu2:∃ k,P.underlying t2=some (.int k)
 hsz:szOf P el=some sz
 hby:bytesT P el=some bytes
 hz:acn P el=some z
 hl:z.length=sz
 p:0<sz
 m0:0<=m
 mr:room m.toNat bytes=true
theorem aeA{zv:Array Value}{sz n:Nat}(hz:zv.size=sz)(hp:0<sz){j:Nat}(hj:j<n*sz):(Builtin.zeroCells zv n)[j]?=zv[j % sz]?:=by
 have hlt:j % sz<zv.size:=by rw[hz];exact Nat.mod_lt _ hp
 simp only[Builtin.zeroCells]
 rw[Array.getElem?_map,Array.getElem?_range]
 rw[if_pos (by rw[hz];exact hj)]
 simp only[Option.map_some,hz]
 rw[getElem!_pos zv (j % sz) hlt,Array.getElem?_eq_getElem hlt]
theorem zcells_size(zv:Array Value)(n:Nat):(Builtin.zeroCells zv n).size=n*zv.size:=by simp[Builtin.zeroCells]
theorem akg{z:List FV}{zv:Array Value}{sz n:Nat}(h2:zv.size=z.length)(h3:FVRs Φ z (zv[·]?) 0)(hl:z.length=sz)(hp:0<sz) :
  (Builtin.zeroCells zv n).toList.length=(EL.p (List.replicate n z)).len*sz/\ELR Φ ρ H (.p (List.replicate n z)) sz ((Builtin.zeroCells zv n).toList[·]?) 0:=by
 refine⟨by simp[zcells_size,EL.len,h2,hl],?_⟩
 simp only[ELR]
 refine aaA.2 λi l hi=>?_
 rw[List.getElem?_replicate]at hi
 split at hi
 ·rename_i hin
  cases hi
  refine⟨hl,?_⟩
  refine abf.2 λj x hj=>?_
  have hjl:=(List.getElem?_eq_some_iff.1 hj).1
  obtain⟨v,hv,hr⟩:=aaU h3 hj
  refine⟨v,?_,hr⟩
  have hlt:i*sz+j<n*sz:=by
   have:(i+1)*sz<=n*sz:=Nat.mul_le_mul_right _ hin
   rw[Nat.add_mul,Nat.one_mul]at this
   omega
  have e1:(0+i*sz+j) % sz=j:=by
   rw[Nat.zero_add,Nat.add_comm,Nat.add_mul_mod_self_right,Nat.mod_eq_of_lt (by omega)]
  simp only[Array.getElem?_toList]
  rw[aeA (by rw[h2,hl]) hp (by omega),e1]
  simpa using hv
 ·cases hi
theorem Ap.zeros{v:Value}{kd:IntKind}{m:Int}{z:List FV}(az:AppZ P ts args t t2 el sz bytes v kd m z):∃ vs,Ap P Φ ρ H w ts args ty el sz bytes (.p (List.replicate m.toNat z)) vs v:=by
 obtain⟨kt,hd⟩:=az.hu2
 obtain⟨i,hi,hib⟩:=acu az.hby
 obtain⟨zv,z1,z2,z3⟩:=abS (Φ:=Φ) az.hz
 have hmr:=az.mr
 have hm0:=az.m0
 simp only[room,Bool.and_eq_true,decide_eq_true_eq]at hmr
 obtain⟨c1,c2⟩:=hmr
 have hzsz:zv.cells.size=sz:=by rw[z2,az.hl]
 obtain⟨q1,q2⟩:=akg (ρ:=ρ) (H:=H) (n:=m.toNat) z2 z3 az.hl az.p
 have hlen:(EL.p (List.replicate m.toNat z)).len=m.toNat:=by simp[EL.len]
 have hw:IntKind.i64.wrap m=m:=by
  simp only[IntKind.wrap,IntKind.signed,IntKind.bits];simp;omega
 have hbig:¬(m*(i.bytes:Int)>2 ^ 48):=by
  have e1:m.toNat*i.bytes<=140737488355328:=by rw[hib];exact c1
  have e2:m*(i.bytes:Int)=((m.toNat*i.bytes:Nat):Int):=by rw[Int.natCast_mul,Int.toNat_of_nonneg hm0]
  rw[e2]
  generalize m.toNat*i.bytes=q at e1
  omega
 have hnz:m.toNat*sz=0->Builtin.zeroCells zv.cells m.toNat = #[]:=λh0=>Array.eq_empty_of_size_eq_zero (by rw[zcells_size,hzsz];exact h0)
 refine⟨(Builtin.zeroCells zv.cells m.toNat).toList,q1,q2,?_,?_,?_⟩
 ·intro u hu
  obtain⟨j,hj,rfl⟩:=List.mem_iff_getElem.1 hu
  have hjl:j<m.toNat*sz:=by simpa[zcells_size,hzsz]using hj
  have hlt:j % sz<z.length:=by rw[az.hl];exact Nat.mod_lt _ az.p
  obtain⟨u,hu1,hu2⟩:=aaU z3 (List.getElem?_eq_getElem hlt)
  have e:(Builtin.zeroCells zv.cells m.toNat)[j]?=some u:=by rw[aeA hzsz az.p hjl];simpa using hu1
  have e2:(Builtin.zeroCells zv.cells m.toNat).toList[j]=u:=by
   have:=(List.getElem?_eq_some_iff.1 (show(Builtin.zeroCells zv.cells m.toNat).toList[j]?=some u by simpa using e)).2
   exact this
  rw[e2]
  exact aeW hu2
 ·intro p n k hv hle
  subst hv
  rw[hlen]at hle ⊢
  simp only[Builtin.append_,az.ht,az.h0,az.h1,az.ht2,Sem.run_bind,aaf az.hu,Result.andThen_ok,aas az.hsz,aaf hd,Sem.run_pure]
  simp only[if_true,Sem.run_bind,asInt,asIntOf,Sem.run_pure,Result.andThen_ok,hw]
  rw[if_neg (by omega)]
  simp only[Sem.run_bind,typeInfo,run_program,Result.andThen_ok,hi,Sem.run_pure]
  rw[if_neg hbig]
  simp only[Sem.run_bind,Sem.run_pure,Result.andThen_ok]
  rw[if_pos hle]
  by_cases h0:m.toNat*sz=0
  ·simp only[Bool.not_true,Bool.false_eq_true,if_false,h0,if_true,Sem.run_bind,Sem.run_pure,Result.andThen_ok,hnz h0]
   cases p with
   | none=>rfl
   | some ad=>simp only[Sem.run_bind,Sem.run_pure,stInto]
  ·simp only[Bool.not_true,Bool.false_eq_true,if_false,h0,Sem.run_bind,z1,Sem.run_pure,Result.andThen_ok]
   cases p with
   | none=>rfl
   | some ad=>simp only[Sem.run_bind,Sem.run_pure,stInto]
 ·intro p n k old hv hroom hlt hold hol
  subst hv
  rw[hlen]at hroom hlt ⊢
  simp only[room,Bool.and_eq_true,decide_eq_true_eq]at hroom
  obtain⟨c5,c6⟩:=hroom
  have hmax:¬(((n+m.toNat:Nat):Int)>IntKind.i64.max/\(true=true∨i.bytes=0)):=by
   rintro ⟨h,_⟩
   simp only[IntKind.max,IntKind.signed,IntKind.bits,if_true]at h
   omega
  have hfit:¬(Builtin.nextslicecap (n+m.toNat) k*i.bytes>2 ^ 48):=by
   have:=growslice_fits (need:=n+m.toNat) (old:=k) (bytes:=i.bytes) hlt (by rw[hib];exact c5)
   omega
  obtain⟨cap,hcap⟩:∃ cap,cap=(Question.appendCap (n+m.toNat) k el).cut (w.tape w.drawn (.appendCap (n+m.toNat) k el)):=⟨_,rfl⟩
  have hge:n+m.toNat<=cap:=by rw[hcap];simp[Question.cut]
  obtain⟨arr,harr⟩:∃ arr,arr=old.toArray++Builtin.zeroCells zv.cells m.toNat++Builtin.zeroCells zv.cells (cap-(n+m.toNat)):=⟨_,rfl⟩
  refine⟨cap,arr,({ w with drawn:=w.drawn+1 }:World).alloc (.cells arr el),?_,hge,by simp,?_,?_,?_,?_,?_,⟨rfl,rfl,rfl⟩⟩
  ·simp only[Builtin.append_,az.ht,az.h0,az.h1,az.ht2,Sem.run_bind,aaf az.hu,Result.andThen_ok,aas az.hsz,aaf hd,Sem.run_pure]
   simp only[if_true,Sem.run_bind,asInt,asIntOf,Sem.run_pure,Result.andThen_ok,hw]
   rw[if_neg (by omega)]
   simp only[Sem.run_bind,typeInfo,run_program,Result.andThen_ok,hi,Sem.run_pure]
   rw[if_neg hbig]
   simp only[Sem.run_bind,Sem.run_pure,Result.andThen_ok]
   rw[if_neg (by omega)]
   simp only[Sem.run_bind,typeInfo,run_program,Result.andThen_ok,hi,Sem.run_pure]
   rw[if_neg (by simpa using hmax)]
   simp only[Sem.run_bind,typeInfo,run_program,Result.andThen_ok,hi,Sem.run_pure]
   rw[if_neg hfit]
   have hold':=hold ({ w with drawn:=w.drawn+1 }:World) rfl
   by_cases h0:m.toNat*sz=0
   ·simp only[Sem.run_bind,run_choose,Question.forced,Bool.false_eq_true,if_false,Result.andThen_ok,<-hcap,run_askRoom,typeInfo,run_program,hi,Sem.run_pure]
    rw[hnz h0]at harr
    simp only[hold',z1,Bool.not_true,Bool.false_eq_true,if_false,h0,if_true,Result.andThen_ok,newRow,Sem.run_bind,run_newObj,<-harr,Sem.run_pure]
    rfl
   ·simp only[Sem.run_bind,run_choose,Question.forced,Bool.false_eq_true,if_false,Result.andThen_ok,<-hcap,run_askRoom,typeInfo,run_program,hi,Sem.run_pure]
    simp only[hold',z1,Bool.not_true,Bool.false_eq_true,if_false,h0,Result.andThen_ok,newRow,Sem.run_bind,run_newObj,<-harr,Sem.run_pure]
    rfl
  ·intro d hd
   exact aaH ({ w with drawn:=w.drawn+1 }:World) _ hd
  ·exact abo ({ w with drawn:=w.drawn+1 }:World) _
  ·rw[harr]
   simp only[Array.size_append,List.size_toArray,zcells_size,hzsz,hol,<-Nat.add_mul]
   congr 1;omega
  ·intro j hj
   rw[harr,Array.append_assoc,Array.getElem?_append_left (by simpa[hol]using hj)]
   simp
  ·intro j hj
   rw[harr,Array.getElem?_append_left (by simp[hol,zcells_size,hzsz];omega),Array.getElem?_append_right (by simp[hol])]
   simp[hol]
theorem adw{old:List Value}{E:EL}{H1:Heap}(hs:Ap P Φ ρ H w ts args ty el sz bytes e vs (.slice p n k))(hr:HR Φ ρ H w)(hl:Less H H1)(hroom:room (n+e.len) bytes=true)(hlt:k<n+e.len)
  (hold:∀ w1:World,w1.heap=w.heap->(Builtin.firstCells sz n (.slice p n k)).run P w1 = .ok old.toArray w1) (hE:E.len=n) (hol:old.length=n*sz) (hoE:ELR Φ ρ H E sz (old[·]?) 0) :
  ∃ z w' ρ',(Builtin.append_ ts ty args).run P w = .ok z w'/\Stp Φ ρ H w Φ ρ' (H1++[some ((E.app e).blk sz)]) w'/\AR Φ ρ' (H1++[some ((E.app e).blk sz)]) (.c (.slw H.length sz (n+e.len))) z:=by
 obtain⟨cap,arr,w',r1,r2,r3,r4,r5,r6,r7,r8,r9⟩:=hs.grow rfl hroom hlt hold hol
 have hle:(n+e.len)*sz<=cap*sz:=Nat.mul_le_mul_right _ r2
 refine⟨_,w',upd ρ H.length (some ⟨w.heap.size,0,arr.size⟩),r1,?_,?_⟩
 ·refine ab3 hr hl (λd hd _=>r4 d hd) r3 (acP hr (Nat.le_refl _)) (.inl (Nat.le_refl _)) (λb x i hx hi=>by have:=ab4 hr (hl.sub _ _ hx) hi;simp only;omega)
   r5 (.inl rfl) rfl ?_ (aau (aby hl) ?_) r9
  ·rw[EL.blk_len,EL.blk_sz,EL.app_len,hE,r6];simp only;omega
  ·rw[EL.blk_el,EL.blk_sz,ELR_c,EL.app_c]
   have h1:=hs.rel
   rw[ELR_c]at h1 hoE
   refine aeb hoE h1 ?_ ?_
   ·intro j hj
    rw[EL.c_len,hE]at hj
    simpa using r7 j hj
   ·intro j hj
    rw[EL.c_len]at hj
    rw[EL.c_len,hE]
    simpa using r8 j hj
 ·simp only[AR,CR]
  refine⟨_,_,rfl,r2,by simp,by simp[hl.len],λx hx=>?_⟩
  rw[show H.length=H1.length from hl.len.symm,aal]at hx
  cases hx
  refine⟨EL.blk_sz _ _,by rw[EL.blk_len,EL.app_len,hE],.inr ⟨_,upd_self,by simp,?_⟩⟩
  simp[r6]
theorem aim{x r:A}{v:Value}{H':Heap}(h:appendA H sz bytes x e=some (r,H'))(hx:AR Φ ρ H x v)(hr:HR Φ ρ H w)(hs:Ap P Φ ρ H w ts args ty el sz bytes e vs v)(hsz:0<sz) :
  ∃ z w' ρ',(Builtin.append_ ts ty args).run P w = .ok z w'/\Stp Φ ρ H w Φ ρ' H' w'/\AR Φ ρ' H' r z:=by
 -- what was there,as growth reads it
 have oldOf:∀ {E:EL},elsA H sz x=some E->∃ old:List Value,old.length=E.len*sz/\ELR Φ ρ H E sz (old[·]?) 0 ∧
   ∀ w1:World,w1.heap=w.heap->(Builtin.firstCells sz E.len v).run P w1 = .ok old.toArray w1:=by
  intro E hE
  obtain⟨o,h1⟩:=Src.of (P:=P) hE hx hr hsz
  exact⟨o,h1.len,h1.rel,h1.cells⟩
 have vnil:∀ {q:Option Addr}{m off:Nat},e.len=0->(stInto q off vs).run P w = .ok () w:=by
  intro q m off h0
  have:vs=[]:=List.eq_nil_of_length_eq_zero (by rw[hs.len,h0];simp)
  subst this
  cases q <;> simp[stInto,storeCells]
 unfold appendA at h
 split at h
 ·rename_i z els
  split at h
  ·rename_i hz
   split at h
   ·split at h
    ·rename_i hroom
     cases h
     have hx':=hx
     simp only[AR,CR,FVR]at hx
     obtain⟨p,k,hv,hk,_⟩:=hx
     have hk0:k=0:=hk.2 0 rfl
     simp only[List.length_nil]at hv
     subst hv;subst hk0
     by_cases h0:e.len=0
     ·have hrun:=hs.run rfl (by omega)
      rw[vnil (m:=0) h0]at hrun
      refine⟨_,w,upd ρ H.length none,hrun,aaZ hr (Less.refl H),?_⟩
      simp only[AR,CR]
      refine⟨_,_,by rw[Nat.zero_add],by omega,by omega,by simp,λx hx=>?_⟩
      rw[aal]at hx;cases hx
      exact⟨EL.blk_sz _ _,by rw[EL.blk_len],.inl ⟨h0,rfl⟩⟩
     ·have hel:elsA H sz (.c (.v (.sl z [] (some 0))))=some (.p []):=by simp[elsA,hz]
      obtain⟨old,o1,o2,o3⟩:=oldOf hel
      simp only[EL.len,List.length_nil]at o1 o3
      have:=adw (ty:=ty) (E:=.p []) hs hr (Less.refl H) (by simpa using hroom) (by omega) o3 rfl o1 o2
      have happ:((EL.p []).app e).blk sz=e.blk sz:=by cases e <;> rfl
      rw[happ,Nat.zero_add]at this
      exact this
    ·cases h
   ·cases h
  ·cases h
 ·rename_i z els k0
  split at h
  ·rename_i hc
   obtain⟨hz,hlt,hroom⟩:=hc
   cases h
   have hel:elsA H sz (.c (.v (.sl z els (some (k0+1)))))=some (.p els):=by simp[elsA,hz]
   obtain⟨old,o1,o2,o3⟩:=oldOf hel
   simp only[AR,CR,FVR]at hx
   obtain⟨p,k,hv,hk,_⟩:=hx
   have hk0:k=k0+1:=hk.2 _ rfl
   subst hv;subst hk0
   exact adw (ty:=ty) (E:=.p els) hs hr (Less.refl H) hroom hlt o3 rfl o1 o2
  ·cases h
 ·rename_i b z n
  split at h
  ·rename_i hz
   split at h
   ·rename_i kb hkb
    split at h
    ·rename_i hroom
     simp only[Option.some.injEq,Prod.mk.injEq]at h
     obtain⟨rfl,rfl⟩:=h
     have hel:elsA H sz (.c (.slw b z n))=some kb.el:=by simp[elsA,hz,hkb]
     obtain⟨old,o1,o2,o3⟩:=oldOf hel
     simp only[AR,CR]at hx
     obtain⟨p,k,hv,hk,hpn,hb,h1⟩:=hx
     subst hv
     obtain⟨g1,g2,g4⟩:=h1 kb hkb
     have hEl:kb.el.len=n:=by rw[Blk.el_len];omega
     rw[hEl]at o1 o3
     by_cases hfit:n+e.len<=k
     ·have hrun:=hs.run rfl hfit
      rcases g4 with⟨g4,g5⟩ | ⟨inf,g4,g5,g6⟩
      ·have h0:e.len=0:=by omega
       rw[vnil (m:=0) h0]at hrun
       refine⟨_,w,upd ρ H.length none,hrun,aaZ hr (Less.kill H b),?_⟩
       simp only[AR,CR]
       refine⟨_,_,rfl,by omega,by omega,by simp,λx hx=>?_⟩
       have hlen:(H.set b none).length=H.length:=by simp
       rw[<-hlen,aal]at hx;cases hx
       exact⟨EL.blk_sz _ _,by rw[EL.blk_len,EL.app_len,hEl],.inl ⟨by omega,g5⟩⟩
      ·subst g5
       obtain⟨f1,arr,ty',fz,hw,f3,f4,f5,he⟩:=hr.own b kb inf hkb (Blk.cel (by omega)) g4
       subst hz
       have hmul:(n+e.len)*z<=k*z:=Nat.mul_le_mul_right _ hfit
       rw[Nat.add_mul]at hmul
       obtain⟨w',arr',r1,r2,r3,r4,r5,r6,r7⟩:=aaT (P:=P) (vs:=vs) (i:=0) (off:=inf.base+n*z) hw (by rw[hs.len];omega) f3.weak hs.one
       simp only[Nat.add_zero]at r6
       have hst:(stInto (some ⟨inf.c,inf.base,none⟩) (n*z) vs).run P w = .ok () w':=by simp only[stInto,addr_add];exact r1
       rw[hst]at hrun
       refine⟨_,w',upd ρ H.length (some inf),hrun,?_,?_⟩
       ·refine ab3 (arr':=arr') hr (Less.kill H b) (λd _ hd=>r3 d hd) (Nat.le_of_eq r2.symm) f1 (.inr ⟨b,kb,inf,hkb,g4,rfl⟩) ?_ r4 (by rw[r5];exact f3) (by omega) ?_ (aau (aby (Less.kill H b)) ?_) r7
        ·intro b' x i hx hi he
         obtain⟨q1,q2⟩:=aaC hx
         exact q1 (hr.inj b' b x kb i inf q2 hkb hi g4 he)
        ·rw[EL.blk_len,EL.blk_sz,EL.app_len,hEl,Nat.add_mul];omega
        ·rw[EL.blk_el,EL.blk_sz,ELR_c,EL.app_c]
         have h1:=hs.rel
         rw[ELR_c]at h1 he
         rw[g1]at he
         refine aeb he h1 ?_ ?_
         ·intro j hj
          rw[EL.c_len,hEl]at hj
          rw[r6,if_neg (by omega)]
         ·intro j hj
          rw[EL.c_len]at hj
          rw[EL.c_len,hEl]
          rw[r6,if_pos (by rw[hs.len];omega)]
          simp only[Nat.zero_add]
          congr 1;omega
       ·simp only[AR,CR]
        refine⟨_,_,rfl,hfit,by simp,by simp,λx hx=>?_⟩
        have hlen:(H.set b none).length=H.length:=by simp
        rw[<-hlen,aal]at hx;cases hx
        refine⟨EL.blk_sz _ _,by rw[EL.blk_len,EL.app_len,hEl],.inr ⟨inf,upd_self,rfl,g6⟩⟩
     ·exact adw (ty:=ty) (E:=kb.el) hs hr (Less.kill H b) hroom (by omega) o3 hEl o1 o2
    ·cases h
   ·cases h
  ·cases h
 ·rename_i b z i n c
  split at h
  ·rename_i hz
   split at h
   ·rename_i kb hkb
    have hel:elsA H sz (.c (.sl b z i n (some c)))=some (kb.el.mid i n):=by simp[elsA,hz,hkb]
    obtain⟨old,o1,o2,o3⟩:=oldOf hel
    have hx':=hx
    simp only[AR,CR]at hx
    obtain⟨p,k,hv,hk,hpn,hb,h1⟩:=hx
    subst hv
    obtain⟨g1,g2,g3,g4⟩:=h1 kb hkb
    have hkc:k=c:=hk.2 c rfl
    subst hkc
    have hEl:(kb.el.mid i n).len=n:=by rw[EL.mid_len,Blk.el_len];omega
    rw[hEl]at o1 o3
    split at h
    ·rename_i h00
     obtain⟨hn0,hk0⟩:=h00
     split at h
     ·rename_i hroom
      simp only[Option.some.injEq,Prod.mk.injEq]at h
      obtain⟨rfl,rfl⟩:=h
      subst hn0;subst hk0
      by_cases h0:e.len=0
      ·have hrun:=hs.run rfl (by omega)
       rw[vnil (m:=0) h0]at hrun
       refine⟨_,w,upd ρ H.length none,hrun,aaZ hr (Less.refl H),?_⟩
       simp only[AR,CR]
       refine⟨_,_,by rw[Nat.zero_add],by omega,by omega,by simp,λx hx=>?_⟩
       rw[aal]at hx;cases hx
       exact⟨EL.blk_sz _ _,by rw[EL.blk_len],.inl ⟨h0,rfl⟩⟩
      ·have:=adw (ty:=ty) (E:=.p []) (old:=old) hs hr (Less.refl H) (by simpa using hroom) (by omega) o3 rfl o1 (by simp[ELR,FVRe])
       have happ:((EL.p []).app e).blk sz=e.blk sz:=by cases e <;> rfl
       rw[happ,Nat.zero_add]at this
       exact this
     ·cases h
    split at h
    ·rename_i hfit
     split at h
     ·rename_i hin
      simp only[Option.some.injEq,Prod.mk.injEq]at h
      obtain⟨rfl,rfl⟩:=h
      have hrun:=hs.run rfl hfit
      subst hz
      have hov:(((kb.el.over (i+n) e).blk z).len)=kb.len:=by rw[EL.blk_len,EL.over_len (by rw[Blk.el_len];omega),Blk.el_len]
      have fin:∀ {w':World}{q:Option Addr},q=p->Stp Φ ρ H w Φ ρ (H.set b (some ((kb.el.over (i+n) e).blk z))) w' →
        AR Φ ρ (H.set b (some ((kb.el.over (i+n) e).blk z))) (.c (.sl b z i (n+e.len) (some k))) (.slice q (n+e.len) k):=by
       rintro w' q rfl hst
       simp only[AR,CR]
       refine⟨_,_,rfl,⟨hfit,by simp⟩,?_,by simpa using hb,λx hx=>?_⟩
       ·intro h0
        rcases g4 with⟨g4,g5⟩ | ⟨inf,g4,g5,g6⟩
        ·exact hpn (.inr (by simp))
        ·simp[g5]
       ·rw[aao hkb]at hx;cases hx
        refine⟨EL.blk_sz _ _,by rw[hov];omega,by simp,?_⟩
        rcases g4 with⟨g4,g5⟩ | g4
        ·left;omega
        ·exact .inr g4
      rcases g4 with⟨g4,g5⟩ | ⟨inf,g4,g5,g6⟩
      ·have h0:e.len=0:=by omega
       rw[vnil (m:=0) h0]at hrun
       have hst:Stp Φ ρ H w Φ ρ (H.set b (some ((kb.el.over (i+n) e).blk z))) w:=adQ hr hkb (by rw[EL.blk_sz,g1]) (by
        rw[<-Blk.el_c,EL.blk_el,EL.over_c,<-Blk.el_c]
        have:e.c=[]:=List.eq_nil_of_length_eq_zero (by rw[EL.c_len];exact h0)
        rw[this];simp) (Blk.cel (by omega)) (EL.blk_cel _ _)
       exact⟨_,w,ρ,hrun,hst,fin rfl hst⟩
      ·obtain⟨w',r1,r2⟩:=aeQ (P:=P) (x:=e) (vs:=vs) (i:=i+n) hr hkb g4 (by rw[g1];exact hs.len) (by rw[g1];exact hs.rel) hs.one (by omega) (Blk.cel (by omega))
       rw[g1]at r1 r2
       have hst:(stInto p (n*z) vs).run P w = .ok () w':=by
        subst g5
        simp only[stInto,addr_add]
        rw[show inf.base+i*z+n*z=inf.base+(i+n)*z from by rw[Nat.add_mul];omega]
        exact r1
       rw[hst]at hrun
       exact⟨_,w',ρ,hrun,r2,fin rfl r2⟩
     ·cases h
    ·split at h
     ·rename_i hnf hroom
      simp only[Option.some.injEq,Prod.mk.injEq]at h
      obtain⟨rfl,rfl⟩:=h
      exact adw (ty:=ty) (E:=kb.el.mid i n) hs hr (Less.refl H) hroom (by omega) o3 hEl o1 o2
     ·cases h
   ·cases h
  ·cases h
 ·rename_i b z i n
  split at h
  ·rename_i hz
   split at h
   ·rename_i kb hkb
    have hel:elsA H sz (.c (.sl b z i n none))=some (kb.el.mid i n):=by simp[elsA,hz,hkb]
    obtain⟨old,o1,o2,o3⟩:=oldOf hel
    simp only[AR,CR]at hx
    obtain⟨p,k,hv,hk,hpn,hb,h1⟩:=hx
    subst hv
    obtain⟨g1,g2,g3,g4⟩:=h1 kb hkb
    have hreach:=g3 trivial
    have hEl:(kb.el.mid i n).len=n:=by rw[EL.mid_len,Blk.el_len];omega
    rw[hEl]at o1 o3
    split at h
    ·rename_i hin
     simp only[Option.some.injEq,Prod.mk.injEq]at h
     obtain⟨rfl,rfl⟩:=h
     have hfit:n+e.len<=k:=by omega
     have hrun:=hs.run rfl hfit
     subst hz
     have hov:(((kb.el.over (i+n) e).blk z).len)=kb.len:=by rw[EL.blk_len,EL.over_len (by rw[Blk.el_len];omega),Blk.el_len]
     have fin:∀ {w':World}{q:Option Addr},q=p->Stp Φ ρ H w Φ ρ (H.set b (some ((kb.el.over (i+n) e).blk z))) w' →
       AR Φ ρ (H.set b (some ((kb.el.over (i+n) e).blk z))) (.c (.sl b z i (n+e.len) none)) (.slice q (n+e.len) k):=by
      rintro w' q rfl hst
      simp only[AR,CR]
      refine⟨_,_,rfl,⟨hfit,by simp⟩,?_,by simpa using hb,λx hx=>?_⟩
      ·intro h0
       rcases g4 with⟨g4,g5⟩ | ⟨inf,g4,g5,g6⟩
       ·rcases h0 with h0 | h0;exact absurd h0 (by omega);exact absurd rfl h0
       ·simp[g5]
      ·rw[aao hkb]at hx;cases hx
       refine⟨EL.blk_sz _ _,by rw[hov];omega,λ_=>by rw[hov];exact hreach,?_⟩
       rcases g4 with⟨g4,g5⟩ | g4
       ·left;omega
       ·exact .inr g4
     rcases g4 with⟨g4,g5⟩ | ⟨inf,g4,g5,g6⟩
     ·have h0:e.len=0:=by omega
      rw[vnil (m:=0) h0]at hrun
      have hst:Stp Φ ρ H w Φ ρ (H.set b (some ((kb.el.over (i+n) e).blk z))) w:=adQ hr hkb (by rw[EL.blk_sz,g1]) (by
       rw[<-Blk.el_c,EL.blk_el,EL.over_c,<-Blk.el_c]
       have:e.c=[]:=List.eq_nil_of_length_eq_zero (by rw[EL.c_len];exact h0)
       rw[this];simp) (Blk.cel (by omega)) (EL.blk_cel _ _)
      exact⟨_,w,ρ,hrun,hst,fin rfl hst⟩
     ·obtain⟨w',r1,r2⟩:=aeQ (P:=P) (x:=e) (vs:=vs) (i:=i+n) hr hkb g4 (by rw[g1];exact hs.len) (by rw[g1];exact hs.rel) hs.one (by omega) (Blk.cel (by omega))
      rw[g1]at r1 r2
      have hst:(stInto p (n*z) vs).run P w = .ok () w':=by
       subst g5
       simp only[stInto,addr_add]
       rw[show inf.base+i*z+n*z=inf.base+(i+n)*z from by rw[Nat.add_mul];omega]
       exact r1
      rw[hst]at hrun
      exact⟨_,w',ρ,hrun,r2,fin rfl r2⟩
    ·split at h
     ·rename_i hnin hroom
      simp only[Option.some.injEq,Prod.mk.injEq]at h
      obtain⟨rfl,rfl⟩:=h
      by_cases hfit:n+e.len<=k
      ·have hrun:=hs.run rfl hfit
       rcases g4 with⟨g4,g5⟩ | ⟨inf,g4,g5,g6⟩
       ·have h0:e.len=0:=by omega
        rw[vnil (m:=0) h0]at hrun
        refine⟨_,w,upd ρ H.length none,hrun,aaZ hr (Less.kill H b),?_⟩
        simp only[AR,CR]
        refine⟨_,_,rfl,by omega,by omega,by simp,λx hx=>?_⟩
        have hlen:(H.set b none).length=H.length:=by simp
        rw[<-hlen,aal]at hx;cases hx
        exact⟨EL.blk_sz _ _,by rw[EL.blk_len,EL.app_len,hEl],.inl ⟨by omega,g5⟩⟩
       ·subst g5
        obtain⟨f1,arr,ty',fz,hw,f3,f4,f5,he⟩:=hr.own b kb inf hkb (Blk.cel (by omega)) g4
        subst hz
        have hmul:(i+(n+e.len))*z<=(i+k)*z:=Nat.mul_le_mul_right _ (by omega)
        rw[Nat.add_mul,Nat.add_mul n]at hmul
        obtain⟨w',arr',r1,r2,r3,r4,r5,r6,r7⟩:=aaT (P:=P) (vs:=vs) (i:=0) (off:=inf.base+i*z+n*z) hw (by rw[hs.len];omega) f3.weak hs.one
        simp only[Nat.add_zero]at r6
        have hst:(stInto (some ⟨inf.c,inf.base+i*z,none⟩) (n*z) vs).run P w = .ok () w':=by simp only[stInto,addr_add];exact r1
        rw[hst]at hrun
        refine⟨_,w',upd ρ H.length (some ⟨inf.c,inf.base+i*z,inf.asz⟩),hrun,?_,?_⟩
        ·refine ab3 (arr':=arr') hr (Less.kill H b) (λd _ hd=>r3 d hd) (Nat.le_of_eq r2.symm) f1 (.inr ⟨b,kb,inf,hkb,g4,rfl⟩) ?_ r4 (by rw[r5];exact f3) (by simp only;omega) ?_ (aau (aby (Less.kill H b)) ?_) r7
         ·intro b' x i' hx hi he
          obtain⟨q1,q2⟩:=aaC hx
          exact q1 (hr.inj b' b x kb i' inf q2 hkb hi g4 he)
         ·rw[EL.blk_len,EL.blk_sz,EL.app_len,hEl,Nat.add_mul];simp only;omega
         ·rw[EL.blk_el,EL.blk_sz,ELR_c,EL.app_c]
          have h1:=hs.rel
          have he2:ELR Φ ρ H (kb.el.mid i n) z (arr[·]?) (inf.base+i*z):=ade (by rw[<-g1];exact he)
          rw[ELR_c]at h1 he2
          refine aeb he2 h1 ?_ ?_
          ·intro j hj
           rw[EL.c_len,hEl]at hj
           simp only
           rw[r6,if_neg (by omega)]
          ·intro j hj
           rw[EL.c_len]at hj
           rw[EL.c_len,hEl]
           simp only
           rw[r6,if_pos (by rw[hs.len];omega)]
           simp only[Nat.zero_add]
           congr 1;omega
        ·simp only[AR,CR]
         refine⟨_,_,rfl,hfit,by simp,by simp,λx hx=>?_⟩
         have hlen:(H.set b none).length=H.length:=by simp
         rw[<-hlen,aal]at hx;cases hx
         refine⟨EL.blk_sz _ _,by rw[EL.blk_len,EL.app_len,hEl],.inr ⟨_,upd_self,rfl,?_⟩⟩
         simp only
         rw[Nat.add_mul]at g6
         omega
      ·exact adw (ty:=ty) (E:=kb.el.mid i n) hs hr (Less.kill H b) hroom (by omega) o3 hEl o1 o2
     ·cases h
   ·cases h
  ·cases h
 ·cases h
end
end Go.Ev
