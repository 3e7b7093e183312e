import Derived.Test.YtganajogkdinaaaGreatGMc
import Derived.KernelRfl
set_option linter.all false
namespace Go.R4
open Go.Proofs Go.Ev
set_option maxRecDepth 100000
def dD.f:Nat->ak->Option (Bool)
 | 0,_=>none
 | k+1,m1=>(if(m1.Types.length:Int)>64 then(some true)else(if(iadd .i64 (m1.Imports.length:Int) (m1.Funcs.length:Int))>256 then(some true)else(if(m1.Mems.length:Int)>4 then(some true)else(if(m1.Globals.length:Int)>256 then(some true)else(if(m1.Datas.length:Int)>16 then(some true)else(if(m1.Exports.length:Int)>256 then(some true)else(some (decide ((m1.Customs.length:Int)>16)))))))))
section
variable(k:Nat)(m1:ak)
noncomputable def dD.s:Sc (Bool):=(.rS 1 2 5 (lm ab.e m1.Types) (.bq 1 4 7 false ((m1.Types.length:Int)>64) (.ret true) (.rS 1 7 10 (lm ag.e m1.Imports) (.rS 1 10 13 (lm ai.e m1.Funcs) (.bq 1 14 17 false ((iadd .i64 (m1.Imports.length:Int) (m1.Funcs.length:Int))>256) (.ret true) (.rS 1 17 20 (lm au.e m1.Mems) (.bq 1 20 23 false ((m1.Mems.length:Int)>4) (.ret true) (.rS 1 23 26 (lm af.e m1.Globals) (.bq 1 26 29 false ((m1.Globals.length:Int)>256) (.ret true) (.rS 1 29 32 (lm aA.e m1.Datas) (.bq 1 32 35 false ((m1.Datas.length:Int)>16) (.ret true) (.rS 1 35 38 (lm aa.e m1.Exports) (.bq 1 38 41 false ((m1.Exports.length:Int)>256) (.ret true) (.rS 1 41 44 (lm am.e m1.Customs) (.ret (decide ((m1.Customs.length:Int)>16)))))))))))))))))
theorem dD.ok:op k 96 ([.agp (w6 m1)],[]) (λv3=>(.b v3,[])) (dD.f k m1):=by apply oB (λ_=>dD.s m1) k
end
def cX.f:Nat->Int->Option (Bool)
 | 0,_=>none
 | k+1,t1=>(if t1=127 then(some false)else(if t1=126 then(some false)else(some (!decide (t1=124)))))
section
variable(k:Nat)(t1:Int)
noncomputable def cX.s:Sc (Bool):=(.bq 1 2 5 true (t1=127) (.ret false) (.bq 1 6 9 true (t1=126) (.ret false) (.ret (!decide (t1=124)))))
theorem cX.ok:op k 204 ([.i t1],[]) (λv3=>(.b v3,[])) (cX.f k t1):=by apply oP (λ_=>cX.s t1) k
end
def cq.b2(k:Nat)(s1:LI):Int->Option (Int⊕(Unit⊕Int)):=λx40=>(if x40<(s1.length:Int)then((at? s1 x40).bind λe55=>((cX.f k e55).bind λr57=>(if r57=true then(some (.inr (.inr x40)))else(some (.inl (iadd .i64 x40 1))))))else(some (.inr (.inl ()))))
def cq.f:Nat->LI->Option (Int)
 | 0,_=>none
 | k+1,s1=>(altB (loopS (cq.b2 k s1) k (0:Int)) (λ_=>(some (-1:Int))) (λx49=>(some x49)))
section
variable(k:Nat)(s1:LI)
noncomputable def cq.s:Sc (Int):=(.rS 1 1 7 (lm (eI .i64) s1) (.loop2 (V:=Int) (O:=Unit) (O2:=Int) 2 (0:Int) (λv50=>⟨mk 19 [(0,.l 1 (eI .i64) s1),(1,.c (.v (.fn 204 []))),(7,.i (s1.length:Int)),(8,.i v50)],[]⟩) (λv50=>(.bq 2 0 9 false (v50<(s1.length:Int)) (.op 4 3 (Rd.el (eI .i64) s1 v50) λv56=>(.cl 4 5 (cX.ok k v56) λv58=>(.br 4 5 16 v58 (.ret (.inr (.inr v50))) (.ret (.inl (iadd .i64 v50 1)))))) (.ret (.inr (.inl ()))))) (.exit 0) (λv59=>⟨mk 19 [],[]⟩) (λv59=>(.ret (-1:Int))) .ret (λv60=>⟨mk 19 [(4,.i v60)],[]⟩) λv60=>(.ret v60)))
theorem cq.ok:op k 264 ([.l 1 (eI .i64) s1,.c (.v (.fn 204 []))],[]) (λv61=>(.i v61,[])) (cq.f k s1):=by apply oB (cq.s · s1) k
end
def cd.f:Nat->LI->Option (Bool)
 | 0,_=>none
 | k+1,s1=>((cq.f k s1).bind λr5=>(some (decide (r5≥0))))
section
variable(k:Nat)(s1:LI)
noncomputable def cd.s:Sc (Bool):=(.cl 1 2 (cq.ok k s1) λv6=>(.ret (decide (v6≥0))))
theorem cd.ok:op k 180 ([.l 1 (eI .i64) s1,.c (.v (.fn 204 []))],[]) (λv7=>(.b v7,[])) (cd.f k s1):=by apply oB (cd.s · s1) k
end
def bx.f:Nat->LI->Option (Bool)
 | 0,_=>none
 | k+1,l1=>((cd.f k l1).bind λr5=>(some (!r5)))
section
variable(k:Nat)(l1:LI)
noncomputable def bx.s:Sc (Bool):=(.cl 1 1 (cd.ok k l1) λv6=>(.ret (!v6)))
theorem bx.ok:op k 112 ([.l 1 (eI .i64) l1],[]) (λv7=>(.b v7,[])) (bx.f k l1):=by apply oB (bx.s · l1) k
end
def dq.f:Nat->ab->Option (Bool)
 | 0,_=>none
 | k+1,t1=>(if(t1.Params.length:Int)<=8 then(if(t1.Results.length:Int)<=8 then((bx.f k t1.Params).bind λr7=>(if r7=true then((bx.f k t1.Results).bind λr9=>(some r9))else(some false)))else(some false))else(some false))
section
variable(k:Nat)(t1:ab)
noncomputable def dq.s:Sc (Bool):=(.rS 1 2 5 (lm (eI .i64) t1.Params) (.bq 1 4 7 false ((t1.Params.length:Int)<=8) (.rS 1 7 10 (lm (eI .i64) t1.Results) (.bq 1 10 13 false ((t1.Results.length:Int)<=8) (.cl 1 13 (bx.ok k t1.Params) λv8=>(.br 1 15 18 v8 (.cl 1 18 (bx.ok k t1.Results) λv10=>(.ret v10)) (.ret false))) (.ret false))) (.ret false)))
theorem dq.ok:op k 98 ([.agp [.l 1 (eI .i64) t1.Params,.l 1 (eI .i64) t1.Results]],[]) (λv11=>(.b v11,[])) (dq.f k t1):=by apply oB (dq.s · t1) k
end
def cZ.f:Nat->ab->Option (Bool)
 | 0,_=>none
 | k+1,x1=>((dq.f k x1).bind λr5=>(some (!r5)))
section
variable(k:Nat)(x1:ab)
noncomputable def cZ.s:Sc (Bool):=(.cl 1 2 (dq.ok k x1) λv6=>(.ret (!v6)))
theorem cZ.ok:op k 190 ([.agp [.l 1 (eI .i64) x1.Params,.l 1 (eI .i64) x1.Results],.c (.v (.ref [.fn 98 []]))],[]) (λv7=>(.b v7,[])) (cZ.f k x1):=by apply oB (cZ.s · x1) k
end
def cA.b2(k:Nat)(s1:LTy):Int->Option (Int⊕(Unit⊕Int)):=λx40=>(if x40<(s1.length:Int)then((at? s1 x40).bind λe55=>((cZ.f k e55).bind λr57=>(if r57=true then(some (.inr (.inr x40)))else(some (.inl (iadd .i64 x40 1))))))else(some (.inr (.inl ()))))
def cA.f:Nat->LTy->Option (Int)
 | 0,_=>none
 | k+1,s1=>(altB (loopS (cA.b2 k s1) k (0:Int)) (λ_=>(some (-1:Int))) (λx49=>(some x49)))
section
variable(k:Nat)(s1:LTy)
noncomputable def cA.s:Sc (Int):=(.rS 1 1 7 (lm ab.e s1) (.loop2 (V:=Int) (O:=Unit) (O2:=Int) 2 (0:Int) (λv50=>⟨mk 19 [(0,.l 2 ab.e s1),(1,.c (.fn 190 [.ptr 0 1 0 0])),(7,.i (s1.length:Int)),(8,.i v50)],[bp 1 [.fn 98 []]]⟩) (λv50=>(.bq 2 0 9 false (v50<(s1.length:Int)) (.op 4 3 (Rd.el ab.e s1 v50) λv56=>(.op 4 5 (Rd.bcall (args:=[.agp [.l 1 (eI .i64) v56.Params,.l 1 (eI .i64) v56.Results],.p 0 1 0 0]) (h:=[bp 1 [.fn 98 []]]) (cZ.ok k v56) rfl rfl (by kernel_rfl) rfl (by kernel_rfl)) λv58=>(.br 4 5 16 v58 (.ret (.inr (.inr v50))) (.ret (.inl (iadd .i64 v50 1)))))) (.ret (.inr (.inl ()))))) (.exit 0) (λv59=>⟨mk 19 [],[bp 1 [.fn 98 []]]⟩) (λv59=>(.ret (-1:Int))) .ret (λv60=>⟨mk 19 [(4,.i v60)],[bp 1 [.fn 98 []]]⟩) λv60=>(.ret v60)))
theorem cA.ok:op k 268 ([.l 2 ab.e s1,.c (.fn 190 [.ptr 0 1 0 0])],[bp 1 [.fn 98 []]]) (λv61=>(.i v61,[bp 1 [.fn 98 []]])) (cA.f k s1):=by apply oP (cA.s · s1) k
end
def cm.f:Nat->LTy->Option (Bool)
 | 0,_=>none
 | k+1,s1=>((cA.f k s1).bind λr5=>(some (decide (r5≥0))))
section
variable(k:Nat)(s1:LTy)
noncomputable def cm.s:Sc (Bool):=(.cl 1 2 (cA.ok k s1) λv6=>(.ret (decide (v6≥0))))
theorem cm.ok:op k 189 ([.l 2 ab.e s1,.c (.fn 190 [.ptr 0 1 0 0])],[bp 1 [.fn 98 []]]) (λv7=>(.b v7,[bp 1 [.fn 98 []]])) (cm.f k s1):=by apply oP (cm.s · s1) k
end
def cQ.f:Nat->LTy->Option (Bool)
 | 0,_=>none
 | k+1,l1=>((cm.f k l1).bind λr5=>(some (!r5)))
section
variable(k:Nat)(l1:LTy)
noncomputable def cQ.s:Sc (Bool):=(.cl 1 2 (cm.ok k l1) λv6=>(.ret (!v6)))
theorem cQ.ok:op k 97 ([.l 2 ab.e l1,.c (.v (.fn 98 []))],[]) (λv7=>(.b v7,[])) (cQ.f k l1):=by apply oB (cQ.s · l1) k
end
def ek.f:Nat->Option (List aT)
 | 0=>none
 | k+1=>(some ([(aT.mk (128:Int) (0:Int) (0:Int) (0:Int)),(aT.mk (224:Int) (192:Int) (1:Int) (128:Int)),(aT.mk (240:Int) (224:Int) (2:Int) (2048:Int)),(aT.mk (248:Int) (240:Int) (3:Int) (65536:Int))]:List aT))
section
variable(k:Nat)
noncomputable def ek.s:Sc (List aT):=(.ret ([(aT.mk (128:Int) (0:Int) (0:Int) (0:Int)),(aT.mk (224:Int) (192:Int) (1:Int) (128:Int)),(aT.mk (240:Int) (224:Int) (2:Int) (2048:Int)),(aT.mk (248:Int) (240:Int) (3:Int) (65536:Int))]:List aT))
theorem ek.ok:op k 339 ([],[]) (λv2=>(.o 0 4 v2.length,[bl 4 aT.e v2])) (ek.f k):=by apply oP (λ_=>ek.s) k
end
def aS.b7(k:Nat)(b1:LI)(e383:aT)(y391:Int):(Int×Int)->Option ((Int×Int)⊕(Int⊕Int)):=λ(v401,x402)=>(if x402<y391 then((at? (List.drop 1 (List.take (((iadd .i64 1 e383.more)).toNat) b1)) x402).bind λe412=>(if(iand .u8 e412 192)=128 then(some (.inl ((ior .u32 (ishl .u32 v401 6) (icv .u32 (iand .u8 e412 63))),(iadd .i64 x402 1))))else(some (.inr (.inr v401)))))else(some (.inr (.inl v401))))
def aS.b2(k:Nat)(b1:LI)(r211:List aT):Int->Option (Int⊕(Unit⊕Int)):=λx280=>(if x280<(r211.length:Int)then(segB (if(0:Int)<=x280/\x280<(r211.length:Int)then(r211[(x280).toNat]?.bind λe383=>((at? b1 0).bind λe387=>(if(iand .u8 e387 e383.mask)=e383.mark then(if(b1.length:Int)<=e383.more then(some (.inl ()))else((at? b1 0).bind λe389=>(if 0<=(1:Int)/\1<=(iadd .i64 1 e383.more)/\(iadd .i64 1 e383.more)<=(b1.length:Int)then(let y391:Int:=((List.drop 1 (List.take (((iadd .i64 1 e383.more)).toNat) b1)).length:Int);(altB (loopS (aS.b7 k b1 e383 y391) k ((icv .u32 (adq .u8 e389 e383.mask)),(0:Int))) (λv407=>(if v407<e383.least then(some (.inr (.inr (.inr (0:Int)))))else(if v407≥55296 then(if v407<=57343 then(some (.inr (.inr (.inr (0:Int)))))else(if v407>1114111 then(some (.inr (.inr (.inr (0:Int)))))else(some (.inr (.inr (.inr (iadd .i64 1 e383.more)))))))else(if v407>1114111 then(some (.inr (.inr (.inr (0:Int)))))else(some (.inr (.inr (.inr (iadd .i64 1 e383.more))))))))) (λv408=>(some (.inr (.inr (.inr (0:Int))))))))else none)))else(some (.inl ())))))else none) (λ_=>(some (.inl (iadd .i64 x280 1)))))else(some (.inr (.inl ()))))
def aS.f:Nat->LI->Option (Int)
 | 0,_=>none
 | k+1,b1=>((ek.f k).bind λr211=>(altB (loopS (aS.b2 k b1 r211) k (0:Int)) (λ_=>(some (0:Int))) (λx348=>(some x348))))
section
variable(k:Nat)(b1:LI)
noncomputable def aS.s:Sc (Int):=(.cl 1 0 (ek.ok k) λv212=>(.loop2 (V:=Int) (O:=Unit) (O2:=Int) 2 (0:Int) (λv349=>⟨mk 77 [(0,.l 1 (eI .u8) b1),(8,.o 0 4 v212.length),(9,.i (v212.length:Int)),(10,.i v349)],[bl 4 aT.e v212]⟩) (λv349=>(.bq 2 0 11 false (v349<(v212.length:Int)) (.seg (O:=Unit) 16 (.ck 3 0 [(0:Int)<=v349,v349<(v212.length:Int)] (.op 3 1 (Rd.ld 4 aT.e v212 ((v349).toNat)) λv384=>(.op 4 1 (Rd.el (eI .u8) b1 (0:Int)) λv388=>(.bq 4 9 23 true ((iand .u8 v388 v384.mask)=v384.mark) (.rS 4 11 25 (lm (eI .u8) b1) (.bq 4 15 29 false ((b1.length:Int)<=v384.more) (.ret (.inl ())) (.op 5 1 (Rd.el (eI .u8) b1 (0:Int)) λv390=>(.ch 6 4 (0<=(1:Int)/\1<=(iadd .i64 1 v384.more)/\(iadd .i64 1 v384.more)<=(b1.length:Int)) (ae6 (eI .u8) b1 1 (iadd .i64 1 v384.more)) (.rS 6 4 41 (afO 1 (eI .u8) b1 1 (iadd .i64 1 v384.more) none) (.rS 6 5 42 (lm (eI .u8) (List.drop 1 (List.take (((iadd .i64 1 v384.more)).toNat) b1))) (.nm 6 5 42 .i64 ((List.drop 1 (List.take (((iadd .i64 1 v384.more)).toNat) b1)).length:Int) λv392=>(.loop2 (V:=Int×Int) (O:=Int) (O2:=Int) 7 ((icv .u32 (adq .u8 v390 v384.mask)),(0:Int)) (λv409=>⟨mk 77 [(4,.p 0 4 0 0),(5,.c (.v (.int .u32 v409.1))),(41,.l 1 (eI .u8) (List.drop 1 (List.take (((iadd .i64 1 v384.more)).toNat) b1))),(42,.i v392),(43,.i v409.2)],[bp 4 [.int .u8 v384.mask,.int .u8 v384.mark,.i v384.more,.int .u32 v384.least]]⟩) (λv409=>(.bq 7 0 44 false (v409.2<v392) (.op 8 0 (Rd.el (eI .u8) (List.drop 1 (List.take (((iadd .i64 1 v384.more)).toNat) b1)) v409.2) λv413=>(.bq 9 2 49 true ((iand .u8 v413 192)=128) (.prf 11 1 [(0:Int)<=6] ⟨by decide,trivial⟩ (.ret (.inl ((ior .u32 (ishl .u32 v409.1 6) (icv .u32 (iand .u8 v413 63))),(iadd .i64 v409.2 1))))) (.ret (.inr (.inr v409.1))))) (.ret (.inr (.inl v409.1))))) (.exit 2) (λv414=>⟨mk 77 [(4,.p 0 4 0 0),(5,.c (.v (.int .u32 v414)))],[bp 4 [.int .u8 v384.mask,.int .u8 v384.mark,.i v384.more,.int .u32 v384.least]]⟩) (λv414=>(.bq 13 4 61 false (v414<v384.least) (.ret (.inr (.inr (.inr (0:Int))))) (.bq 13 7 64 false (v414≥55296) (.bq 13 12 69 false (v414<=57343) (.ret (.inr (.inr (.inr (0:Int))))) (.bq 13 15 72 false (v414>1114111) (.ret (.inr (.inr (.inr (0:Int))))) (.ret (.inr (.inr (.inr (iadd .i64 1 v384.more))))))) (.bq 13 15 72 false (v414>1114111) (.ret (.inr (.inr (.inr (0:Int))))) (.ret (.inr (.inr (.inr (iadd .i64 1 v384.more))))))))) .ret (λv415=>⟨mk 77 [(2,.i 0),(4,.p 0 4 0 0),(5,.c (.v (.int .u32 v415)))],[bp 4 [.int .u8 v384.mask,.int .u8 v384.mark,.i v384.more,.int .u32 v384.least]]⟩) λv415=>(.ret (.inr (.inr (.inr (0:Int))))))))))))) (.ret (.inl ())))))) (λv416=>⟨mk 77 [(0,.l 1 (eI .u8) b1),(8,.o 0 4 v212.length),(9,.i (v212.length:Int)),(10,.i v349)],[bl 4 aT.e v212]⟩) λv416=>(.ret (.inl (iadd .i64 v349 1)))) (.ret (.inr (.inl ()))))) (.exit 0) (λv417=>⟨mk 77 [],[]⟩) (λv417=>(.ret (0:Int))) .ret (λv418=>⟨mk 77 [(2,.i v418)],[]⟩) λv418=>(.ret v418)))
theorem aS.ok:op k 316 ([.l 1 (eI .u8) b1],[]) (λv419=>(.i v419,[])) (aS.f k b1):=by apply oB (aS.s · b1) k
end
def bT.b2(k:Nat):(LI×Int)->Option ((LI×Int)⊕(Int⊕Int)):=λ(b18,n19)=>(if(b18.length:Int)>0 then((aS.f k b18).bind λr25=>(if r25=0 then(some (.inr (.inr n19)))else(if 0<=r25/\r25<=(b18.length:Int)then(some (.inl ((List.drop ((r25).toNat) b18),(iadd .i64 n19 1))))else none)))else(some (.inr (.inl n19))))
def bT.f:Nat->LI->Option (Int)
 | 0,_=>none
 | k+1,b1=>(altB (loopS (bT.b2 k) k (b1,(0:Int))) (λn22=>(some n22)) (λn23=>(some (-1:Int))))
section
variable(k:Nat)(b1:LI)
noncomputable def bT.s:Sc (Int):=(.loop2 (V:=LI×Int) (O:=Int) (O2:=Int) 2 (b1,(0:Int)) (λv24=>⟨mk 18 [(0,.l 1 (eI .u8) v24.1),(3,.i v24.2)],[]⟩) (λv24=>(.rS 2 1 6 (lm (eI .u8) v24.1) (.bq 2 2 7 false ((v24.1.length:Int)>0) (.cl 3 1 (aS.ok k v24.1) λv26=>(.bq 4 1 11 false (v26=0) (.ret (.inr (.inr v24.2))) (.ch 6 2 (0<=v26/\v26<=(v24.1.length:Int)) (anV (eI .u8) v24.1 v26) (.rS 6 2 14 (anO 1 (eI .u8) v24.1 v26 none) (.ret (.inl ((List.drop ((v26).toNat) v24.1),(iadd .i64 v24.2 1)))))))) (.ret (.inr (.inl v24.2)))))) (.exit 0) (λv27=>⟨mk 18 [(3,.i v27)],[]⟩) (λv27=>(.ret v27)) .ret (λv28=>⟨mk 18 [(2,.i (-1)),(3,.i v28)],[]⟩) λv28=>(.ret (-1:Int)))
theorem bT.ok:op k 270 ([.l 1 (eI .u8) b1],[]) (λv29=>(.i v29,[])) (bT.f k b1):=by apply oB (bT.s · b1) k
end
def dJ.f:Nat->LI->Option (Bool)
 | 0,_=>none
 | k+1,b1=>((bT.f k b1).bind λr5=>(some (decide (r5≥0))))
section
variable(k:Nat)(b1:LI)
noncomputable def dJ.s:Sc (Bool):=(.cl 1 1 (bT.ok k b1) λv6=>(.ret (decide (v6≥0))))
theorem dJ.ok:op k 193 ([.l 1 (eI .u8) b1],[]) (λv7=>(.b v7,[])) (dJ.f k b1):=by apply oB (dJ.s · b1) k
end
def bb.f:Nat->ByteArray->Option (Bool)
 | 0,_=>none
 | k+1,s1=>(if(s1.size:Int)<=64 then(if s1.size<=140737488355328 then((dJ.f k (strL s1)).bind λr5=>(some r5))else none)else(some false))
section
variable(k:Nat)(s1:ByteArray)
noncomputable def bb.s:Sc (Bool):=(.bq 1 3 6 false ((s1.size:Int)<=64) (.ck 1 5 [s1.size<=140737488355328] (.rS 1 5 8 (ag7 0 s1) (.rB 1 5 0 (agV s1) (.op 1 6 (Rd.bcall (args:=[.o 0 1 ((strL s1)).length]) (h:=[bl 1 (eI .u8) (strL s1)]) (dJ.ok k (strL s1)) rfl rfl (by kernel_rfl) rfl (by kernel_rfl)) λv6=>(.ret v6))))) (.ret false))
theorem bb.ok:op k 101 ([.t s1],[]) (λv7=>(.b v7,[])) (bb.f k s1):=by apply oP (bb.s · s1) k
end
def aN.f:Nat->Int->Option (Bool)
 | 0,_=>none
 | k+1,n1=>(if n1≥0 then(some (decide (n1<=2147483647)))else(some false))
section
variable(k:Nat)(n1:Int)
noncomputable def aN.s:Sc (Bool):=(.bq 1 2 5 false (n1≥0) (.ret (decide (n1<=2147483647))) (.ret false))
theorem aN.ok:op k 102 ([.i n1],[]) (λv3=>(.b v3,[])) (aN.f k n1):=by apply oP (λ_=>aN.s n1) k
end
def cY.f:Nat->ag->Option (Bool)
 | 0,_=>none
 | k+1,x1=>((bb.f k x1.Module).bind λr9=>(if r9=true then((bb.f k x1.Name).bind λr11=>(if r11=true then((aN.f k x1.fType).bind λr13=>(some r13))else(some false)))else(some false)))
section
variable(k:Nat)(x1:ag)
noncomputable def cY.s:Sc (Bool):=(.cl 1 2 (bb.ok k x1.Module) λv10=>(.br 1 3 6 v10 (.cl 1 6 (bb.ok k x1.Name) λv12=>(.br 1 8 11 v12 (.cl 1 11 (aN.ok k x1.fType) λv14=>(.ret v14)) (.ret false))) (.ret false)))
theorem cY.ok:op k 100 ([.agp [.str x1.Module,.str x1.Name,.i x1.fType]],[]) (λv15=>(.b v15,[])) (cY.f k x1):=by apply oP (cY.s · x1) k
end
def dh.f:Nat->ag->Option (Bool)
 | 0,_=>none
 | k+1,x1=>((cY.f k x1).bind λr5=>(some (!r5)))
section
variable(k:Nat)(x1:ag)
noncomputable def dh.s:Sc (Bool):=(.cl 1 2 (cY.ok k x1) λv6=>(.ret (!v6)))
theorem dh.ok:op k 192 ([.agp [.str x1.Module,.str x1.Name,.i x1.fType],.p 0 1 0 0],[bp 1 [.fn 100 []]]) (λv7=>(.b v7,[bp 1 [.fn 100 []]])) (dh.f k x1):=by apply oP (dh.s · x1) k
end
def cp.b2(k:Nat)(s1:LIm):Int->Option (Int⊕(Unit⊕Int)):=λx40=>(if x40<(s1.length:Int)then((at? s1 x40).bind λe55=>((dh.f k e55).bind λr57=>(if r57=true then(some (.inr (.inr x40)))else(some (.inl (iadd .i64 x40 1))))))else(some (.inr (.inl ()))))
def cp.f:Nat->LIm->Option (Int)
 | 0,_=>none
 | k+1,s1=>(altB (loopS (cp.b2 k s1) k (0:Int)) (λ_=>(some (-1:Int))) (λx49=>(some x49)))
section
variable(k:Nat)(s1:LIm)
noncomputable def cp.s:Sc (Int):=(.rS 1 1 7 (lm ag.e s1) (.loop2 (V:=Int) (O:=Unit) (O2:=Int) 2 (0:Int) (λv50=>⟨mk 19 [(0,.l 3 ag.e s1),(1,.c (.fn 192 [.ptr 0 1 0 0])),(7,.i (s1.length:Int)),(8,.i v50)],[bp 1 [.fn 100 []]]⟩) (λv50=>(.bq 2 0 9 false (v50<(s1.length:Int)) (.op 4 3 (Rd.el ag.e s1 v50) λv56=>(.cl 4 5 (dh.ok k v56) λv58=>(.br 4 5 16 v58 (.ret (.inr (.inr v50))) (.ret (.inl (iadd .i64 v50 1)))))) (.ret (.inr (.inl ()))))) (.exit 0) (λv59=>⟨mk 19 [],[bp 1 [.fn 100 []]]⟩) (λv59=>(.ret (-1:Int))) .ret (λv60=>⟨mk 19 [(4,.i v60)],[bp 1 [.fn 100 []]]⟩) λv60=>(.ret v60)))
theorem cp.ok:op k 269 ([.l 3 ag.e s1,.c (.fn 192 [.ptr 0 1 0 0])],[bp 1 [.fn 100 []]]) (λv61=>(.i v61,[bp 1 [.fn 100 []]])) (cp.f k s1):=by apply oP (cp.s · s1) k
end
def co.f:Nat->LIm->Option (Bool)
 | 0,_=>none
 | k+1,s1=>((cp.f k s1).bind λr5=>(some (decide (r5≥0))))
section
variable(k:Nat)(s1:LIm)
noncomputable def co.s:Sc (Bool):=(.cl 1 2 (cp.ok k s1) λv6=>(.ret (decide (v6≥0))))
theorem co.ok:op k 191 ([.l 3 ag.e s1,.c (.fn 192 [.ptr 0 1 0 0])],[bp 1 [.fn 100 []]]) (λv7=>(.b v7,[bp 1 [.fn 100 []]])) (co.f k s1):=by apply oP (co.s · s1) k
end
def cP.f:Nat->LIm->Option (Bool)
 | 0,_=>none
 | k+1,l1=>((co.f k l1).bind λr5=>(some (!r5)))
section
variable(k:Nat)(l1:LIm)
noncomputable def cP.s:Sc (Bool):=(.cl 1 2 (co.ok k l1) λv6=>(.ret (!v6)))
theorem cP.ok:op k 99 ([.l 3 ag.e l1,.c (.v (.fn 100 []))],[]) (λv7=>(.b v7,[])) (cP.f k l1):=by apply oB (cP.s · l1) k
end
def bi.b3(k:Nat)(l1:LEx):(Int×(List (ByteArray×Int)))->Option ((Int×(List (ByteArray×Int)))⊕(Unit⊕Unit)):=λ(x184,h185)=>(if x184<(l1.length:Int)then(segB ((at? l1 x184).bind λe250=>(if e250.Kind=0 then(let y252:Int:=((mget sEq (mput sEq h185 e250.Name (iadd .i64 ((mget sEq h185 e250.Name).getD 0) 1)) e250.Name).getD 0);(if y252>1 then(some (.inr (.inr (.inr ()))))else((bb.f k e250.Name).bind λr254=>(if(!r254)=true then(some (.inr (.inr (.inr ()))))else((aN.f k e250.Index).bind λr256=>(if(!r256)=true then(some (.inr (.inr (.inr ()))))else(some (.inl (mput sEq h185 e250.Name (iadd .i64 ((mget sEq h185 e250.Name).getD 0) 1))))))))))else(if e250.Kind=2 then(let y258:Int:=((mget sEq (mput sEq h185 e250.Name (iadd .i64 ((mget sEq h185 e250.Name).getD 0) 1)) e250.Name).getD 0);(if y258>1 then(some (.inr (.inr (.inr ()))))else((bb.f k e250.Name).bind λr260=>(if(!r260)=true then(some (.inr (.inr (.inr ()))))else((aN.f k e250.Index).bind λr262=>(if(!r262)=true then(some (.inr (.inr (.inr ()))))else(some (.inl (mput sEq h185 e250.Name (iadd .i64 ((mget sEq h185 e250.Name).getD 0) 1))))))))))else(let y264:Int:=((mget sEq (mput sEq h185 e250.Name (iadd .i64 ((mget sEq h185 e250.Name).getD 0) 1)) e250.Name).getD 0);(if y264>1 then(some (.inr (.inr (.inr ()))))else((bb.f k e250.Name).bind λr266=>(if(!r266)=true then(some (.inr (.inr (.inr ()))))else(if e250.Kind=3 then((aN.f k e250.Index).bind λr268=>(if(!r268)=true then(some (.inr (.inr (.inr ()))))else(some (.inl (mput sEq h185 e250.Name (iadd .i64 ((mget sEq h185 e250.Name).getD 0) 1))))))else(some (.inr (.inr (.inr ())))))))))))) (λh249=>(some (.inl ((iadd .i64 x184 1),h249)))))else(some (.inr (.inl ()))))
def bi.f:Nat->LEx->Option (Bool)
 | 0,_=>none
 | k+1,l1=>(altB (loopS (bi.b3 k l1) k ((0:Int),([]:List (ByteArray×Int)))) (λ_=>(some true)) (λ_=>(some false)))
section
variable(k:Nat)(l1:LEx)
noncomputable def bi.s:Sc (Bool):=(.rS 2 1 9 (lm aa.e l1) (.loop2 (V:=Int×(List (ByteArray×Int))) (O:=Unit) (O2:=Unit) 3 ((0:Int),([]:List (ByteArray×Int))) (λv228=>⟨mk 54 [(3,.c (.mp 0)),(8,.l 3 aa.e l1),(9,.i (l1.length:Int)),(10,.i v228.1)],[some (.mp none (mE .str (.int .i64) v228.2))]⟩) (λv228=>(.bq 3 0 11 false (v228.1<(l1.length:Int)) (.seg (O:=List (ByteArray×Int)) 9 (.op 4 0 (Rd.el aa.e l1 v228.1) λv251=>(.rS 5 3 17 (ahq (.int .i64) v228.2 v251.Name 0) (.rB 5 5 0 (aoq (.int .i64) v228.2 v251.Name (iadd .i64 ((mget sEq v228.2 v251.Name).getD 0) 1)) (.bq 6 3 22 false (v251.Kind=0) (.rS 7 3 35 (ahq (.int .i64) (mput sEq v228.2 v251.Name (iadd .i64 ((mget sEq v228.2 v251.Name).getD 0) 1)) v251.Name 0) (.nm 7 3 35 .i64 ((mget sEq (mput sEq v228.2 v251.Name (iadd .i64 ((mget sEq v228.2 v251.Name).getD 0) 1)) v251.Name).getD 0) λv253=>(.bq 7 5 37 false (v253>1) (.ret (.inr (.inr (.inr ())))) (.cl 7 8 (bb.ok k v251.Name) λv255=>(.br 7 11 43 (!v255) (.ret (.inr (.inr (.inr ())))) (.cl 7 18 (aN.ok k v251.Index) λv257=>(.br 7 20 52 (!v257) (.ret (.inr (.inr (.inr ())))) (.ret (.inl (mput sEq v228.2 v251.Name (iadd .i64 ((mget sEq v228.2 v251.Name).getD 0) 1))))))))))) (.bq 6 8 27 false (v251.Kind=2) (.rS 7 3 35 (ahq (.int .i64) (mput sEq v228.2 v251.Name (iadd .i64 ((mget sEq v228.2 v251.Name).getD 0) 1)) v251.Name 0) (.nm 7 3 35 .i64 ((mget sEq (mput sEq v228.2 v251.Name (iadd .i64 ((mget sEq v228.2 v251.Name).getD 0) 1)) v251.Name).getD 0) λv259=>(.bq 7 5 37 false (v259>1) (.ret (.inr (.inr (.inr ())))) (.cl 7 8 (bb.ok k v251.Name) λv261=>(.br 7 11 43 (!v261) (.ret (.inr (.inr (.inr ())))) (.cl 7 18 (aN.ok k v251.Index) λv263=>(.br 7 20 52 (!v263) (.ret (.inr (.inr (.inr ())))) (.ret (.inl (mput sEq v228.2 v251.Name (iadd .i64 ((mget sEq v228.2 v251.Name).getD 0) 1))))))))))) (.rS 7 3 35 (ahq (.int .i64) (mput sEq v228.2 v251.Name (iadd .i64 ((mget sEq v228.2 v251.Name).getD 0) 1)) v251.Name 0) (.nm 7 3 35 .i64 ((mget sEq (mput sEq v228.2 v251.Name (iadd .i64 ((mget sEq v228.2 v251.Name).getD 0) 1)) v251.Name).getD 0) λv265=>(.bq 7 5 37 false (v265>1) (.ret (.inr (.inr (.inr ())))) (.cl 7 8 (bb.ok k v251.Name) λv267=>(.br 7 11 43 (!v267) (.ret (.inr (.inr (.inr ())))) (.bq 7 15 47 true (v251.Kind=3) (.cl 7 18 (aN.ok k v251.Index) λv269=>(.br 7 20 52 (!v269) (.ret (.inr (.inr (.inr ())))) (.ret (.inl (mput sEq v228.2 v251.Name (iadd .i64 ((mget sEq v228.2 v251.Name).getD 0) 1)))))) (.ret (.inr (.inr (.inr ()))))))))))))))) (λv270=>⟨mk 54 [(3,.c (.mp 0)),(8,.l 3 aa.e l1),(9,.i (l1.length:Int)),(10,.i v228.1)],[some (.mp none (mE .str (.int .i64) v270))]⟩) λv270=>(.ret (.inl ((iadd .i64 v228.1 1),v270)))) (.ret (.inr (.inl ()))))) (.exit 0) (λv271=>⟨mk 54 [],[]⟩) (λv271=>(.ret true)) .ret (λv272=>⟨mk 54 [(2,.b false)],[]⟩) λv272=>(.ret false)))
theorem bi.ok:op k 103 ([.l 3 aa.e l1],[]) (λv273=>(.b v273,[])) (bi.f k l1):=by apply oB (bi.s · l1) k
end
def cU.f:Nat->am->Option (Bool)
 | 0,_=>none
 | k+1,x1=>((bb.f k x1.Name).bind λr5=>(if r5=true then(some (decide ((x1.Bytes.length:Int)<=1048576)))else(some false)))
section
variable(k:Nat)(x1:am)
noncomputable def cU.s:Sc (Bool):=(.cl 1 2 (bb.ok k x1.Name) λv6=>(.br 1 3 6 v6 (.rS 1 6 9 (lm (eI .u8) x1.Bytes) (.ret (decide ((x1.Bytes.length:Int)<=1048576)))) (.ret false)))
theorem cU.ok:op k 105 ([.agp [.str x1.Name,.l 1 (eI .u8) x1.Bytes]],[]) (λv7=>(.b v7,[])) (cU.f k x1):=by apply oB (cU.s · x1) k
end
def de.f:Nat->am->Option (Bool)
 | 0,_=>none
 | k+1,x1=>((cU.f k x1).bind λr5=>(some (!r5)))
section
variable(k:Nat)(x1:am)
noncomputable def de.s:Sc (Bool):=(.cl 1 2 (cU.ok k x1) λv6=>(.ret (!v6)))
theorem de.ok:op k 195 ([.agp [.str x1.Name,.l 1 (eI .u8) x1.Bytes],.c (.v (.ref [.fn 105 []]))],[]) (λv7=>(.b v7,[])) (de.f k x1):=by apply oB (de.s · x1) k
end
def cy.b2(k:Nat)(s1:LCu):Int->Option (Int⊕(Unit⊕Int)):=λx40=>(if x40<(s1.length:Int)then((at? s1 x40).bind λe55=>((de.f k e55).bind λr57=>(if r57=true then(some (.inr (.inr x40)))else(some (.inl (iadd .i64 x40 1))))))else(some (.inr (.inl ()))))
def cy.f:Nat->LCu->Option (Int)
 | 0,_=>none
 | k+1,s1=>(altB (loopS (cy.b2 k s1) k (0:Int)) (λ_=>(some (-1:Int))) (λx49=>(some x49)))
section
variable(k:Nat)(s1:LCu)
noncomputable def cy.s:Sc (Int):=(.rS 1 1 7 (lm am.e s1) (.loop2 (V:=Int) (O:=Unit) (O2:=Int) 2 (0:Int) (λv50=>⟨mk 19 [(0,.l 2 am.e s1),(1,.c (.fn 195 [.ptr 0 1 0 0])),(7,.i (s1.length:Int)),(8,.i v50)],[bp 1 [.fn 105 []]]⟩) (λv50=>(.bq 2 0 9 false (v50<(s1.length:Int)) (.op 4 3 (Rd.el am.e s1 v50) λv56=>(.op 4 5 (Rd.bcall (args:=[.agp [.str v56.Name,.l 1 (eI .u8) v56.Bytes],.p 0 1 0 0]) (h:=[bp 1 [.fn 105 []]]) (de.ok k v56) rfl rfl (by kernel_rfl) rfl (by kernel_rfl)) λv58=>(.br 4 5 16 v58 (.ret (.inr (.inr v50))) (.ret (.inl (iadd .i64 v50 1)))))) (.ret (.inr (.inl ()))))) (.exit 0) (λv59=>⟨mk 19 [],[bp 1 [.fn 105 []]]⟩) (λv59=>(.ret (-1:Int))) .ret (λv60=>⟨mk 19 [(4,.i v60)],[bp 1 [.fn 105 []]]⟩) λv60=>(.ret v60)))
theorem cy.ok:op k 271 ([.l 2 am.e s1,.c (.fn 195 [.ptr 0 1 0 0])],[bp 1 [.fn 105 []]]) (λv61=>(.i v61,[bp 1 [.fn 105 []]])) (cy.f k s1):=by apply oP (cy.s · s1) k
end
def cn.f:Nat->LCu->Option (Bool)
 | 0,_=>none
 | k+1,s1=>((cy.f k s1).bind λr5=>(some (decide (r5≥0))))
section
variable(k:Nat)(s1:LCu)
noncomputable def cn.s:Sc (Bool):=(.cl 1 2 (cy.ok k s1) λv6=>(.ret (decide (v6≥0))))
theorem cn.ok:op k 194 ([.l 2 am.e s1,.c (.fn 195 [.ptr 0 1 0 0])],[bp 1 [.fn 105 []]]) (λv7=>(.b v7,[bp 1 [.fn 105 []]])) (cn.f k s1):=by apply oP (cn.s · s1) k
end
def cI.f:Nat->LCu->Option (Bool)
 | 0,_=>none
 | k+1,l1=>((cn.f k l1).bind λr5=>(some (!r5)))
section
variable(k:Nat)(l1:LCu)
noncomputable def cI.s:Sc (Bool):=(.cl 1 2 (cn.ok k l1) λv6=>(.ret (!v6)))
theorem cI.ok:op k 104 ([.l 2 am.e l1,.c (.v (.fn 105 []))],[]) (λv7=>(.b v7,[])) (cI.f k l1):=by apply oB (cI.s · l1) k
end
def bF.f:Nat->Int->Option (Int×Int×Bool×Bool)
 | 0,_=>none
 | k+1,op1=>(segB (if op1=40 then(some (.inl true))else(if op1=54 then(some (.inl true))else(some (.inl false)))) (λx54=>(if x54=true then(some ((4:Int),(127:Int),false,true))else(segB (if op1=41 then(some (.inl true))else(if op1=55 then(some (.inl true))else(some (.inl false)))) (λx56=>(if x56=true then(some ((8:Int),(126:Int),false,true))else(segB (if op1=43 then(some (.inl true))else(if op1=57 then(some (.inl true))else(some (.inl false)))) (λx58=>(if x58=true then(some ((8:Int),(124:Int),false,true))else(if op1=44 then(some ((1:Int),(127:Int),true,true))else(segB (if op1=45 then(some (.inl true))else(if op1=58 then(some (.inl true))else(some (.inl false)))) (λx60=>(if x60=true then(some ((1:Int),(127:Int),false,true))else(if op1=46 then(some ((2:Int),(127:Int),true,true))else(segB (if op1=47 then(some (.inl true))else(if op1=59 then(some (.inl true))else(some (.inl false)))) (λx62=>(if x62=true then(some ((2:Int),(127:Int),false,true))else(if op1=48 then(some ((1:Int),(126:Int),true,true))else(segB (if op1=49 then(some (.inl true))else(if op1=60 then(some (.inl true))else(some (.inl false)))) (λx64=>(if x64=true then(some ((1:Int),(126:Int),false,true))else(if op1=50 then(some ((2:Int),(126:Int),true,true))else(segB (if op1=51 then(some (.inl true))else(if op1=61 then(some (.inl true))else(some (.inl false)))) (λx66=>(if x66=true then(some ((2:Int),(126:Int),false,true))else(if op1=52 then(some ((4:Int),(126:Int),true,true))else(segB (if op1=53 then(some (.inl true))else(if op1=62 then(some (.inl true))else(some (.inl false)))) (λx68=>(if x68=true then(some ((4:Int),(126:Int),false,true))else(some ((0:Int),(0:Int),false,false)))))))))))))))))))))))))))))))
section
variable(k:Nat)(op1:Int)
noncomputable def bF.s:Sc (Int×Int×Bool×Bool):=(.seg (O:=Bool) 20000070000002 (.bq 2 1 7 false (op1=40) (.ret (.inl true)) (.bq 3 1 7 false (op1=54) (.ret (.inl true)) (.ret (.inl false)))) (λv55=>⟨mk 41 [(6,.i op1),(7,.b v55)],[]⟩) λv55=>(.br 2000007 900 7 v55 (.ret ((4:Int),(127:Int),false,true)) (.seg (O:=Bool) 20000100000005 (.bq 5 1 10 false (op1=41) (.ret (.inl true)) (.bq 6 1 10 false (op1=55) (.ret (.inl true)) (.ret (.inl false)))) (λv57=>⟨mk 41 [(6,.i op1),(10,.b v57)],[]⟩) λv57=>(.br 2000010 900 10 v57 (.ret ((8:Int),(126:Int),false,true)) (.seg (O:=Bool) 20000130000008 (.bq 8 1 13 false (op1=43) (.ret (.inl true)) (.bq 9 1 13 false (op1=57) (.ret (.inl true)) (.ret (.inl false)))) (λv59=>⟨mk 41 [(6,.i op1),(13,.b v59)],[]⟩) λv59=>(.br 2000013 900 13 v59 (.ret ((8:Int),(124:Int),false,true)) (.bq 11 1 16 false (op1=44) (.ret ((1:Int),(127:Int),true,true)) (.seg (O:=Bool) 20000180000013 (.bq 13 1 18 false (op1=45) (.ret (.inl true)) (.bq 14 1 18 false (op1=58) (.ret (.inl true)) (.ret (.inl false)))) (λv61=>⟨mk 41 [(6,.i op1),(18,.b v61)],[]⟩) λv61=>(.br 2000018 900 18 v61 (.ret ((1:Int),(127:Int),false,true)) (.bq 16 1 21 false (op1=46) (.ret ((2:Int),(127:Int),true,true)) (.seg (O:=Bool) 20000230000018 (.bq 18 1 23 false (op1=47) (.ret (.inl true)) (.bq 19 1 23 false (op1=59) (.ret (.inl true)) (.ret (.inl false)))) (λv63=>⟨mk 41 [(6,.i op1),(23,.b v63)],[]⟩) λv63=>(.br 2000023 900 23 v63 (.ret ((2:Int),(127:Int),false,true)) (.bq 21 1 26 false (op1=48) (.ret ((1:Int),(126:Int),true,true)) (.seg (O:=Bool) 20000280000023 (.bq 23 1 28 false (op1=49) (.ret (.inl true)) (.bq 24 1 28 false (op1=60) (.ret (.inl true)) (.ret (.inl false)))) (λv65=>⟨mk 41 [(6,.i op1),(28,.b v65)],[]⟩) λv65=>(.br 2000028 900 28 v65 (.ret ((1:Int),(126:Int),false,true)) (.bq 26 1 31 false (op1=50) (.ret ((2:Int),(126:Int),true,true)) (.seg (O:=Bool) 20000330000028 (.bq 28 1 33 false (op1=51) (.ret (.inl true)) (.bq 29 1 33 false (op1=61) (.ret (.inl true)) (.ret (.inl false)))) (λv67=>⟨mk 41 [(6,.i op1),(33,.b v67)],[]⟩) λv67=>(.br 2000033 900 33 v67 (.ret ((2:Int),(126:Int),false,true)) (.bq 31 1 36 false (op1=52) (.ret ((4:Int),(126:Int),true,true)) (.seg (O:=Bool) 20000380000033 (.bq 33 1 38 false (op1=53) (.ret (.inl true)) (.bq 34 1 38 false (op1=62) (.ret (.inl true)) (.ret (.inl false)))) (λv69=>⟨mk 41 [(6,.i op1),(38,.b v69)],[]⟩) λv69=>(.br 2000038 900 38 v69 (.ret ((4:Int),(126:Int),false,true)) (.ret ((0:Int),(0:Int),false,false)))))))))))))))))))))))
theorem bF.ok:op k 177 ([.i op1],[]) (λv70=>(.tup [.i v70.1,.i v70.q1,.b v70.q2,.b v70.l3],[])) (bF.f k op1):=by apply oP (λ_=>bF.s op1) k
end
def dk.f:Nat->Int->Option (Int×Bool)
 | 0,_=>none
 | k+1,op1=>(if op1=65 then(some ((127:Int),true))else(if op1=66 then(some ((126:Int),true))else(if op1=68 then(some ((124:Int),true))else(some ((0:Int),false)))))
section
variable(k:Nat)(op1:Int)
noncomputable def dk.s:Sc (Int×Bool):=(.bq 2 1 5 false (op1=65) (.ret ((127:Int),true)) (.bq 4 1 7 false (op1=66) (.ret ((126:Int),true)) (.bq 6 1 9 false (op1=68) (.ret ((124:Int),true)) (.ret ((0:Int),false)))))
theorem dk.ok:op k 178 ([.i op1],[]) (λv4=>(.tup [.i v4.1,.b v4.2],[])) (dk.f k op1):=by apply oP (λ_=>dk.s op1) k
end
def dj.f:Nat->Int->Option (Bool)
 | 0,_=>none
 | k+1,op1=>(if op1≥2 then(some (decide (op1<=4)))else(some false))
section
variable(k:Nat)(op1:Int)
noncomputable def dj.s:Sc (Bool):=(.bq 1 2 5 false (op1≥2) (.ret (decide (op1<=4))) (.ret false))
theorem dj.ok:op k 179 ([.i op1],[]) (λv3=>(.b v3,[])) (dj.f k op1):=by apply oP (λ_=>dj.s op1) k
end
def av.f:Nat->Int->Int->Option (Bool)
 | 0,_,_=>none
 | k+1,n1,most2=>(if n1≥0 then(some (decide (n1<most2)))else(some false))
section
variable(k:Nat)(n1 most2:Int)
noncomputable def av.s:Sc (Bool):=(.bq 1 2 7 false (n1≥0) (.ret (decide (n1<most2))) (.ret false))
theorem av.ok:op k 85 ([.i n1,.i most2],[]) (λv4=>(.b v4,[])) (av.f k n1 most2):=by apply oP (λ_=>av.s n1 most2) k
end
def cg.f:Nat->Int->Option (Bool)
 | 0,_=>none
 | k+1,n1=>((av.f k n1 (65:Int)).bind λr5=>(some (!r5)))
section
variable(k:Nat)(n1:Int)
noncomputable def cg.s:Sc (Bool):=(.cl 1 1 (av.ok k n1 (65:Int)) λv6=>(.ret (!v6)))
theorem cg.ok:op k 181 ([.i n1],[]) (λv7=>(.b v7,[])) (cg.f k n1):=by apply oP (cg.s · n1) k
end
def bK.b2(k:Nat)(s1:LI):Int->Option (Int⊕(Unit⊕Int)):=λx40=>(if x40<(s1.length:Int)then((at? s1 x40).bind λe55=>((cg.f k e55).bind λr57=>(if r57=true then(some (.inr (.inr x40)))else(some (.inl (iadd .i64 x40 1))))))else(some (.inr (.inl ()))))
def bK.f:Nat->LI->Option (Int)
 | 0,_=>none
 | k+1,s1=>(altB (loopS (bK.b2 k s1) k (0:Int)) (λ_=>(some (-1:Int))) (λx49=>(some x49)))
section
variable(k:Nat)(s1:LI)
noncomputable def bK.s:Sc (Int):=(.rS 1 1 7 (lm (eI .i64) s1) (.loop2 (V:=Int) (O:=Unit) (O2:=Int) 2 (0:Int) (λv50=>⟨mk 19 [(0,.l 1 (eI .i64) s1),(1,.c (.v (.fn 181 []))),(7,.i (s1.length:Int)),(8,.i v50)],[]⟩) (λv50=>(.bq 2 0 9 false (v50<(s1.length:Int)) (.op 4 3 (Rd.el (eI .i64) s1 v50) λv56=>(.cl 4 5 (cg.ok k v56) λv58=>(.br 4 5 16 v58 (.ret (.inr (.inr v50))) (.ret (.inl (iadd .i64 v50 1)))))) (.ret (.inr (.inl ()))))) (.exit 0) (λv59=>⟨mk 19 [],[]⟩) (λv59=>(.ret (-1:Int))) .ret (λv60=>⟨mk 19 [(4,.i v60)],[]⟩) λv60=>(.ret v60)))
theorem bK.ok:op k 264 ([.l 1 (eI .i64) s1,.c (.v (.fn 181 []))],[]) (λv61=>(.i v61,[])) (bK.f k s1):=by apply oB (bK.s · s1) k
end
def bD.f:Nat->LI->Option (Bool)
 | 0,_=>none
 | k+1,s1=>((bK.f k s1).bind λr5=>(some (decide (r5≥0))))
section
variable(k:Nat)(s1:LI)
noncomputable def bD.s:Sc (Bool):=(.cl 1 2 (bK.ok k s1) λv6=>(.ret (decide (v6≥0))))
theorem bD.ok:op k 180 ([.l 1 (eI .i64) s1,.c (.v (.fn 181 []))],[]) (λv7=>(.b v7,[])) (bD.f k s1):=by apply oB (bD.s · s1) k
end
def cD.f:Nat->aj->Option (ao×Bool)
 | 0,_=>none
 | k+1,i1=>((bF.f k i1.Op).bind λ(r84,r85,r86,r87)=>((dk.f k i1.Op).bind λ(r89,r90)=>((dj.f k i1.Op).bind λr96=>(if r96=true then(if i1.A≥(-4)then(some ((ao.mk true false false false),(decide (i1.A<64))))else(some ((ao.mk true false false false),false)))else(if r87=true then((av.f k i1.A (4:Int)).bind λr98=>(if r98=true then(some ((ao.mk true false true false),(decide (i1.N<=4294967295))))else(some ((ao.mk true false true false),false))))else(if r90=true then(if i1.Op=65 then(some ((ao.mk false false true false),(decide (i1.N<=4294967295))))else(some ((ao.mk false false true false),true)))else(segB (if i1.Op=12 then(some (.inl true))else(if i1.Op=13 then(some (.inl true))else(some (.inl false)))) (λx132=>(if x132=true then((av.f k i1.A (65:Int)).bind λr134=>(some ((ao.mk true false false false),r134)))else(if i1.Op=14 then(if(i1.L.length:Int)≥1 then(if(i1.L.length:Int)<=17 then((bD.f k i1.L).bind λr136=>(some ((ao.mk false false false true),(!r136))))else(some ((ao.mk false false false true),false)))else(some ((ao.mk false false false true),false)))else(segB (if i1.Op=16 then(some (.inl true))else(if i1.Op=18 then(some (.inl true))else(some (.inl false)))) (λx138=>(if x138=true then((av.f k i1.A (256:Int)).bind λr140=>(some ((ao.mk true false false false),r140)))else(segB (if i1.Op=32 then(some (.inl true))else(if i1.Op=33 then(some (.inl true))else(if i1.Op=34 then(some (.inl true))else(some (.inl false))))) (λx142=>(if x142=true then((av.f k i1.A (256:Int)).bind λr144=>(some ((ao.mk true false false false),r144)))else(segB (if i1.Op=35 then(some (.inl true))else(if i1.Op=36 then(some (.inl true))else(some (.inl false)))) (λx146=>(if x146=true then((av.f k i1.A (256:Int)).bind λr148=>(some ((ao.mk true false false false),r148)))else(segB (if i1.Op=63 then(some (.inl true))else(if i1.Op=64 then(some (.inl true))else(if i1.Op=64523 then(some (.inl true))else(some (.inl false))))) (λx150=>(if x150=true then((av.f k i1.A (4:Int)).bind λr152=>(some ((ao.mk true false false false),r152)))else(if i1.Op=64520 then((av.f k i1.A (4:Int)).bind λr154=>(if r154=true then((av.f k i1.B (16:Int)).bind λr156=>(some ((ao.mk true true false false),r156)))else(some ((ao.mk true true false false),false))))else(if i1.Op=64521 then((av.f k i1.A (16:Int)).bind λr158=>(some ((ao.mk true false false false),r158)))else(if i1.Op=64522 then((av.f k i1.A (4:Int)).bind λr160=>(if r160=true then((av.f k i1.B (4:Int)).bind λr162=>(some ((ao.mk true true false false),r162)))else(some ((ao.mk true true false false),false))))else(some ((ao.mk false false false false),true)))))))))))))))))))))))))))
section
variable(k:Nat)(i1:aj)
noncomputable def cD.s:Sc (ao×Bool):=(.cl 1 2 (bF.ok k i1.Op) λv88=>(.cl 2 2 (dk.ok k i1.Op) λv91=>(.cl 3 2 (dj.ok k i1.Op) λv97=>(.br 3 3 24 v97 (.bq 4 4 32 false (i1.A≥(-4)) (.ret ((ao.mk true false false false),(decide (i1.A<64)))) (.ret ((ao.mk true false false false),false))) (.br 5 1 37 v88.l3 (.cl 6 3 (av.ok k i1.A (4:Int)) λv99=>(.br 6 4 43 v99 (.ret ((ao.mk true false true false),(decide (i1.N<=4294967295)))) (.ret ((ao.mk true false true false),false)))) (.br 7 1 48 v91.2 (.bq 8 4 54 true (i1.Op=65) (.ret ((ao.mk false false true false),(decide (i1.N<=4294967295)))) (.ret ((ao.mk false false true false),true))) (.seg (O:=Bool) 20000610000010 (.bq 10 1 61 false (i1.Op=12) (.ret (.inl true)) (.bq 11 1 61 false (i1.Op=13) (.ret (.inl true)) (.ret (.inl false)))) (λv133=>⟨mk 146 [(1,.p 0 5 0 0),(2,.p 1 4 0 0),(60,.i i1.Op),(61,.b v133)],[bp 5 [.i i1.Op,.i i1.A,.i i1.B,.int .u64 i1.N,.l 1 (eI .i64) i1.L],bp 4 [.bool false,.bool false,.bool false,.bool false]]⟩) λv133=>(.br 2000061 900 61 v133 (.cl 12 3 (av.ok k i1.A (65:Int)) λv135=>(.ret ((ao.mk true false false false),v135))) (.bq 13 1 68 false (i1.Op=14) (.rS 14 3 73 (lm (eI .i64) i1.L) (.bq 14 5 75 false ((i1.L.length:Int)≥1) (.rS 14 8 78 (lm (eI .i64) i1.L) (.bq 14 11 81 false ((i1.L.length:Int)<=17) (.cl 14 14 (bD.ok k i1.L) λv137=>(.ret ((ao.mk false false false true),(!v137)))) (.ret ((ao.mk false false false true),false)))) (.ret ((ao.mk false false false true),false)))) (.seg (O:=Bool) 20000870000015 (.bq 15 1 87 false (i1.Op=16) (.ret (.inl true)) (.bq 16 1 87 false (i1.Op=18) (.ret (.inl true)) (.ret (.inl false)))) (λv139=>⟨mk 146 [(1,.p 0 5 0 0),(2,.p 1 4 0 0),(60,.i i1.Op),(87,.b v139)],[bp 5 [.i i1.Op,.i i1.A,.i i1.B,.int .u64 i1.N,.l 1 (eI .i64) i1.L],bp 4 [.bool false,.bool false,.bool false,.bool false]]⟩) λv139=>(.br 2000087 900 87 v139 (.cl 17 3 (av.ok k i1.A (256:Int)) λv141=>(.ret ((ao.mk true false false false),v141))) (.seg (O:=Bool) 20000940000018 (.bq 18 1 94 false (i1.Op=32) (.ret (.inl true)) (.bq 19 1 94 false (i1.Op=33) (.ret (.inl true)) (.bq 20 1 94 false (i1.Op=34) (.ret (.inl true)) (.ret (.inl false))))) (λv143=>⟨mk 146 [(1,.p 0 5 0 0),(2,.p 1 4 0 0),(60,.i i1.Op),(94,.b v143)],[bp 5 [.i i1.Op,.i i1.A,.i i1.B,.int .u64 i1.N,.l 1 (eI .i64) i1.L],bp 4 [.bool false,.bool false,.bool false,.bool false]]⟩) λv143=>(.br 2000094 900 94 v143 (.cl 21 3 (av.ok k i1.A (256:Int)) λv145=>(.ret ((ao.mk true false false false),v145))) (.seg (O:=Bool) 20001020000022 (.bq 22 1 102 false (i1.Op=35) (.ret (.inl true)) (.bq 23 1 102 false (i1.Op=36) (.ret (.inl true)) (.ret (.inl false)))) (λv147=>⟨mk 146 [(1,.p 0 5 0 0),(2,.p 1 4 0 0),(60,.i i1.Op),(102,.b v147)],[bp 5 [.i i1.Op,.i i1.A,.i i1.B,.int .u64 i1.N,.l 1 (eI .i64) i1.L],bp 4 [.bool false,.bool false,.bool false,.bool false]]⟩) λv147=>(.br 2000102 900 102 v147 (.cl 24 3 (av.ok k i1.A (256:Int)) λv149=>(.ret ((ao.mk true false false false),v149))) (.seg (O:=Bool) 20001090000025 (.bq 25 1 109 false (i1.Op=63) (.ret (.inl true)) (.bq 26 1 109 false (i1.Op=64) (.ret (.inl true)) (.bq 27 1 109 false (i1.Op=64523) (.ret (.inl true)) (.ret (.inl false))))) (λv151=>⟨mk 146 [(1,.p 0 5 0 0),(2,.p 1 4 0 0),(60,.i i1.Op),(109,.b v151)],[bp 5 [.i i1.Op,.i i1.A,.i i1.B,.int .u64 i1.N,.l 1 (eI .i64) i1.L],bp 4 [.bool false,.bool false,.bool false,.bool false]]⟩) λv151=>(.br 2000109 900 109 v151 (.cl 28 3 (av.ok k i1.A (4:Int)) λv153=>(.ret ((ao.mk true false false false),v153))) (.bq 29 1 117 false (i1.Op=64520) (.cl 30 3 (av.ok k i1.A (4:Int)) λv155=>(.br 30 4 123 v155 (.cl 30 7 (av.ok k i1.B (16:Int)) λv157=>(.ret ((ao.mk true true false false),v157))) (.ret ((ao.mk true true false false),false)))) (.bq 31 1 128 false (i1.Op=64521) (.cl 32 3 (av.ok k i1.A (16:Int)) λv159=>(.ret ((ao.mk true false false false),v159))) (.bq 33 1 134 false (i1.Op=64522) (.cl 34 3 (av.ok k i1.A (4:Int)) λv161=>(.br 34 4 140 v161 (.cl 34 7 (av.ok k i1.B (4:Int)) λv163=>(.ret ((ao.mk true true false false),v163))) (.ret ((ao.mk true true false false),false)))) (.ret ((ao.mk false false false false),true))))))))))))))))))))))
theorem cD.ok:op k 88 ([.agp [.i i1.Op,.i i1.A,.i i1.B,.int .u64 i1.N,.l 1 (eI .i64) i1.L]],[]) (λv164=>(.tup [.agp [.bool v164.1.a,.bool v164.1.b,.bool v164.1.n,.bool v164.1.l],.b v164.2],[])) (cD.f k i1):=by apply oP (cD.s · i1) k
end
def bZ.f:Nat->Int->Int->Int->Option (Bool)
 | 0,_,_,_=>none
 | k+1,op1,from2,to3=>(if op1≥from2 then(some (decide (op1<=to3)))else(some false))
section
variable(k:Nat)(op1 from2 to3:Int)
noncomputable def bZ.s:Sc (Bool):=(.bq 1 3 10 false (op1≥from2) (.ret (decide (op1<=to3))) (.ret false))
theorem bZ.ok:op k 265 ([.i op1,.i from2,.i to3],[]) (λv5=>(.b v5,[])) (bZ.f k op1 from2 to3):=by apply oP (λ_=>bZ.s op1 from2 to3) k
end
def ez.f:Nat->Int->Option (Bool)
 | 0,_=>none
 | k+1,op1=>((bZ.f k op1 (69:Int) (90:Int)).bind λr9=>(if r9=true then(some true)else((bZ.f k op1 (103:Int) (138:Int)).bind λr11=>(if r11=true then(some true)else(if op1=167 then(some true)else(if op1=172 then(some true)else(if op1=173 then(some true)else((bZ.f k op1 (192:Int) (196:Int)).bind λr13=>(some r13)))))))))
section
variable(k:Nat)(op1:Int)
noncomputable def ez.s:Sc (Bool):=(.cl 1 1 (bZ.ok k op1 (69:Int) (90:Int)) λv10=>(.br 1 2 5 v10 (.ret true) (.cl 1 4 (bZ.ok k op1 (103:Int) (138:Int)) λv12=>(.br 1 6 9 v12 (.ret true) (.bq 1 10 13 false (op1=167) (.ret true) (.bq 1 14 17 false (op1=172) (.ret true) (.bq 1 18 21 false (op1=173) (.ret true) (.cl 1 20 (bZ.ok k op1 (192:Int) (196:Int)) λv14=>(.ret v14)))))))))
theorem ez.ok:op k 182 ([.i op1],[]) (λv15=>(.b v15,[])) (ez.f k op1):=by apply oP (ez.s · op1) k
end
def dV.f:Nat->Int->Option (Bool)
 | 0,_=>none
 | k+1,op1=>(segB (if op1=170 then(some (.inl true))else(if op1=171 then(some (.inl true))else(if op1=176 then(some (.inl true))else(if op1=177 then(some (.inl true))else(if op1=183 then(some (.inl true))else(if op1=184 then(some (.inl true))else(if op1=185 then(some (.inl true))else(if op1=186 then(some (.inl true))else(if op1=189 then(some (.inl true))else(if op1=191 then(some (.inl true))else(if op1=64514 then(some (.inl true))else(if op1=64515 then(some (.inl true))else(if op1=64518 then(some (.inl true))else(if op1=64519 then(some (.inl true))else(some (.inl false)))))))))))))))) (λx9=>(if x9=true then(some true)else(if op1≥97 then(if op1<=102 then(some true)else(if op1≥153 then(some (decide (op1<=166)))else(some false)))else(if op1≥153 then(some (decide (op1<=166)))else(some false))))))
section
variable(k:Nat)(op1:Int)
noncomputable def dV.s:Sc (Bool):=(.seg (O:=Bool) 20000040000002 (.bq 2 1 4 false (op1=170) (.ret (.inl true)) (.bq 3 1 4 false (op1=171) (.ret (.inl true)) (.bq 4 1 4 false (op1=176) (.ret (.inl true)) (.bq 5 1 4 false (op1=177) (.ret (.inl true)) (.bq 6 1 4 false (op1=183) (.ret (.inl true)) (.bq 7 1 4 false (op1=184) (.ret (.inl true)) (.bq 8 1 4 false (op1=185) (.ret (.inl true)) (.bq 9 1 4 false (op1=186) (.ret (.inl true)) (.bq 10 1 4 false (op1=189) (.ret (.inl true)) (.bq 11 1 4 false (op1=191) (.ret (.inl true)) (.bq 12 1 4 false (op1=64514) (.ret (.inl true)) (.bq 13 1 4 false (op1=64515) (.ret (.inl true)) (.bq 14 1 4 false (op1=64518) (.ret (.inl true)) (.bq 15 1 4 false (op1=64519) (.ret (.inl true)) (.ret (.inl false)))))))))))))))) (λv10=>⟨mk 33 [(0,.i op1),(3,.i op1),(4,.b v10)],[]⟩) λv10=>(.br 2000004 900 4 v10 (.ret true) (.bq 17 2 21 false (op1≥97) (.bq 17 6 25 false (op1<=102) (.ret true) (.bq 17 9 28 false (op1≥153) (.ret (decide (op1<=166))) (.ret false))) (.bq 17 9 28 false (op1≥153) (.ret (decide (op1<=166))) (.ret false)))))
theorem dV.ok:op k 183 ([.i op1],[]) (λv11=>(.b v11,[])) (dV.f k op1):=by apply oP (λ_=>dV.s op1) k
end
def cS.f:Nat->Int->Option (Bool)
 | 0,_=>none
 | k+1,op1=>(segB (if op1=0 then(some (.inl true))else(if op1=1 then(some (.inl true))else(if op1=5 then(some (.inl true))else(if op1=11 then(some (.inl true))else(if op1=12 then(some (.inl true))else(if op1=13 then(some (.inl true))else(if op1=14 then(some (.inl true))else(if op1=15 then(some (.inl true))else(if op1=16 then(some (.inl true))else(if op1=18 then(some (.inl true))else(if op1=26 then(some (.inl true))else(if op1=27 then(some (.inl true))else(if op1=32 then(some (.inl true))else(if op1=33 then(some (.inl true))else(if op1=34 then(some (.inl true))else(if op1=35 then(some (.inl true))else(if op1=36 then(some (.inl true))else(if op1=63 then(some (.inl true))else(if op1=64 then(some (.inl true))else(if op1=64520 then(some (.inl true))else(if op1=64521 then(some (.inl true))else(if op1=64522 then(some (.inl true))else(if op1=64523 then(some (.inl true))else(some (.inl false))))))))))))))))))))))))) (λx23=>(if x23=true then(some true)else((bF.f k op1).bind λ(r25,r26,r27,r28)=>((dk.f k op1).bind λ(r30,r31)=>((ez.f k op1).bind λr33=>(if r33=true then(some true)else((dV.f k op1).bind λr35=>(if r35=true then(some true)else(if r28=true then(some true)else(if r31=true then(some true)else((dj.f k op1).bind λr37=>(some r37)))))))))))))
section
variable(k:Nat)(op1:Int)
noncomputable def cS.s:Sc (Bool):=(.seg (O:=Bool) 20000100000002 (.bq 2 1 10 false (op1=0) (.ret (.inl true)) (.bq 3 1 10 false (op1=1) (.ret (.inl true)) (.bq 4 1 10 false (op1=5) (.ret (.inl true)) (.bq 5 1 10 false (op1=11) (.ret (.inl true)) (.bq 6 1 10 false (op1=12) (.ret (.inl true)) (.bq 7 1 10 false (op1=13) (.ret (.inl true)) (.bq 8 1 10 false (op1=14) (.ret (.inl true)) (.bq 9 1 10 false (op1=15) (.ret (.inl true)) (.bq 10 1 10 false (op1=16) (.ret (.inl true)) (.bq 11 1 10 false (op1=18) (.ret (.inl true)) (.bq 12 1 10 false (op1=26) (.ret (.inl true)) (.bq 13 1 10 false (op1=27) (.ret (.inl true)) (.bq 14 1 10 false (op1=32) (.ret (.inl true)) (.bq 15 1 10 false (op1=33) (.ret (.inl true)) (.bq 16 1 10 false (op1=34) (.ret (.inl true)) (.bq 17 1 10 false (op1=35) (.ret (.inl true)) (.bq 18 1 10 false (op1=36) (.ret (.inl true)) (.bq 19 1 10 false (op1=63) (.ret (.inl true)) (.bq 20 1 10 false (op1=64) (.ret (.inl true)) (.bq 21 1 10 false (op1=64520) (.ret (.inl true)) (.bq 22 1 10 false (op1=64521) (.ret (.inl true)) (.bq 23 1 10 false (op1=64522) (.ret (.inl true)) (.bq 24 1 10 false (op1=64523) (.ret (.inl true)) (.ret (.inl false))))))))))))))))))))))))) (λv24=>⟨mk 62 [(0,.i op1),(9,.i op1),(10,.b v24)],[]⟩) λv24=>(.br 2000010 900 10 v24 (.ret true) (.cl 26 1 (bF.ok k op1) λv29=>(.cl 27 1 (dk.ok k op1) λv32=>(.cl 28 1 (ez.ok k op1) λv34=>(.br 28 2 48 v34 (.ret true) (.cl 28 4 (dV.ok k op1) λv36=>(.br 28 6 52 v36 (.ret true) (.br 28 9 55 v29.l3 (.ret true) (.br 28 12 58 v32.2 (.ret true) (.cl 28 14 (dj.ok k op1) λv38=>(.ret v38))))))))))))
theorem cS.ok:op k 89 ([.i op1],[]) (λv39=>(.b v39,[])) (cS.f k op1):=by apply oP (cS.s · op1) k
end
def dz.f:Nat->aj->Option (Bool)
 | 0,_=>none
 | k+1,i1=>((cD.f k i1).bind λ(r8,r9)=>((cS.f k i1.Op).bind λr11=>(if r11=true then(if r9=true then(if r8.a=true then(if r8.b=true then(if r8.n=true then(if r8.l=true then(some true)else(some (decide ((i1.L.length:Int)=0))))else(if i1.N=0 then(if r8.l=true then(some true)else(some (decide ((i1.L.length:Int)=0))))else(some false)))else(if i1.B=0 then(if r8.n=true then(if r8.l=true then(some true)else(some (decide ((i1.L.length:Int)=0))))else(if i1.N=0 then(if r8.l=true then(some true)else(some (decide ((i1.L.length:Int)=0))))else(some false)))else(some false)))else(if i1.A=0 then(if r8.b=true then(if r8.n=true then(if r8.l=true then(some true)else(some (decide ((i1.L.length:Int)=0))))else(if i1.N=0 then(if r8.l=true then(some true)else(some (decide ((i1.L.length:Int)=0))))else(some false)))else(if i1.B=0 then(if r8.n=true then(if r8.l=true then(some true)else(some (decide ((i1.L.length:Int)=0))))else(if i1.N=0 then(if r8.l=true then(some true)else(some (decide ((i1.L.length:Int)=0))))else(some false)))else(some false)))else(some false)))else(some false))else(some false))))
section
variable(k:Nat)(i1:aj)
noncomputable def dz.s:Sc (Bool):=(.cl 1 1 (cD.ok k i1) λv10=>(.cl 2 2 (cS.ok k i1.Op) λv12=>(.br 2 3 13 v12 (.br 2 6 16 v10.2 (.br 2 9 19 v10.1.a (.br 2 18 28 v10.1.b (.br 2 27 37 v10.1.n (.br 2 36 46 v10.1.l (.ret true) (.rS 2 39 49 (lm (eI .i64) i1.L) (.ret (decide ((i1.L.length:Int)=0))))) (.bq 2 33 43 false (i1.N=0) (.br 2 36 46 v10.1.l (.ret true) (.rS 2 39 49 (lm (eI .i64) i1.L) (.ret (decide ((i1.L.length:Int)=0))))) (.ret false))) (.bq 2 24 34 false (i1.B=0) (.br 2 27 37 v10.1.n (.br 2 36 46 v10.1.l (.ret true) (.rS 2 39 49 (lm (eI .i64) i1.L) (.ret (decide ((i1.L.length:Int)=0))))) (.bq 2 33 43 false (i1.N=0) (.br 2 36 46 v10.1.l (.ret true) (.rS 2 39 49 (lm (eI .i64) i1.L) (.ret (decide ((i1.L.length:Int)=0))))) (.ret false))) (.ret false))) (.bq 2 15 25 false (i1.A=0) (.br 2 18 28 v10.1.b (.br 2 27 37 v10.1.n (.br 2 36 46 v10.1.l (.ret true) (.rS 2 39 49 (lm (eI .i64) i1.L) (.ret (decide ((i1.L.length:Int)=0))))) (.bq 2 33 43 false (i1.N=0) (.br 2 36 46 v10.1.l (.ret true) (.rS 2 39 49 (lm (eI .i64) i1.L) (.ret (decide ((i1.L.length:Int)=0))))) (.ret false))) (.bq 2 24 34 false (i1.B=0) (.br 2 27 37 v10.1.n (.br 2 36 46 v10.1.l (.ret true) (.rS 2 39 49 (lm (eI .i64) i1.L) (.ret (decide ((i1.L.length:Int)=0))))) (.bq 2 33 43 false (i1.N=0) (.br 2 36 46 v10.1.l (.ret true) (.rS 2 39 49 (lm (eI .i64) i1.L) (.ret (decide ((i1.L.length:Int)=0))))) (.ret false))) (.ret false))) (.ret false))) (.ret false)) (.ret false))))
theorem dz.ok:op k 27 ([.agp [.i i1.Op,.i i1.A,.i i1.B,.int .u64 i1.N,.l 1 (eI .i64) i1.L]],[]) (λv13=>(.b v13,[])) (dz.f k i1):=by apply oB (dz.s · i1) k
end
def cV.f:Nat->aj->Option (Bool)
 | 0,_=>none
 | k+1,i1=>((dz.f k i1).bind λr5=>(some (!r5)))
section
variable(k:Nat)(i1:aj)
noncomputable def cV.s:Sc (Bool):=(.cl 1 1 (dz.ok k i1) λv6=>(.ret (!v6)))
theorem cV.ok:op k 199 ([.agp [.i i1.Op,.i i1.A,.i i1.B,.int .u64 i1.N,.l 1 (eI .i64) i1.L]],[]) (λv7=>(.b v7,[])) (cV.f k i1):=by apply oB (cV.s · i1) k
end
def cz.b2(k:Nat)(s1:LIn):Int->Option (Int⊕(Unit⊕Int)):=λx40=>(if x40<(s1.length:Int)then((at? s1 x40).bind λe55=>((cV.f k e55).bind λr57=>(if r57=true then(some (.inr (.inr x40)))else(some (.inl (iadd .i64 x40 1))))))else(some (.inr (.inl ()))))
def cz.f:Nat->LIn->Option (Int)
 | 0,_=>none
 | k+1,s1=>(altB (loopS (cz.b2 k s1) k (0:Int)) (λ_=>(some (-1:Int))) (λx49=>(some x49)))
section
variable(k:Nat)(s1:LIn)
noncomputable def cz.s:Sc (Int):=(.rS 1 1 7 (lm aj.e s1) (.loop2 (V:=Int) (O:=Unit) (O2:=Int) 2 (0:Int) (λv50=>⟨mk 19 [(0,.l 5 aj.e s1),(1,.c (.v (.fn 199 []))),(7,.i (s1.length:Int)),(8,.i v50)],[]⟩) (λv50=>(.bq 2 0 9 false (v50<(s1.length:Int)) (.op 4 3 (Rd.el aj.e s1 v50) λv56=>(.cl 4 5 (cV.ok k v56) λv58=>(.br 4 5 16 v58 (.ret (.inr (.inr v50))) (.ret (.inl (iadd .i64 v50 1)))))) (.ret (.inr (.inl ()))))) (.exit 0) (λv59=>⟨mk 19 [],[]⟩) (λv59=>(.ret (-1:Int))) .ret (λv60=>⟨mk 19 [(4,.i v60)],[]⟩) λv60=>(.ret v60)))
theorem cz.ok:op k 273 ([.l 5 aj.e s1,.c (.v (.fn 199 []))],[]) (λv61=>(.i v61,[])) (cz.f k s1):=by apply oB (cz.s · s1) k
end
def cc.f:Nat->LIn->Option (Bool)
 | 0,_=>none
 | k+1,s1=>((cz.f k s1).bind λr5=>(some (decide (r5≥0))))
section
variable(k:Nat)(s1:LIn)
noncomputable def cc.s:Sc (Bool):=(.cl 1 2 (cz.ok k s1) λv6=>(.ret (decide (v6≥0))))
theorem cc.ok:op k 198 ([.l 5 aj.e s1,.c (.v (.fn 199 []))],[]) (λv7=>(.b v7,[])) (cc.f k s1):=by apply oB (cc.s · s1) k
end
def dE.f:Nat->ai->Option (Bool)
 | 0,_=>none
 | k+1,f1=>((aN.f k f1.fType).bind λr9=>(if r9=true then(if(f1.Locals.length:Int)<=256 then((bx.f k f1.Locals).bind λr11=>(if r11=true then(if(f1.Code.length:Int)<=65536 then((cc.f k f1.Code).bind λr13=>(some (!r13)))else(some false))else(some false)))else(some false))else(some false)))
section
variable(k:Nat)(f1:ai)
noncomputable def dE.s:Sc (Bool):=(.cl 1 2 (aN.ok k f1.fType) λv10=>(.br 1 3 6 v10 (.rS 1 6 9 (lm (eI .i64) f1.Locals) (.bq 1 9 12 false ((f1.Locals.length:Int)<=256) (.cl 1 12 (bx.ok k f1.Locals) λv12=>(.br 1 14 17 v12 (.rS 1 17 20 (lm aj.e f1.Code) (.bq 1 20 23 false ((f1.Code.length:Int)<=65536) (.cl 1 23 (cc.ok k f1.Code) λv14=>(.ret (!v14))) (.ret false))) (.ret false))) (.ret false))) (.ret false)))
theorem dE.ok:op k 107 ([.agp [.i f1.fType,.l 1 (eI .i64) f1.Locals,.l 5 aj.e f1.Code]],[]) (λv15=>(.b v15,[])) (dE.f k f1):=by apply oB (dE.s · f1) k
end
def dc.f:Nat->ai->Option (Bool)
 | 0,_=>none
 | k+1,x1=>((dE.f k x1).bind λr5=>(some (!r5)))
section
variable(k:Nat)(x1:ai)
noncomputable def dc.s:Sc (Bool):=(.cl 1 2 (dE.ok k x1) λv6=>(.ret (!v6)))
theorem dc.ok:op k 197 ([.agp [.i x1.fType,.l 1 (eI .i64) x1.Locals,.l 5 aj.e x1.Code],.c (.v (.ref [.fn 107 []]))],[]) (λv7=>(.b v7,[])) (dc.f k x1):=by apply oB (dc.s · x1) k
end
def ct.b2(k:Nat)(s1:LFu):Int->Option (Int⊕(Unit⊕Int)):=λx40=>(if x40<(s1.length:Int)then((at? s1 x40).bind λe55=>((dc.f k e55).bind λr57=>(if r57=true then(some (.inr (.inr x40)))else(some (.inl (iadd .i64 x40 1))))))else(some (.inr (.inl ()))))
def ct.f:Nat->LFu->Option (Int)
 | 0,_=>none
 | k+1,s1=>(altB (loopS (ct.b2 k s1) k (0:Int)) (λ_=>(some (-1:Int))) (λx49=>(some x49)))
section
variable(k:Nat)(s1:LFu)
noncomputable def ct.s:Sc (Int):=(.rS 1 1 7 (lm ai.e s1) (.loop2 (V:=Int) (O:=Unit) (O2:=Int) 2 (0:Int) (λv50=>⟨mk 19 [(0,.l 3 ai.e s1),(1,.c (.fn 197 [.ptr 0 1 0 0])),(7,.i (s1.length:Int)),(8,.i v50)],[bp 1 [.fn 107 []]]⟩) (λv50=>(.bq 2 0 9 false (v50<(s1.length:Int)) (.op 4 3 (Rd.el ai.e s1 v50) λv56=>(.op 4 5 (Rd.bcall (args:=[.agp [.i v56.fType,.l 1 (eI .i64) v56.Locals,.l 5 aj.e v56.Code],.p 0 1 0 0]) (h:=[bp 1 [.fn 107 []]]) (dc.ok k v56) rfl rfl (by kernel_rfl) rfl (by kernel_rfl)) λv58=>(.br 4 5 16 v58 (.ret (.inr (.inr v50))) (.ret (.inl (iadd .i64 v50 1)))))) (.ret (.inr (.inl ()))))) (.exit 0) (λv59=>⟨mk 19 [],[bp 1 [.fn 107 []]]⟩) (λv59=>(.ret (-1:Int))) .ret (λv60=>⟨mk 19 [(4,.i v60)],[bp 1 [.fn 107 []]]⟩) λv60=>(.ret v60)))
theorem ct.ok:op k 272 ([.l 3 ai.e s1,.c (.fn 197 [.ptr 0 1 0 0])],[bp 1 [.fn 107 []]]) (λv61=>(.i v61,[bp 1 [.fn 107 []]])) (ct.f k s1):=by apply oP (ct.s · s1) k
end
def ci.f:Nat->LFu->Option (Bool)
 | 0,_=>none
 | k+1,s1=>((ct.f k s1).bind λr5=>(some (decide (r5≥0))))
section
variable(k:Nat)(s1:LFu)
noncomputable def ci.s:Sc (Bool):=(.cl 1 2 (ct.ok k s1) λv6=>(.ret (decide (v6≥0))))
theorem ci.ok:op k 196 ([.l 3 ai.e s1,.c (.fn 197 [.ptr 0 1 0 0])],[bp 1 [.fn 107 []]]) (λv7=>(.b v7,[bp 1 [.fn 107 []]])) (ci.f k s1):=by apply oP (ci.s · s1) k
end
def cC.f:Nat->LFu->Option (Bool)
 | 0,_=>none
 | k+1,l1=>((ci.f k l1).bind λr5=>(some (!r5)))
section
variable(k:Nat)(l1:LFu)
noncomputable def cC.s:Sc (Bool):=(.cl 1 2 (ci.ok k l1) λv6=>(.ret (!v6)))
theorem cC.ok:op k 106 ([.l 3 ai.e l1,.c (.v (.fn 107 []))],[]) (λv7=>(.b v7,[])) (cC.f k l1):=by apply oB (cC.s · l1) k
end
def cW.f:Nat->au->Option (Bool)
 | 0,_=>none
 | k+1,x1=>(if x1.Min≥0 then(if x1.Min<=x1.Max then(some (decide (x1.Max<=512)))else(some false))else(some false))
section
variable(k:Nat)(x1:au)
noncomputable def cW.s:Sc (Bool):=(.bq 1 3 6 false (x1.Min≥0) (.bq 1 10 13 false (x1.Min<=x1.Max) (.ret (decide (x1.Max<=512))) (.ret false)) (.ret false))
theorem cW.ok:op k 109 ([.agp [.i x1.Min,.i x1.Max]],[]) (λv3=>(.b v3,[])) (cW.f k x1):=by apply oP (λ_=>cW.s x1) k
end
def dg.f:Nat->au->Option (Bool)
 | 0,_=>none
 | k+1,x1=>((cW.f k x1).bind λr5=>(some (!r5)))
section
variable(k:Nat)(x1:au)
noncomputable def dg.s:Sc (Bool):=(.cl 1 2 (cW.ok k x1) λv6=>(.ret (!v6)))
theorem dg.ok:op k 201 ([.agp [.i x1.Min,.i x1.Max],.p 0 1 0 0],[bp 1 [.fn 109 []]]) (λv7=>(.b v7,[bp 1 [.fn 109 []]])) (dg.f k x1):=by apply oP (dg.s · x1) k
end
def cv.b2(k:Nat)(s1:LMe):Int->Option (Int⊕(Unit⊕Int)):=λx40=>(if x40<(s1.length:Int)then((at? s1 x40).bind λe55=>((dg.f k e55).bind λr57=>(if r57=true then(some (.inr (.inr x40)))else(some (.inl (iadd .i64 x40 1))))))else(some (.inr (.inl ()))))
def cv.f:Nat->LMe->Option (Int)
 | 0,_=>none
 | k+1,s1=>(altB (loopS (cv.b2 k s1) k (0:Int)) (λ_=>(some (-1:Int))) (λx49=>(some x49)))
section
variable(k:Nat)(s1:LMe)
noncomputable def cv.s:Sc (Int):=(.rS 1 1 7 (lm au.e s1) (.loop2 (V:=Int) (O:=Unit) (O2:=Int) 2 (0:Int) (λv50=>⟨mk 19 [(0,.l 2 au.e s1),(1,.c (.fn 201 [.ptr 0 1 0 0])),(7,.i (s1.length:Int)),(8,.i v50)],[bp 1 [.fn 109 []]]⟩) (λv50=>(.bq 2 0 9 false (v50<(s1.length:Int)) (.op 4 3 (Rd.el au.e s1 v50) λv56=>(.cl 4 5 (dg.ok k v56) λv58=>(.br 4 5 16 v58 (.ret (.inr (.inr v50))) (.ret (.inl (iadd .i64 v50 1)))))) (.ret (.inr (.inl ()))))) (.exit 0) (λv59=>⟨mk 19 [],[bp 1 [.fn 109 []]]⟩) (λv59=>(.ret (-1:Int))) .ret (λv60=>⟨mk 19 [(4,.i v60)],[bp 1 [.fn 109 []]]⟩) λv60=>(.ret v60)))
theorem cv.ok:op k 274 ([.l 2 au.e s1,.c (.fn 201 [.ptr 0 1 0 0])],[bp 1 [.fn 109 []]]) (λv61=>(.i v61,[bp 1 [.fn 109 []]])) (cv.f k s1):=by apply oP (cv.s · s1) k
end
def ce.f:Nat->LMe->Option (Bool)
 | 0,_=>none
 | k+1,s1=>((cv.f k s1).bind λr5=>(some (decide (r5≥0))))
section
variable(k:Nat)(s1:LMe)
noncomputable def ce.s:Sc (Bool):=(.cl 1 2 (cv.ok k s1) λv6=>(.ret (decide (v6≥0))))
theorem ce.ok:op k 200 ([.l 2 au.e s1,.c (.fn 201 [.ptr 0 1 0 0])],[bp 1 [.fn 109 []]]) (λv7=>(.b v7,[bp 1 [.fn 109 []]])) (ce.f k s1):=by apply oP (ce.s · s1) k
end
def cH.f:Nat->LMe->Option (Bool)
 | 0,_=>none
 | k+1,l1=>((ce.f k l1).bind λr5=>(some (!r5)))
section
variable(k:Nat)(l1:LMe)
noncomputable def cH.s:Sc (Bool):=(.cl 1 2 (ce.ok k l1) λv6=>(.ret (!v6)))
theorem cH.ok:op k 108 ([.l 2 au.e l1,.c (.v (.fn 109 []))],[]) (λv7=>(.b v7,[])) (cH.f k l1):=by apply oB (cH.s · l1) k
end
def da.f:Nat->af->Option (Bool)
 | 0,_=>none
 | k+1,x1=>((bx.f k ([x1.fType]:LI)).bind λr5=>(if r5=true then(if x1.fType=127 then(some (decide (x1.Init<=4294967295)))else(some true))else(some false)))
section
variable(k:Nat)(x1:af)
noncomputable def da.s:Sc (Bool):=(.op 1 3 (Rd.bcall (args:=[.o 0 1 1]) (h:=[bl 1 (eI .i64) ([x1.fType]:LI)]) (bx.ok k ([x1.fType]:LI)) rfl rfl (by kernel_rfl) rfl (by kernel_rfl)) λv6=>(.br 1 4 7 v6 (.bq 1 8 11 true (x1.fType=127) (.ret (decide (x1.Init<=4294967295))) (.ret true)) (.ret false)))
theorem da.ok:op k 111 ([.agp [.i x1.fType,.bool x1.Var,.int .u64 x1.Init]],[]) (λv7=>(.b v7,[])) (da.f k x1):=by apply oP (da.s · x1) k
end
def dd.f:Nat->af->Option (Bool)
 | 0,_=>none
 | k+1,x1=>((da.f k x1).bind λr5=>(some (!r5)))
section
variable(k:Nat)(x1:af)
noncomputable def dd.s:Sc (Bool):=(.cl 1 2 (da.ok k x1) λv6=>(.ret (!v6)))
theorem dd.ok:op k 203 ([.agp [.i x1.fType,.bool x1.Var,.int .u64 x1.Init],.p 0 1 0 0],[bp 1 [.fn 111 []]]) (λv7=>(.b v7,[bp 1 [.fn 111 []]])) (dd.f k x1):=by apply oP (dd.s · x1) k
end
def cw.b2(k:Nat)(s1:LGl):Int->Option (Int⊕(Unit⊕Int)):=λx40=>(if x40<(s1.length:Int)then((at? s1 x40).bind λe55=>((dd.f k e55).bind λr57=>(if r57=true then(some (.inr (.inr x40)))else(some (.inl (iadd .i64 x40 1))))))else(some (.inr (.inl ()))))
def cw.f:Nat->LGl->Option (Int)
 | 0,_=>none
 | k+1,s1=>(altB (loopS (cw.b2 k s1) k (0:Int)) (λ_=>(some (-1:Int))) (λx49=>(some x49)))
section
variable(k:Nat)(s1:LGl)
noncomputable def cw.s:Sc (Int):=(.rS 1 1 7 (lm af.e s1) (.loop2 (V:=Int) (O:=Unit) (O2:=Int) 2 (0:Int) (λv50=>⟨mk 19 [(0,.l 3 af.e s1),(1,.c (.fn 203 [.ptr 0 1 0 0])),(7,.i (s1.length:Int)),(8,.i v50)],[bp 1 [.fn 111 []]]⟩) (λv50=>(.bq 2 0 9 false (v50<(s1.length:Int)) (.op 4 3 (Rd.el af.e s1 v50) λv56=>(.cl 4 5 (dd.ok k v56) λv58=>(.br 4 5 16 v58 (.ret (.inr (.inr v50))) (.ret (.inl (iadd .i64 v50 1)))))) (.ret (.inr (.inl ()))))) (.exit 0) (λv59=>⟨mk 19 [],[bp 1 [.fn 111 []]]⟩) (λv59=>(.ret (-1:Int))) .ret (λv60=>⟨mk 19 [(4,.i v60)],[bp 1 [.fn 111 []]]⟩) λv60=>(.ret v60)))
theorem cw.ok:op k 275 ([.l 3 af.e s1,.c (.fn 203 [.ptr 0 1 0 0])],[bp 1 [.fn 111 []]]) (λv61=>(.i v61,[bp 1 [.fn 111 []]])) (cw.f k s1):=by apply oP (cw.s · s1) k
end
def cb.f:Nat->LGl->Option (Bool)
 | 0,_=>none
 | k+1,s1=>((cw.f k s1).bind λr5=>(some (decide (r5≥0))))
section
variable(k:Nat)(s1:LGl)
noncomputable def cb.s:Sc (Bool):=(.cl 1 2 (cw.ok k s1) λv6=>(.ret (decide (v6≥0))))
theorem cb.ok:op k 202 ([.l 3 af.e s1,.c (.fn 203 [.ptr 0 1 0 0])],[bp 1 [.fn 111 []]]) (λv7=>(.b v7,[bp 1 [.fn 111 []]])) (cb.f k s1):=by apply oP (cb.s · s1) k
end
def cE.f:Nat->LGl->Option (Bool)
 | 0,_=>none
 | k+1,l1=>((cb.f k l1).bind λr5=>(some (!r5)))
section
variable(k:Nat)(l1:LGl)
noncomputable def cE.s:Sc (Bool):=(.cl 1 2 (cb.ok k l1) λv6=>(.ret (!v6)))
theorem cE.ok:op k 110 ([.l 3 af.e l1,.c (.v (.fn 111 []))],[]) (λv7=>(.b v7,[])) (cE.f k l1):=by apply oB (cE.s · l1) k
end
def dK.f:Nat->aA->Option (Bool)
 | 0,_=>none
 | k+1,d1=>(if d1.Mem=0 then(segB (if d1.Active=true then((av.f k d1.Mem (4:Int)).bind λr28=>(if r28=true then((aN.f k d1.At).bind λr30=>(some (.inl r30)))else(some (.inl false))))else(some (.inl (decide (d1.At=0))))) (λwhere27=>(if where27=true then(some (decide ((d1.Bytes.length:Int)<=1048576)))else(some false))))else(segB (if d1.Active=true then((av.f k d1.Mem (4:Int)).bind λr38=>(if r38=true then((aN.f k d1.At).bind λr40=>(some (.inl r40)))else(some (.inl false))))else(some (.inl false))) (λwhere37=>(if where37=true then(some (decide ((d1.Bytes.length:Int)<=1048576)))else(some false)))))
section
variable(k:Nat)(d1:aA)
noncomputable def dK.s:Sc (Bool):=(.bq 1 3 7 false (d1.Mem=0) (.seg (O:=Bool) 4 (.br 2 1 13 d1.Active (.cl 3 2 (av.ok k d1.Mem (4:Int)) λv29=>(.br 3 3 17 v29 (.cl 3 6 (aN.ok k d1.At) λv31=>(.ret (.inl v31))) (.ret (.inl false)))) (.ret (.inl (decide (d1.At=0))))) (λv32=>⟨mk 29 [(1,.p 0 4 0 0),(3,.b v32)],[bp 4 [.bool d1.Active,.i d1.Mem,.i d1.At,.l 1 (eI .u8) d1.Bytes]]⟩) λv32=>(.br 4 1 23 v32 (.rS 4 4 26 (lm (eI .u8) d1.Bytes) (.ret (decide ((d1.Bytes.length:Int)<=1048576)))) (.ret false))) (.seg (O:=Bool) 4 (.br 2 1 13 d1.Active (.cl 3 2 (av.ok k d1.Mem (4:Int)) λv39=>(.br 3 3 17 v39 (.cl 3 6 (aN.ok k d1.At) λv41=>(.ret (.inl v41))) (.ret (.inl false)))) (.ret (.inl false))) (λv42=>⟨mk 29 [(1,.p 0 4 0 0),(3,.b v42)],[bp 4 [.bool d1.Active,.i d1.Mem,.i d1.At,.l 1 (eI .u8) d1.Bytes]]⟩) λv42=>(.br 4 1 23 v42 (.rS 4 4 26 (lm (eI .u8) d1.Bytes) (.ret (decide ((d1.Bytes.length:Int)<=1048576)))) (.ret false))))
theorem dK.ok:op k 114 ([.agp [.bool d1.Active,.i d1.Mem,.i d1.At,.l 1 (eI .u8) d1.Bytes]],[]) (λv43=>(.b v43,[])) (dK.f k d1):=by apply oB (dK.s · d1) k
end
def db.f:Nat->aA->Option (Bool)
 | 0,_=>none
 | k+1,x1=>((dK.f k x1).bind λr5=>(some (!r5)))
section
variable(k:Nat)(x1:aA)
noncomputable def db.s:Sc (Bool):=(.cl 1 2 (dK.ok k x1) λv6=>(.ret (!v6)))
theorem db.ok:op k 206 ([.agp [.bool x1.Active,.i x1.Mem,.i x1.At,.l 1 (eI .u8) x1.Bytes],.c (.v (.ref [.fn 114 []]))],[]) (λv7=>(.b v7,[])) (db.f k x1):=by apply oB (db.s · x1) k
end
def cu.b2(k:Nat)(s1:LDa):Int->Option (Int⊕(Unit⊕Int)):=λx40=>(if x40<(s1.length:Int)then((at? s1 x40).bind λe55=>((db.f k e55).bind λr57=>(if r57=true then(some (.inr (.inr x40)))else(some (.inl (iadd .i64 x40 1))))))else(some (.inr (.inl ()))))
def cu.f:Nat->LDa->Option (Int)
 | 0,_=>none
 | k+1,s1=>(altB (loopS (cu.b2 k s1) k (0:Int)) (λ_=>(some (-1:Int))) (λx49=>(some x49)))
section
variable(k:Nat)(s1:LDa)
noncomputable def cu.s:Sc (Int):=(.rS 1 1 7 (lm aA.e s1) (.loop2 (V:=Int) (O:=Unit) (O2:=Int) 2 (0:Int) (λv50=>⟨mk 19 [(0,.l 4 aA.e s1),(1,.c (.fn 206 [.ptr 0 1 0 0])),(7,.i (s1.length:Int)),(8,.i v50)],[bp 1 [.fn 114 []]]⟩) (λv50=>(.bq 2 0 9 false (v50<(s1.length:Int)) (.op 4 3 (Rd.el aA.e s1 v50) λv56=>(.op 4 5 (Rd.bcall (args:=[.agp [.bool v56.Active,.i v56.Mem,.i v56.At,.l 1 (eI .u8) v56.Bytes],.p 0 1 0 0]) (h:=[bp 1 [.fn 114 []]]) (db.ok k v56) rfl rfl (by kernel_rfl) rfl (by kernel_rfl)) λv58=>(.br 4 5 16 v58 (.ret (.inr (.inr v50))) (.ret (.inl (iadd .i64 v50 1)))))) (.ret (.inr (.inl ()))))) (.exit 0) (λv59=>⟨mk 19 [],[bp 1 [.fn 114 []]]⟩) (λv59=>(.ret (-1:Int))) .ret (λv60=>⟨mk 19 [(4,.i v60)],[bp 1 [.fn 114 []]]⟩) λv60=>(.ret v60)))
theorem cu.ok:op k 276 ([.l 4 aA.e s1,.c (.fn 206 [.ptr 0 1 0 0])],[bp 1 [.fn 114 []]]) (λv61=>(.i v61,[bp 1 [.fn 114 []]])) (cu.f k s1):=by apply oP (cu.s · s1) k
end
def cj.f:Nat->LDa->Option (Bool)
 | 0,_=>none
 | k+1,s1=>((cu.f k s1).bind λr5=>(some (decide (r5≥0))))
section
variable(k:Nat)(s1:LDa)
noncomputable def cj.s:Sc (Bool):=(.cl 1 2 (cu.ok k s1) λv6=>(.ret (decide (v6≥0))))
theorem cj.ok:op k 205 ([.l 4 aA.e s1,.c (.fn 206 [.ptr 0 1 0 0])],[bp 1 [.fn 114 []]]) (λv7=>(.b v7,[bp 1 [.fn 114 []]])) (cj.f k s1):=by apply oP (cj.s · s1) k
end
def cF.f:Nat->LDa->Option (Bool)
 | 0,_=>none
 | k+1,l1=>((cj.f k l1).bind λr5=>(some (!r5)))
section
variable(k:Nat)(l1:LDa)
noncomputable def cF.s:Sc (Bool):=(.cl 1 2 (cj.ok k l1) λv6=>(.ret (!v6)))
theorem cF.ok:op k 113 ([.l 4 aA.e l1,.c (.v (.fn 114 []))],[]) (λv7=>(.b v7,[])) (cF.f k l1):=by apply oB (cF.s · l1) k
end
def bI.f:Nat->ak->Option (Int)
 | 0,_=>none
 | k+1,m1=>((dD.f k m1).bind λr111=>(if r111=true then(some (13:Int))else(segB ((cQ.f k m1.Types).bind λr130=>(if(!r130)=true then(some (.inl true))else((cP.f k m1.Imports).bind λr132=>(if(!r132)=true then(some (.inl true))else((bi.f k m1.Exports).bind λr134=>(if(!r134)=true then(some (.inl true))else((cI.f k m1.Customs).bind λr136=>(if(!r136)=true then(some (.inl true))else((cC.f k m1.Funcs).bind λr138=>(if(!r138)=true then(some (.inl true))else((cH.f k m1.Mems).bind λr140=>(if(!r140)=true then(some (.inl true))else((cE.f k m1.Globals).bind λr142=>(if(!r142)=true then(some (.inl true))else((cF.f k m1.Datas).bind λr144=>(if(!r144)=true then(some (.inl true))else(some (.inl false)))))))))))))))))) (λx129=>(if x129=true then(some (12:Int))else(some (0:Int)))))))
section
variable(k:Nat)(m1:ak)
noncomputable def bI.s:Sc (Int):=(.cl 1 1 (dD.ok k m1) λv112=>(.br 1 2 3 v112 (.ret (13:Int)) (.seg (O:=Bool) 20000060000003 (.cl 3 2 (cQ.ok k m1.Types) λv131=>(.br 3 4 6 (!v131) (.ret (.inl true)) (.cl 4 2 (cP.ok k m1.Imports) λv133=>(.br 4 4 6 (!v133) (.ret (.inl true)) (.cl 5 2 (bi.ok k m1.Exports) λv135=>(.br 5 4 6 (!v135) (.ret (.inl true)) (.cl 6 2 (cI.ok k m1.Customs) λv137=>(.br 6 4 6 (!v137) (.ret (.inl true)) (.cl 7 2 (cC.ok k m1.Funcs) λv139=>(.br 7 4 6 (!v139) (.ret (.inl true)) (.cl 8 2 (cH.ok k m1.Mems) λv141=>(.br 8 4 6 (!v141) (.ret (.inl true)) (.cl 9 2 (cE.ok k m1.Globals) λv143=>(.br 9 4 6 (!v143) (.ret (.inl true)) (.cl 10 2 (cF.ok k m1.Datas) λv145=>(.br 10 4 6 (!v145) (.ret (.inl true)) (.ret (.inl false)))))))))))))))))) (λv146=>⟨mk 39 [(1,.p 0 8 0 0),(6,.b v146)],[u6 m1]⟩) λv146=>(.br 2000006 900 6 v146 (.ret (12:Int)) (.ret (0:Int))))))
theorem bI.ok:op k 30 ([.agp (w6 m1)],[]) (λv147=>(.i v147,[])) (bI.f k m1):=by apply oB (bI.s · m1) k
end
def aQ.f:Nat->Int->Int->Option (Bool)
 | 0,_,_=>none
 | k+1,n1,most2=>(if n1≥0 then(some (decide (n1<=most2)))else(some false))
section
variable(k:Nat)(n1 most2:Int)
noncomputable def aQ.s:Sc (Bool):=(.bq 1 2 7 false (n1≥0) (.ret (decide (n1<=most2))) (.ret false))
theorem aQ.ok:op k 217 ([.i n1,.i most2],[]) (λv4=>(.b v4,[])) (aQ.f k n1 most2):=by apply oP (λ_=>aQ.s n1 most2) k
end
def bL.f:Nat->Int->Option (Bool)
 | 0,_=>none
 | k+1,n1=>((aQ.f k (iadd .i64 n1 1) (513:Int)).bind λr5=>(if(!r5)=true then(some true)else(some (decide (n1<(-1))))))
section
variable(k:Nat)(n1:Int)
noncomputable def bL.s:Sc (Bool):=(.cl 1 2 (aQ.ok k (iadd .i64 n1 1) (513:Int)) λv6=>(.br 1 4 7 (!v6) (.ret true) (.ret (decide (n1<(-1))))))
theorem bL.ok:op k 278 ([.i n1],[]) (λv7=>(.b v7,[])) (bL.f k n1):=by apply oP (bL.s · n1) k
end
def bJ.b2(k:Nat)(s1:LI):Int->Option (Int⊕(Unit⊕Int)):=λx40=>(if x40<(s1.length:Int)then((at? s1 x40).bind λe55=>((bL.f k e55).bind λr57=>(if r57=true then(some (.inr (.inr x40)))else(some (.inl (iadd .i64 x40 1))))))else(some (.inr (.inl ()))))
def bJ.f:Nat->LI->Option (Int)
 | 0,_=>none
 | k+1,s1=>(altB (loopS (bJ.b2 k s1) k (0:Int)) (λ_=>(some (-1:Int))) (λx49=>(some x49)))
section
variable(k:Nat)(s1:LI)
noncomputable def bJ.s:Sc (Int):=(.rS 1 1 7 (lm (eI .i64) s1) (.loop2 (V:=Int) (O:=Unit) (O2:=Int) 2 (0:Int) (λv50=>⟨mk 19 [(0,.l 1 (eI .i64) s1),(1,.c (.v (.fn 278 []))),(7,.i (s1.length:Int)),(8,.i v50)],[]⟩) (λv50=>(.bq 2 0 9 false (v50<(s1.length:Int)) (.op 4 3 (Rd.el (eI .i64) s1 v50) λv56=>(.cl 4 5 (bL.ok k v56) λv58=>(.br 4 5 16 v58 (.ret (.inr (.inr v50))) (.ret (.inl (iadd .i64 v50 1)))))) (.ret (.inr (.inl ()))))) (.exit 0) (λv59=>⟨mk 19 [],[]⟩) (λv59=>(.ret (-1:Int))) .ret (λv60=>⟨mk 19 [(4,.i v60)],[]⟩) λv60=>(.ret v60)))
theorem bJ.ok:op k 264 ([.l 1 (eI .i64) s1,.c (.v (.fn 278 []))],[]) (λv61=>(.i v61,[])) (bJ.f k s1):=by apply oB (bJ.s · s1) k
end
def bM.f:Nat->LI->Option (Bool)
 | 0,_=>none
 | k+1,s1=>((bJ.f k s1).bind λr5=>(some (decide (r5≥0))))
section
variable(k:Nat)(s1:LI)
noncomputable def bM.s:Sc (Bool):=(.cl 1 2 (bJ.ok k s1) λv6=>(.ret (decide (v6≥0))))
theorem bM.ok:op k 180 ([.l 1 (eI .i64) s1,.c (.v (.fn 278 []))],[]) (λv7=>(.b v7,[])) (bM.f k s1):=by apply oB (bM.s · s1) k
end
def aM.f:Nat->LI->Option (Bool)
 | 0,_=>none
 | k+1,l1=>((bM.f k l1).bind λr5=>(some (!r5)))
section
variable(k:Nat)(l1:LI)
noncomputable def aM.s:Sc (Bool):=(.cl 1 1 (bM.ok k l1) λv6=>(.ret (!v6)))
theorem aM.ok:op k 214 ([.l 1 (eI .i64) l1],[]) (λv7=>(.b v7,[])) (aM.f k l1):=by apply oB (aM.s · l1) k
end
def eh.f:Nat->LTy->Int->Option (LTy×Int)
 | 0,_,_=>none
 | k+1,s1,n2=>(if n2<1 then none else(some (s1,n2)))
section
variable(k:Nat)(s1:LTy)(n2:Int)
noncomputable def eh.s:Sc (LTy×Int):=(.bq 1 1 6 false (n2<1) .fail (.ret (s1,n2)))
theorem eh.ok:op k 279 ([.l 2 ab.e s1,.i n2],[]) (λv5=>(.c (.fn 317 [.ptr 0 1 0 0,.ptr 1 1 0 0]),[bp 1 [.l 2 ab.e v5.1],bp 1 [.i v5.2]])) (eh.f k s1 n2):=by apply oP (λ_=>eh.s s1 n2) k
end
def bC.r6(k:Nat):Unit->(LTy)->Option (Unit⊕Unit):=λ_=>λpart16=>((bI.f k (ak.mk part16 ([]:LIm) ([]:LFu) ([]:LMe) ([]:LGl) ([]:LEx) ([]:LDa) ([]:LCu))).bind λr20=>(if r20=0 then(some (.inl ()))else(some (.inr ()))))
def bC.f:Nat->LTy->Option (Bool)
 | 0,_=>none
 | k+1,l1=>((eh.f k l1 (64:Int)).bind λ(r13,r14)=>(bif shortC r14 (List.map ab.e r13)then altB (rngB (bC.r6 k) (adB r14 r13) ()) (λ_=>(some true)) (λ_=>(some false))else none))
section
variable(k:Nat)(l1:LTy)
noncomputable def bC.s:Sc (Bool):=(.cl 1 1 (eh.ok k l1 (64:Int)) λv15=>(.rng (V:=Unit) (X:=LTy) (O:=Unit) (shortC v15.2 (List.map ab.e v15.1)) () (λ_=>[bp 1 [.bool false],none,none]) (ab4 2 v15.2 (List.map ab.e v15.1)) (adB v15.2 v15.1) (λv19=>[.l 2 ab.e v19]) (aj5 2 ab.e v15.2 v15.1) (λ_ v19=>(.cl 3 2 (bI.ok k (ak.mk v19 ([]:LIm) ([]:LFu) ([]:LMe) ([]:LGl) ([]:LEx) ([]:LDa) ([]:LCu))) λv21=>(.bq 3 3 10 true (v21=0) (.ret (.inl ())) (.ret (.inr ()))))) .ret (λv22=>[bp 1 [.bool false],none,none]) (λ_=>(.ret true)) λv22=>(.ret false)))
theorem bC.ok:op k 215 ([.l 2 ab.e l1],[]) (λv23=>(.b v23,[])) (bC.f k l1):=by apply oB (bC.s · l1) k
end
def bt.f:Nat->LEx->Option (Bool)
 | 0,_=>none
 | k+1,l1=>((bI.f k (ak.mk ([]:LTy) ([]:LIm) ([]:LFu) ([]:LMe) ([]:LGl) l1 ([]:LDa) ([]:LCu))).bind λr5=>(some (decide (r5=0))))
section
variable(k:Nat)(l1:LEx)
noncomputable def bt.s:Sc (Bool):=(.cl 1 2 (bI.ok k (ak.mk ([]:LTy) ([]:LIm) ([]:LFu) ([]:LMe) ([]:LGl) l1 ([]:LDa) ([]:LCu))) λv6=>(.ret (decide (v6=0))))
theorem bt.ok:op k 216 ([.l 3 aa.e l1],[]) (λv7=>(.b v7,[])) (bt.f k l1):=by apply oB (bt.s · l1) k
end
def bj.f:Nat->ah->Option (Bool)
 | 0,_=>none
 | k+1,p1=>(segB ((bI.f k p1.Module).bind λr132=>(if r132=0 then(if(p1.Slots.Globals.length:Int)=0 then(some (.inl false))else(if(p1.Slots.Globals.length:Int)=24 then(some (.inl false))else(some (.inl true))))else(some (.inl true)))) (λx131=>(if x131=true then(some false)else(segB (if(p1.Layout.Base.length:Int)>4 then(some (.inl true))else(if(p1.Layout.Size.length:Int)>4 then(some (.inl true))else(if(p1.Layout.Grow.length:Int)>4 then(some (.inl true))else(some (.inl false))))) (λx135=>(if x135=true then(some false)else(segB ((aM.f k p1.Slots.Globals).bind λr146=>(if(!r146)=true then(some (.inl true))else((aM.f k p1.Layout.Base).bind λr148=>(if(!r148)=true then(some (.inl true))else((aM.f k p1.Layout.Size).bind λr150=>(if(!r150)=true then(some (.inl true))else((aM.f k p1.Layout.Grow).bind λr152=>(if(!r152)=true then(some (.inl true))else(some (.inl false)))))))))) (λx145=>(if x145=true then(some false)else(segB (if(p1.Types.length:Int)>512 then(some (.inl true))else((bC.f k p1.Types).bind λr162=>(if(!r162)=true then(some (.inl true))else((bt.f k p1.Names).bind λr164=>(if(!r164)=true then(some (.inl true))else((bt.f k p1.Hidden).bind λr166=>(if(!r166)=true then(some (.inl true))else(some (.inl false))))))))) (λx161=>(if x161=true then(some false)else(if p1.Layout.Extra=0 then((aQ.f k p1.Extra (16:Int)).bind λr169=>(if r169=true then((aQ.f k p1.Mems (4:Int)).bind λr171=>(if r171=true then((aQ.f k p1.Globals (256:Int)).bind λr173=>(some r173))else(some false)))else(some false)))else(some false))))))))))))))
section
variable(k:Nat)(p1:ah)
noncomputable def bj.s:Sc (Bool):=(.seg (O:=Bool) 20000100000002 (.cl 2 2 (bI.ok k p1.Module) λv133=>(.bq 2 4 10 true (v133=0) (.rS 3 1 16 (lm (eI .i64) p1.Slots.Globals) (.bq 3 3 18 true ((p1.Slots.Globals.length:Int)=0) (.ret (.inl false)) (.rS 3 5 20 (lm (eI .i64) p1.Slots.Globals) (.bq 3 8 10 true ((p1.Slots.Globals.length:Int)=24) (.ret (.inl false)) (.ret (.inl true)))))) (.ret (.inl true)))) (λv134=>⟨mk 87 [(1,.p 0 19 0 0),(3,.l 1 (eI .i64) p1.Slots.Globals),(4,.p 1 4 0 0),(10,.b v134)],[k13 p1.Module.Types p1.Module.Imports p1.Module.Funcs p1.Module.Mems p1.Module.Globals p1.Module.Exports p1.Module.Datas p1.Module.Customs p1.Slots.Globals p1.Layout.Base p1.Layout.Size p1.Layout.Extra p1.Layout.Grow p1.Types p1.Names p1.Hidden p1.Extra p1.Mems p1.Globals,bp 4 [.l 1 (eI .i64) p1.Layout.Base,.l 1 (eI .i64) p1.Layout.Size,.i p1.Layout.Extra,.l 1 (eI .i64) p1.Layout.Grow]]⟩) λv134=>(.br 2000010 900 10 v134 (.ret false) (.seg (O:=Bool) 20000230000005 (.rS 5 2 26 (lm (eI .i64) p1.Layout.Base) (.bq 5 4 23 false ((p1.Layout.Base.length:Int)>4) (.ret (.inl true)) (.rS 6 2 30 (lm (eI .i64) p1.Layout.Size) (.bq 6 4 23 false ((p1.Layout.Size.length:Int)>4) (.ret (.inl true)) (.rS 7 2 34 (lm (eI .i64) p1.Layout.Grow) (.bq 7 4 23 false ((p1.Layout.Grow.length:Int)>4) (.ret (.inl true)) (.ret (.inl false)))))))) (λv136=>⟨mk 87 [(1,.p 0 19 0 0),(3,.l 1 (eI .i64) p1.Slots.Globals),(4,.p 1 4 0 0),(23,.b v136)],[k13 p1.Module.Types p1.Module.Imports p1.Module.Funcs p1.Module.Mems p1.Module.Globals p1.Module.Exports p1.Module.Datas p1.Module.Customs p1.Slots.Globals p1.Layout.Base p1.Layout.Size p1.Layout.Extra p1.Layout.Grow p1.Types p1.Names p1.Hidden p1.Extra p1.Mems p1.Globals,bp 4 [.l 1 (eI .i64) p1.Layout.Base,.l 1 (eI .i64) p1.Layout.Size,.i p1.Layout.Extra,.l 1 (eI .i64) p1.Layout.Grow]]⟩) λv136=>(.br 2000023 900 23 v136 (.ret false) (.seg (O:=Bool) 20000360000009 (.cl 9 1 (aM.ok k p1.Slots.Globals) λv147=>(.br 9 3 36 (!v147) (.ret (.inl true)) (.cl 10 2 (aM.ok k p1.Layout.Base) λv149=>(.br 10 4 36 (!v149) (.ret (.inl true)) (.cl 11 2 (aM.ok k p1.Layout.Size) λv151=>(.br 11 4 36 (!v151) (.ret (.inl true)) (.cl 12 2 (aM.ok k p1.Layout.Grow) λv153=>(.br 12 4 36 (!v153) (.ret (.inl true)) (.ret (.inl false)))))))))) (λv154=>⟨mk 87 [(1,.p 0 19 0 0),(4,.p 1 4 0 0),(36,.b v154)],[k13 p1.Module.Types p1.Module.Imports p1.Module.Funcs p1.Module.Mems p1.Module.Globals p1.Module.Exports p1.Module.Datas p1.Module.Customs p1.Slots.Globals p1.Layout.Base p1.Layout.Size p1.Layout.Extra p1.Layout.Grow p1.Types p1.Names p1.Hidden p1.Extra p1.Mems p1.Globals,bp 4 [.l 1 (eI .i64) p1.Layout.Base,.l 1 (eI .i64) p1.Layout.Size,.i p1.Layout.Extra,.l 1 (eI .i64) p1.Layout.Grow]]⟩) λv154=>(.br 2000036 900 36 v154 (.ret false) (.seg (O:=Bool) 20000520000014 (.rS 14 2 55 (lm ab.e p1.Types) (.bq 14 4 52 false ((p1.Types.length:Int)>512) (.ret (.inl true)) (.cl 15 2 (bC.ok k p1.Types) λv163=>(.br 15 4 52 (!v163) (.ret (.inl true)) (.cl 16 2 (bt.ok k p1.Names) λv165=>(.br 16 4 52 (!v165) (.ret (.inl true)) (.cl 17 2 (bt.ok k p1.Hidden) λv167=>(.br 17 4 52 (!v167) (.ret (.inl true)) (.ret (.inl false)))))))))) (λv168=>⟨mk 87 [(1,.p 0 19 0 0),(4,.p 1 4 0 0),(52,.b v168)],[k13 p1.Module.Types p1.Module.Imports p1.Module.Funcs p1.Module.Mems p1.Module.Globals p1.Module.Exports p1.Module.Datas p1.Module.Customs p1.Slots.Globals p1.Layout.Base p1.Layout.Size p1.Layout.Extra p1.Layout.Grow p1.Types p1.Names p1.Hidden p1.Extra p1.Mems p1.Globals,bp 4 [.l 1 (eI .i64) p1.Layout.Base,.l 1 (eI .i64) p1.Layout.Size,.i p1.Layout.Extra,.l 1 (eI .i64) p1.Layout.Grow]]⟩) λv168=>(.br 2000052 900 52 v168 (.ret false) (.bq 19 3 72 false (p1.Layout.Extra=0) (.cl 19 6 (aQ.ok k p1.Extra (16:Int)) λv170=>(.br 19 8 77 v170 (.cl 19 11 (aQ.ok k p1.Mems (4:Int)) λv172=>(.br 19 13 82 v172 (.cl 19 16 (aQ.ok k p1.Globals (256:Int)) λv174=>(.ret v174)) (.ret false))) (.ret false))) (.ret false))))))))))
theorem bj.ok:op k 119 ([.agp [.l 2 ab.e p1.Module.Types,.l 3 ag.e p1.Module.Imports,.l 3 ai.e p1.Module.Funcs,.l 2 au.e p1.Module.Mems,.l 3 af.e p1.Module.Globals,.l 3 aa.e p1.Module.Exports,.l 4 aA.e p1.Module.Datas,.l 2 am.e p1.Module.Customs,.l 1 (eI .i64) p1.Slots.Globals,.l 1 (eI .i64) p1.Layout.Base,.l 1 (eI .i64) p1.Layout.Size,.i p1.Layout.Extra,.l 1 (eI .i64) p1.Layout.Grow,.l 2 ab.e p1.Types,.l 3 aa.e p1.Names,.l 3 aa.e p1.Hidden,.i p1.Extra,.i p1.Mems,.i p1.Globals]],[]) (λv175=>(.b v175,[])) (bj.f k p1):=by apply oB (bj.s · p1) k
end
def eA.b2(k:Nat):(Int×LI)->Option ((Int×LI)⊕(Int×LI)):=λ(n9,h10)=>(if n9>127 then(if aac (h10.length+1) 1 then(some (.inl ((ishr .u64 n9 7),(h10++([(ior .u8 (icv .u8 (iand .u64 n9 127)) 128)]:LI)))))else none)else(some (.inr (n9,h10))))
def eA.f:Nat->Int->Option (LI)
 | 0,_=>none
 | k+1,n1=>((loopS (eA.b2 k) k (n1,([]:LI))).bind λ(n11,h12)=>(if aac (h12.length+1) 1 then(some (h12++([(icv .u8 n11)]:LI)))else none))
section
variable(k:Nat)(n1:Int)
noncomputable def eA.s:Sc (LI):=(.loop (V:=Int×LI) (O:=Int×LI) 2 (n1,([]:LI)) (λv13=>⟨mk 20 [(0,.c (.v (.int .u64 v13.1))),(3,.o 0 1 v13.2.length)],[bl 1 (eI .u8) v13.2]⟩) (λv13=>(.bq 2 1 5 false (v13.1>127) (.ch 3 6 (aac (v13.2.length+1) 1) (aad 1 v13.2.length ([(ior .u8 (icv .u8 (iand .u64 v13.1 127)) 128)]:LI) (mX (eI .u8) ([(ior .u8 (icv .u8 (iand .u64 v13.1 127)) 128)]:LI))) (.rS 3 6 12 (aae 2 1 v13.2 ([(ior .u8 (icv .u8 (iand .u64 v13.1 127)) 128)]:LI) (mX (eI .u8) ([(ior .u8 (icv .u8 (iand .u64 v13.1 127)) 128)]:LI))) (.rB 3 6 2 (aaf 1 (eI .u8) v13.2 ([(ior .u8 (icv .u8 (iand .u64 v13.1 127)) 128)]:LI) (mX (eI .u8) ([(ior .u8 (icv .u8 (iand .u64 v13.1 127)) 128)]:LI))) (.prf 4 1 [(0:Int)<=7] ⟨by decide,trivial⟩ (.ret (.inl ((ishr .u64 v13.1 7),(v13.2++([(ior .u8 (icv .u8 (iand .u64 v13.1 127)) 128)]:LI))))))))) (.ret (.inr (v13.1,v13.2))))) (.exit 0) (λv14=>⟨mk 20 [(0,.c (.v (.int .u64 v14.1))),(3,.o 0 1 v14.2.length)],[bl 1 (eI .u8) v14.2]⟩) λv14=>(.ch 5 4 (aac (v14.2.length+1) 1) (aad 1 v14.2.length ([(icv .u8 v14.1)]:LI) (mX (eI .u8) ([(icv .u8 v14.1)]:LI))) (.rS 5 4 19 (aae 2 1 v14.2 ([(icv .u8 v14.1)]:LI) (mX (eI .u8) ([(icv .u8 v14.1)]:LI))) (.rB 5 4 2 (aaf 1 (eI .u8) v14.2 ([(icv .u8 v14.1)]:LI) (mX (eI .u8) ([(icv .u8 v14.1)]:LI))) (.ret (v14.2++([(icv .u8 v14.1)]:LI)))))))
theorem eA.ok:op k 226 ([.c (.v (.int .u64 n1))],[]) (λv15=>(.o 0 1 v15.length,[bl 1 (eI .u8) v15])) (eA.f k n1):=by apply oP (λ_=>eA.s n1) k
end
def aJ.f:Nat->Int->Option (LI)
 | 0,_=>none
 | k+1,n1=>((eA.f k (icv .u64 n1)).bind λr5=>(some r5))
section
variable(k:Nat)(n1:Int)
noncomputable def aJ.s:Sc (LI):=(.cl 1 2 (eA.ok k (icv .u64 n1)) λv6=>(.ret v6))
theorem aJ.ok:op k 211 ([.i n1],[]) (λv7=>(.o 0 1 v7.length,[bl 1 (eI .u8) v7])) (aJ.f k n1):=by apply oP (aJ.s · n1) k
end
def aR.b3(k:Nat)(l1:LI):(Int×LI)->Option ((Int×LI)⊕(LI)):=λ(x28,h29)=>(if x28<(l1.length:Int)then((at? l1 x28).bind λe36=>((aJ.f k (iadd .i64 e36 1)).bind λr38=>(if aac (h29.length+r38.length) 1 then(some (.inl ((iadd .i64 x28 1),(h29++r38))))else none)))else(some (.inr h29)))
def aR.f:Nat->LI->Option (LI)
 | 0,_=>none
 | k+1,l1=>((aJ.f k (l1.length:Int)).bind λr22=>((loopS (aR.b3 k l1) k ((0:Int),r22)).bind λh34=>(some h34)))
section
variable(k:Nat)(l1:LI)
noncomputable def aR.s:Sc (LI):=(.rS 1 1 7 (lm (eI .i64) l1) (.cl 1 2 (aJ.ok k (l1.length:Int)) λv23=>(.rS 2 1 10 (lm (eI .i64) l1) (.loop (V:=Int×LI) (O:=LI) 3 ((0:Int),v23) (λv35=>⟨mk 22 [(3,.o 0 1 v35.2.length),(9,.l 1 (eI .i64) l1),(10,.i (l1.length:Int)),(11,.i v35.1)],[bl 1 (eI .u8) v35.2]⟩) (λv35=>(.bq 3 0 12 false (v35.1<(l1.length:Int)) (.op 4 0 (Rd.el (eI .i64) l1 v35.1) λv37=>(.cl 5 3 (aJ.ok k (iadd .i64 v37 1)) λv39=>(.ch 5 4 (aac (v35.2.length+v39.length) 1) (aad 1 v35.2.length v39 (mX (eI .u8) v39)) (.rS 5 4 19 (aae 2 1 v35.2 v39 (mX (eI .u8) v39)) (.rB 5 4 2 (aaf 1 (eI .u8) v35.2 v39 (mX (eI .u8) v39)) (.ret (.inl ((iadd .i64 v35.1 1),(v35.2++v39))))))))) (.ret (.inr v35.2)))) (.exit 0) (λv40=>⟨mk 22 [(3,.o 0 1 v40.length)],[bl 1 (eI .u8) v40]⟩) λv40=>(.ret v40)))))
theorem aR.ok:op k 210 ([.l 1 (eI .i64) l1],[]) (λv41=>(.o 0 1 v41.length,[bl 1 (eI .u8) v41])) (aR.f k l1):=by apply oP (aR.s · l1) k
end
def dv.f:Nat->Int->Option (Nat×LI)
 | 0,_=>none
 | k+1,n1=>(if n1<0 then none else(if(isub .i64 n1 0)>0 then(if(0:Int)<=(isub .i64 n1 0)/\aac (((isub .i64 n1 0)).toNat) 1 then(if(0:Int)<=0/\(0:Nat)<=0/\(0:Nat)<=((List.replicate (((isub .i64 n1 0)).toNat) (0:Int))).length then(some ((0-0),(List.replicate (((isub .i64 n1 0)).toNat) (0:Int))))else none)else none)else(some (0,([]:LI)))))
section
variable(k:Nat)(n1:Int)
noncomputable def dv.s:Sc (Nat×LI):=(.bq 1 1 6 false (n1<0) .fail (.bq 4 1 16 false ((isub .i64 n1 0)>0) (.prf 5 3 [(0:Int)<=0,(0:Nat)<=0,(0:Nat)<=([]:List (List FV)).length] ⟨by decide,by decide,by decide,trivial⟩ (.ch 5 5 ((0:Int)<=(isub .i64 n1 0)/\aac (((isub .i64 n1 0)).toNat) 1) (akA 1 (isub .i64 n1 0) ((eI .u8) (0:Int))) (.rS 5 5 22 (ajj 0 1 (List.replicate (((isub .i64 n1 0)).toNat) (0:Int)) (repX (eI .u8) (0:Int) (((isub .i64 n1 0)).toNat))) (.rB 5 5 0 (ala 1 (List.replicate (((isub .i64 n1 0)).toNat) (0:Int)) (repX (eI .u8) (0:Int) (((isub .i64 n1 0)).toNat))) (.ck 5 8 [(0:Int)<=0,(0:Nat)<=0,(0:Nat)<=((List.replicate (((isub .i64 n1 0)).toNat) (0:Int))).length] (.ret ((0-0),(List.replicate (((isub .i64 n1 0)).toNat) (0:Int))))))))) (.ret (0,([]:LI)))))
theorem dv.ok:op k 239 ([.n,.i n1],[]) (λv4=>(.c (.sl 0 1 0 v4.1 none),[bl 1 (eI .u8) v4.2])) (dv.f k n1):=by apply oP (λ_=>dv.s n1) k
end
def bS.b3(k:Nat)(h1 h2:LI)(h3 h4:LI)(h5 h6:LI)(h7 h8:LI)(y47:Int):(Int×Int)->Option ((Int×Int)⊕Int):=λ(size53,x54)=>(if x54<y47 then((at? ([h1,h2,h3,h4,h5,h6,h7,h8]:List (LI)) x54).bind λe63=>(if(iadd .i64 size53 (e63.length:Int))<0 then none else(some (.inl ((iadd .i64 size53 (e63.length:Int)),(iadd .i64 x54 1))))))else(some (.inr size53)))
def bS.b11(k:Nat)(h1 h2:LI)(h3 h4:LI)(h5 h6:LI)(h7 h8:LI)(y69:Int):(Nat×Int×LI)->Option ((Nat×Int×LI)⊕(Nat×LI)):=λ(newslice73,x74,h75)=>(if x74<y69 then((at? ([h1,h2,h3,h4,h5,h6,h7,h8]:List (LI)) x74).bind λe81=>((if(0+newslice73)+e81.length<=h75.length then some ()else none).bind λ_=>(some (.inl ((newslice73+e81.length),(iadd .i64 x74 1),(overL h75 (0+newslice73) e81))))))else(some (.inr (newslice73,h75))))
def bS.f:Nat->LI->LI->LI->LI->LI->LI->LI->LI->Option (LI)
 | 0,_,_,_,_,_,_,_,_=>none
 | k+1,h1,h2,h3,h4,h5,h6,h7,h8=>(let y47:Int:=(([h1,h2,h3,h4,h5,h6,h7,h8]:List (LI)).length:Int);((loopS (bS.b3 k h1 h2 h3 h4 h5 h6 h7 h8 y47) k ((0:Int),(0:Int))).bind λsize59=>((dv.f k size59).bind λ(r66,r67)=>(let y69:Int:=(([h1,h2,h3,h4,h5,h6,h7,h8]:List (LI)).length:Int);((loopS (bS.b11 k h1 h2 h3 h4 h5 h6 h7 h8 y69) k (r66,(0:Int),r67)).bind λ(newslice78,h79)=>(if newslice78<=h79.length then(some (List.take newslice78 h79))else none))))))
section
variable(k:Nat)(h1 h2:LI)(h3 h4:LI)(h5 h6:LI)(h7 h8:LI)
noncomputable def bS.s:Sc (LI):=(.rS 2 1 10 (lm (eL 1 (eI .u8)) ([h1,h2,h3,h4,h5,h6,h7,h8]:List (LI))) (.nm 2 1 10 .i64 (([h1,h2,h3,h4,h5,h6,h7,h8]:List (LI)).length:Int) λv48=>(.loop (V:=Int×Int) (O:=Int) 3 ((0:Int),(0:Int)) (λv60=>⟨mk 36 [(0,.l 1 (eL 1 (eI .u8)) ([h1,h2,h3,h4,h5,h6,h7,h8]:List (LI))),(3,.i v60.1),(9,.l 1 (eL 1 (eI .u8)) ([h1,h2,h3,h4,h5,h6,h7,h8]:List (LI))),(10,.i v48),(11,.i v60.2)],[none,none,none,none,none,none,none,none,none]⟩) (λv60=>(.bq 3 0 12 false (v60.2<v48) (.op 4 0 (Rd.el (eL 1 (eI .u8)) ([h1,h2,h3,h4,h5,h6,h7,h8]:List (LI)) v60.2) λv64=>(.rS 5 2 17 (lm (eI .u8) v64) (.bq 6 1 20 false ((iadd .i64 v60.1 (v64.length:Int))<0) .fail (.ret (.inl ((iadd .i64 v60.1 (v64.length:Int)),(iadd .i64 v60.2 1))))))) (.ret (.inr v60.1)))) (.exit 0) (λv65=>⟨mk 36 [(0,.l 1 (eL 1 (eI .u8)) ([h1,h2,h3,h4,h5,h6,h7,h8]:List (LI))),(3,.i v65)],[none,none,none,none,none,none,none,none,none]⟩) λv65=>(.cl 9 1 (dv.ok k v65) λv68=>(.rS 10 1 26 (lm (eL 1 (eI .u8)) ([h1,h2,h3,h4,h5,h6,h7,h8]:List (LI))) (.nm 10 1 26 .i64 (([h1,h2,h3,h4,h5,h6,h7,h8]:List (LI)).length:Int) λv70=>(.loop (V:=Nat×Int×LI) (O:=Nat×LI) 11 (v68.1,(0:Int),v68.2) (λv80=>⟨mk 36 [(6,.c (.sl 9 1 0 v80.1 none)),(25,.l 1 (eL 1 (eI .u8)) ([h1,h2,h3,h4,h5,h6,h7,h8]:List (LI))),(26,.i v70),(27,.i v80.q1)],[none,none,none,none,none,none,none,none,none,bl 1 (eI .u8) v80.l2]⟩) (λv80=>(.bq 11 0 28 false (v80.q1<v70) (.op 12 0 (Rd.el (eL 1 (eI .u8)) ([h1,h2,h3,h4,h5,h6,h7,h8]:List (LI)) v80.q1) λv82=>(.op 13 2 (Rd.ft true [(0+v80.1)+(List.map (eI .u8) v82).length<=(List.map (eI .u8) v80.l2).length] ((0+v80.1)+v82.length<=v80.l2.length) (adU v80.l2 (0+v80.1) v82 (mX (eI .u8) v82))) λ_=>(.rS 13 2 33 (afL 9 1 0 v80.1 (mX (eI .u8) v82)) (.rB 13 2 9 (acI 1 v80.l2 (0+v80.1) v82 (mX (eI .u8) v82)) (.ret (.inl ((v80.1+v82.length),(iadd .i64 v80.q1 1),(overL v80.l2 (0+v80.1) v82)))))))) (.ret (.inr (v80.1,v80.l2))))) (.exit 2) (λv83=>⟨mk 36 [(6,.c (.sl 9 1 0 v83.1 none))],[none,none,none,none,none,none,none,none,none,bl 1 (eI .u8) v83.2]⟩) λv83=>(.as 15 900 (v83.1<=v83.2.length) λhc=>(.rB 15 900 10 (abd 1 (eI .u8) v83.2 v83.1) (.rS 15 900 6 (congrArg (λq=>A.c (.slw 10 1 q)) (aa7 hc)) (.ret (List.take v83.1 v83.2))))))))))))
theorem bS.ok:op k 142 ([.o 0 1 8],[some (.mix 1 [[.slw 1 1 h1.length],[.slw 2 1 h2.length],[.slw 3 1 h3.length],[.slw 4 1 h4.length],[.slw 5 1 h5.length],[.slw 6 1 h6.length],[.slw 7 1 h7.length],[.slw 8 1 h8.length]]),bl 1 (eI .u8) h1,bl 1 (eI .u8) h2,bl 1 (eI .u8) h3,bl 1 (eI .u8) h4,bl 1 (eI .u8) h5,bl 1 (eI .u8) h6,bl 1 (eI .u8) h7,bl 1 (eI .u8) h8]) (λv84=>(.o 9 1 v84.length,[none,none,none,none,none,none,none,none,none,bl 1 (eI .u8) v84])) (bS.f k h1 h2 h3 h4 h5 h6 h7 h8):=by apply oP (bS.s · h1 h2 h3 h4 h5 h6 h7 h8) k
end
def aP.b3(k:Nat)(l1:LI):(Int×LI)->Option ((Int×LI)⊕(LI)):=λ(x20,h21)=>(if x20<(l1.length:Int)then((at? l1 x20).bind λe26=>(if aac (h21.length+1) 1 then(some (.inl ((iadd .i64 x20 1),(h21++([(icv .u8 e26)]:LI)))))else none))else(some (.inr h21)))
def aP.f:Nat->LI->Option (LI)
 | 0,_=>none
 | k+1,l1=>((aJ.f k (l1.length:Int)).bind λr16=>((loopS (aP.b3 k l1) k ((0:Int),r16)).bind λh24=>(some h24)))
section
variable(k:Nat)(l1:LI)
noncomputable def aP.s:Sc (LI):=(.rS 1 1 7 (lm (eI .i64) l1) (.cl 1 2 (aJ.ok k (l1.length:Int)) λv17=>(.rS 2 1 10 (lm (eI .i64) l1) (.loop (V:=Int×LI) (O:=LI) 3 ((0:Int),v17) (λv25=>⟨mk 22 [(3,.o 0 1 v25.2.length),(9,.l 1 (eI .i64) l1),(10,.i (l1.length:Int)),(11,.i v25.1)],[bl 1 (eI .u8) v25.2]⟩) (λv25=>(.bq 3 0 12 false (v25.1<(l1.length:Int)) (.op 4 0 (Rd.el (eI .i64) l1 v25.1) λv27=>(.ch 5 4 (aac (v25.2.length+1) 1) (aad 1 v25.2.length ([(icv .u8 v27)]:LI) (mX (eI .u8) ([(icv .u8 v27)]:LI))) (.rS 5 4 19 (aae 2 1 v25.2 ([(icv .u8 v27)]:LI) (mX (eI .u8) ([(icv .u8 v27)]:LI))) (.rB 5 4 2 (aaf 1 (eI .u8) v25.2 ([(icv .u8 v27)]:LI) (mX (eI .u8) ([(icv .u8 v27)]:LI))) (.ret (.inl ((iadd .i64 v25.1 1),(v25.2++([(icv .u8 v27)]:LI))))))))) (.ret (.inr v25.2)))) (.exit 0) (λv28=>⟨mk 22 [(3,.o 0 1 v28.length)],[bl 1 (eI .u8) v28]⟩) λv28=>(.ret v28)))))
theorem aP.ok:op k 212 ([.l 1 (eI .i64) l1],[]) (λv29=>(.o 0 1 v29.length,[bl 1 (eI .u8) v29])) (aP.f k l1):=by apply oP (aP.s · l1) k
end
def be.b3(k:Nat)(h1 h2 h3:LI):(Int×Int)->Option ((Int×Int)⊕Int):=λ(size42,x43)=>(if x43<(([h1,h2,h3]:List (LI)).length:Int)then((at? ([h1,h2,h3]:List (LI)) x43).bind λe52=>(if(iadd .i64 size42 (e52.length:Int))<0 then none else(some (.inl ((iadd .i64 size42 (e52.length:Int)),(iadd .i64 x43 1))))))else(some (.inr size42)))
def be.b11(k:Nat)(h1 h2 h3:LI):(Nat×Int×LI)->Option ((Nat×Int×LI)⊕(Nat×LI)):=λ(newslice60,x61,h62)=>(if x61<(([h1,h2,h3]:List (LI)).length:Int)then((at? ([h1,h2,h3]:List (LI)) x61).bind λe68=>((if(0+newslice60)+e68.length<=h62.length then some ()else none).bind λ_=>(some (.inl ((newslice60+e68.length),(iadd .i64 x61 1),(overL h62 (0+newslice60) e68))))))else(some (.inr (newslice60,h62))))
def be.f:Nat->LI->LI->LI->Option (LI)
 | 0,_,_,_=>none
 | k+1,h1,h2,h3=>((loopS (be.b3 k h1 h2 h3) k ((0:Int),(0:Int))).bind λsize48=>((dv.f k size48).bind λ(r55,r56)=>((loopS (be.b11 k h1 h2 h3) k (r55,(0:Int),r56)).bind λ(newslice65,h66)=>(if newslice65<=h66.length then(some (List.take newslice65 h66))else none))))
section
variable(k:Nat)(h1 h2 h3:LI)
noncomputable def be.s:Sc (LI):=(.rS 2 1 10 (lm (eL 1 (eI .u8)) ([h1,h2,h3]:List (LI))) (.loop (V:=Int×Int) (O:=Int) 3 ((0:Int),(0:Int)) (λv49=>⟨mk 36 [(0,.l 1 (eL 1 (eI .u8)) ([h1,h2,h3]:List (LI))),(3,.i v49.1),(9,.l 1 (eL 1 (eI .u8)) ([h1,h2,h3]:List (LI))),(10,.i (([h1,h2,h3]:List (LI)).length:Int)),(11,.i v49.2)],[none,none,none,none]⟩) (λv49=>(.bq 3 0 12 false (v49.2<(([h1,h2,h3]:List (LI)).length:Int)) (.op 4 0 (Rd.el (eL 1 (eI .u8)) ([h1,h2,h3]:List (LI)) v49.2) λv53=>(.rS 5 2 17 (lm (eI .u8) v53) (.bq 6 1 20 false ((iadd .i64 v49.1 (v53.length:Int))<0) .fail (.ret (.inl ((iadd .i64 v49.1 (v53.length:Int)),(iadd .i64 v49.2 1))))))) (.ret (.inr v49.1)))) (.exit 0) (λv54=>⟨mk 36 [(0,.l 1 (eL 1 (eI .u8)) ([h1,h2,h3]:List (LI))),(3,.i v54)],[none,none,none,none]⟩) λv54=>(.cl 9 1 (dv.ok k v54) λv57=>(.rS 10 1 26 (lm (eL 1 (eI .u8)) ([h1,h2,h3]:List (LI))) (.loop (V:=Nat×Int×LI) (O:=Nat×LI) 11 (v57.1,(0:Int),v57.2) (λv67=>⟨mk 36 [(6,.c (.sl 4 1 0 v67.1 none)),(25,.l 1 (eL 1 (eI .u8)) ([h1,h2,h3]:List (LI))),(26,.i (([h1,h2,h3]:List (LI)).length:Int)),(27,.i v67.q1)],[none,none,none,none,bl 1 (eI .u8) v67.l2]⟩) (λv67=>(.bq 11 0 28 false (v67.q1<(([h1,h2,h3]:List (LI)).length:Int)) (.op 12 0 (Rd.el (eL 1 (eI .u8)) ([h1,h2,h3]:List (LI)) v67.q1) λv69=>(.op 13 2 (Rd.ft true [(0+v67.1)+(List.map (eI .u8) v69).length<=(List.map (eI .u8) v67.l2).length] ((0+v67.1)+v69.length<=v67.l2.length) (adU v67.l2 (0+v67.1) v69 (mX (eI .u8) v69))) λ_=>(.rS 13 2 33 (afL 4 1 0 v67.1 (mX (eI .u8) v69)) (.rB 13 2 4 (acI 1 v67.l2 (0+v67.1) v69 (mX (eI .u8) v69)) (.ret (.inl ((v67.1+v69.length),(iadd .i64 v67.q1 1),(overL v67.l2 (0+v67.1) v69)))))))) (.ret (.inr (v67.1,v67.l2))))) (.exit 2) (λv70=>⟨mk 36 [(6,.c (.sl 4 1 0 v70.1 none))],[none,none,none,none,bl 1 (eI .u8) v70.2]⟩) λv70=>(.as 15 900 (v70.1<=v70.2.length) λhc=>(.rB 15 900 5 (abd 1 (eI .u8) v70.2 v70.1) (.rS 15 900 6 (congrArg (λq=>A.c (.slw 5 1 q)) (aa7 hc)) (.ret (List.take v70.1 v70.2))))))))))
theorem be.ok:op k 142 ([.o 0 1 3],[some (.mix 1 [[.slw 1 1 h1.length],[.slw 2 1 h2.length],[.slw 3 1 h3.length]]),bl 1 (eI .u8) h1,bl 1 (eI .u8) h2,bl 1 (eI .u8) h3]) (λv71=>(.o 4 1 v71.length,[none,none,none,none,bl 1 (eI .u8) v71])) (be.f k h1 h2 h3):=by apply oP (be.s · h1 h2 h3) k
end
def bA.b3(k:Nat)(h1 h2:LI)(h3 h4 h5:LI):(Int×Int)->Option ((Int×Int)⊕Int):=λ(size44,x45)=>(if x45<(([h1,h2,h3,h4,h5]:List (LI)).length:Int)then((at? ([h1,h2,h3,h4,h5]:List (LI)) x45).bind λe54=>(if(iadd .i64 size44 (e54.length:Int))<0 then none else(some (.inl ((iadd .i64 size44 (e54.length:Int)),(iadd .i64 x45 1))))))else(some (.inr size44)))
def bA.b11(k:Nat)(h1 h2:LI)(h3 h4 h5:LI):(Nat×Int×LI)->Option ((Nat×Int×LI)⊕(Nat×LI)):=λ(newslice62,x63,h64)=>(if x63<(([h1,h2,h3,h4,h5]:List (LI)).length:Int)then((at? ([h1,h2,h3,h4,h5]:List (LI)) x63).bind λe70=>((if(0+newslice62)+e70.length<=h64.length then some ()else none).bind λ_=>(some (.inl ((newslice62+e70.length),(iadd .i64 x63 1),(overL h64 (0+newslice62) e70))))))else(some (.inr (newslice62,h64))))
def bA.f:Nat->LI->LI->LI->LI->LI->Option (LI)
 | 0,_,_,_,_,_=>none
 | k+1,h1,h2,h3,h4,h5=>((loopS (bA.b3 k h1 h2 h3 h4 h5) k ((0:Int),(0:Int))).bind λsize50=>((dv.f k size50).bind λ(r57,r58)=>((loopS (bA.b11 k h1 h2 h3 h4 h5) k (r57,(0:Int),r58)).bind λ(newslice67,h68)=>(if newslice67<=h68.length then(some (List.take newslice67 h68))else none))))
section
variable(k:Nat)(h1 h2:LI)(h3 h4 h5:LI)
noncomputable def bA.s:Sc (LI):=(.rS 2 1 10 (lm (eL 1 (eI .u8)) ([h1,h2,h3,h4,h5]:List (LI))) (.loop (V:=Int×Int) (O:=Int) 3 ((0:Int),(0:Int)) (λv51=>⟨mk 36 [(0,.l 1 (eL 1 (eI .u8)) ([h1,h2,h3,h4,h5]:List (LI))),(3,.i v51.1),(9,.l 1 (eL 1 (eI .u8)) ([h1,h2,h3,h4,h5]:List (LI))),(10,.i (([h1,h2,h3,h4,h5]:List (LI)).length:Int)),(11,.i v51.2)],[none,none,none,none,none,none]⟩) (λv51=>(.bq 3 0 12 false (v51.2<(([h1,h2,h3,h4,h5]:List (LI)).length:Int)) (.op 4 0 (Rd.el (eL 1 (eI .u8)) ([h1,h2,h3,h4,h5]:List (LI)) v51.2) λv55=>(.rS 5 2 17 (lm (eI .u8) v55) (.bq 6 1 20 false ((iadd .i64 v51.1 (v55.length:Int))<0) .fail (.ret (.inl ((iadd .i64 v51.1 (v55.length:Int)),(iadd .i64 v51.2 1))))))) (.ret (.inr v51.1)))) (.exit 0) (λv56=>⟨mk 36 [(0,.l 1 (eL 1 (eI .u8)) ([h1,h2,h3,h4,h5]:List (LI))),(3,.i v56)],[none,none,none,none,none,none]⟩) λv56=>(.cl 9 1 (dv.ok k v56) λv59=>(.rS 10 1 26 (lm (eL 1 (eI .u8)) ([h1,h2,h3,h4,h5]:List (LI))) (.loop (V:=Nat×Int×LI) (O:=Nat×LI) 11 (v59.1,(0:Int),v59.2) (λv69=>⟨mk 36 [(6,.c (.sl 6 1 0 v69.1 none)),(25,.l 1 (eL 1 (eI .u8)) ([h1,h2,h3,h4,h5]:List (LI))),(26,.i (([h1,h2,h3,h4,h5]:List (LI)).length:Int)),(27,.i v69.q1)],[none,none,none,none,none,none,bl 1 (eI .u8) v69.l2]⟩) (λv69=>(.bq 11 0 28 false (v69.q1<(([h1,h2,h3,h4,h5]:List (LI)).length:Int)) (.op 12 0 (Rd.el (eL 1 (eI .u8)) ([h1,h2,h3,h4,h5]:List (LI)) v69.q1) λv71=>(.op 13 2 (Rd.ft true [(0+v69.1)+(List.map (eI .u8) v71).length<=(List.map (eI .u8) v69.l2).length] ((0+v69.1)+v71.length<=v69.l2.length) (adU v69.l2 (0+v69.1) v71 (mX (eI .u8) v71))) λ_=>(.rS 13 2 33 (afL 6 1 0 v69.1 (mX (eI .u8) v71)) (.rB 13 2 6 (acI 1 v69.l2 (0+v69.1) v71 (mX (eI .u8) v71)) (.ret (.inl ((v69.1+v71.length),(iadd .i64 v69.q1 1),(overL v69.l2 (0+v69.1) v71)))))))) (.ret (.inr (v69.1,v69.l2))))) (.exit 2) (λv72=>⟨mk 36 [(6,.c (.sl 6 1 0 v72.1 none))],[none,none,none,none,none,none,bl 1 (eI .u8) v72.2]⟩) λv72=>(.as 15 900 (v72.1<=v72.2.length) λhc=>(.rB 15 900 7 (abd 1 (eI .u8) v72.2 v72.1) (.rS 15 900 6 (congrArg (λq=>A.c (.slw 7 1 q)) (aa7 hc)) (.ret (List.take v72.1 v72.2))))))))))
theorem bA.ok:op k 142 ([.o 0 1 5],[some (.mix 1 [[.slw 1 1 h1.length],[.slw 2 1 h2.length],[.slw 3 1 h3.length],[.slw 4 1 h4.length],[.slw 5 1 h5.length]]),bl 1 (eI .u8) h1,bl 1 (eI .u8) h2,bl 1 (eI .u8) h3,bl 1 (eI .u8) h4,bl 1 (eI .u8) h5]) (λv73=>(.o 6 1 v73.length,[none,none,none,none,none,none,bl 1 (eI .u8) v73])) (bA.f k h1 h2 h3 h4 h5):=by apply oP (bA.s · h1 h2 h3 h4 h5) k
end
def aZ.b3(k:Nat)(l1:LEx):(Int×LI)->Option ((Int×LI)⊕(LI)):=λ(x52,h53)=>(if x52<(l1.length:Int)then((at? l1 x52).bind λe66=>(if e66.Name.size<=140737488355328 then((aJ.f k (e66.Name.size:Int)).bind λr68=>((aJ.f k e66.Kind).bind λr70=>((aJ.f k e66.Index).bind λr72=>((bA.f k h53 r68 (strL e66.Name) r70 r72).bind λr74=>(some (.inl ((iadd .i64 x52 1),r74)))))))else none))else(some (.inr h53)))
def aZ.f:Nat->LEx->Option (LI)
 | 0,_=>none
 | k+1,l1=>((aJ.f k (l1.length:Int)).bind λr40=>((loopS (aZ.b3 k l1) k ((0:Int),r40)).bind λh64=>(some h64)))
section
variable(k:Nat)(l1:LEx)
noncomputable def aZ.s:Sc (LI):=(.rS 1 1 7 (lm aa.e l1) (.cl 1 2 (aJ.ok k (l1.length:Int)) λv41=>(.rS 2 1 10 (lm aa.e l1) (.loop (V:=Int×LI) (O:=LI) 3 ((0:Int),v41) (λv65=>⟨mk 33 [(3,.o 0 1 v65.2.length),(9,.l 3 aa.e l1),(10,.i (l1.length:Int)),(11,.i v65.1)],[bl 1 (eI .u8) v65.2]⟩) (λv65=>(.bq 3 0 12 false (v65.1<(l1.length:Int)) (.op 4 0 (Rd.el aa.e l1 v65.1) λv67=>(.ck 5 7 [v67.Name.size<=140737488355328] (.rS 5 7 22 (ag7 2 v67.Name) (.rB 5 7 2 (agV v67.Name) (.cl 5 4 (aJ.ok k (v67.Name.size:Int)) λv69=>(.cl 5 10 (aJ.ok k v67.Kind) λv71=>(.cl 5 13 (aJ.ok k v67.Index) λv73=>(.cl 5 15 (bA.ok k v65.2 v69 (strL v67.Name) v71 v73) λv75=>(.ret (.inl ((iadd .i64 v65.1 1),v75))))))))))) (.ret (.inr v65.2)))) (.exit 0) (λv76=>⟨mk 33 [(3,.o 0 1 v76.length)],[bl 1 (eI .u8) v76]⟩) λv76=>(.ret v76)))))
theorem aZ.ok:op k 213 ([.l 3 aa.e l1],[]) (λv77=>(.o 0 1 v77.length,[bl 1 (eI .u8) v77])) (aZ.f k l1):=by apply oP (aZ.s · l1) k
end
def aL.b5(k:Nat)(p1:ah):(Int×LI)->Option ((Int×LI)⊕(LI)):=λ(x91,h92)=>(if x91<(p1.Types.length:Int)then((at? p1.Types x91).bind λe103=>((aP.f k e103.Params).bind λr105=>((aP.f k e103.Results).bind λr107=>((be.f k h92 r105 r107).bind λr109=>(some (.inl ((iadd .i64 x91 1),r109)))))))else(some (.inr h92)))
def aL.f:Nat->ah->Option (Int×LI)
 | 0,_=>none
 | k+1,p1=>((bj.f k p1).bind λr63=>(if(!r63)=true then(some ((12:Int),([]:LI)))else((aR.f k p1.Slots.Globals).bind λr65=>((aR.f k p1.Layout.Base).bind λr67=>((aR.f k p1.Layout.Size).bind λr69=>((aR.f k p1.Layout.Grow).bind λr71=>((aJ.f k p1.Extra).bind λr73=>((aJ.f k p1.Mems).bind λr75=>((aJ.f k p1.Globals).bind λr77=>((aJ.f k (p1.Types.length:Int)).bind λr79=>((bS.f k r65 r67 r69 r71 r73 r75 r77 r79).bind λr81=>((loopS (aL.b5 k p1) k ((0:Int),r81)).bind λh101=>((aZ.f k p1.Names).bind λr112=>((aZ.f k p1.Hidden).bind λr114=>((be.f k h101 r112 r114).bind λr116=>(some ((0:Int),r116)))))))))))))))))
section
variable(k:Nat)(p1:ah)
noncomputable def aL.s:Sc (Int×LI):=(.cl 1 1 (bj.ok k p1) λv64=>(.br 1 2 9 (!v64) (.ret ((12:Int),([]:LI))) (.rS 3 27 37 (lm ab.e p1.Types) (.cl 3 3 (aR.ok k p1.Slots.Globals) λv66=>(.cl 3 7 (aR.ok k p1.Layout.Base) λv68=>(.cl 3 11 (aR.ok k p1.Layout.Size) λv70=>(.cl 3 15 (aR.ok k p1.Layout.Grow) λv72=>(.cl 3 18 (aJ.ok k p1.Extra) λv74=>(.cl 3 21 (aJ.ok k p1.Mems) λv76=>(.cl 3 24 (aJ.ok k p1.Globals) λv78=>(.cl 3 28 (aJ.ok k (p1.Types.length:Int)) λv80=>(.cl 3 30 (bS.ok k v66 v68 v70 v72 v74 v76 v78 v80) λv82=>(.rS 4 2 43 (lm ab.e p1.Types) (.loop (V:=Int×LI) (O:=LI) 5 ((0:Int),v82) (λv102=>⟨mk 67 [(1,.p 0 19 0 0),(4,.o 1 1 v102.2.length),(42,.l 2 ab.e p1.Types),(43,.i (p1.Types.length:Int)),(44,.i v102.1)],[k13 p1.Module.Types p1.Module.Imports p1.Module.Funcs p1.Module.Mems p1.Module.Globals p1.Module.Exports p1.Module.Datas p1.Module.Customs p1.Slots.Globals p1.Layout.Base p1.Layout.Size p1.Layout.Extra p1.Layout.Grow p1.Types p1.Names p1.Hidden p1.Extra p1.Mems p1.Globals,bl 1 (eI .u8) v102.2]⟩) (λv102=>(.bq 5 0 45 false (v102.1<(p1.Types.length:Int)) (.op 6 0 (Rd.el ab.e p1.Types v102.1) λv104=>(.cl 7 3 (aP.ok k v104.Params) λv106=>(.cl 7 6 (aP.ok k v104.Results) λv108=>(.cl 7 8 (be.ok k v102.2 v106 v108) λv110=>(.ret (.inl ((iadd .i64 v102.1 1),v110))))))) (.ret (.inr v102.2)))) (.exit 0) (λv111=>⟨mk 67 [(1,.p 0 19 0 0),(4,.o 1 1 v111.length)],[k13 p1.Module.Types p1.Module.Imports p1.Module.Funcs p1.Module.Mems p1.Module.Globals p1.Module.Exports p1.Module.Datas p1.Module.Customs p1.Slots.Globals p1.Layout.Base p1.Layout.Size p1.Layout.Extra p1.Layout.Grow p1.Types p1.Names p1.Hidden p1.Extra p1.Mems p1.Globals,bl 1 (eI .u8) v111]⟩) λv111=>(.cl 9 3 (aZ.ok k p1.Names) λv113=>(.cl 9 6 (aZ.ok k p1.Hidden) λv115=>(.cl 9 8 (be.ok k v111 v113 v115) λv117=>(.ret ((0:Int),v117)))))))))))))))))))
theorem aL.ok:op k 118 ([.agp [.l 2 ab.e p1.Module.Types,.l 3 ag.e p1.Module.Imports,.l 3 ai.e p1.Module.Funcs,.l 2 au.e p1.Module.Mems,.l 3 af.e p1.Module.Globals,.l 3 aa.e p1.Module.Exports,.l 4 aA.e p1.Module.Datas,.l 2 am.e p1.Module.Customs,.l 1 (eI .i64) p1.Slots.Globals,.l 1 (eI .i64) p1.Layout.Base,.l 1 (eI .i64) p1.Layout.Size,.i p1.Layout.Extra,.l 1 (eI .i64) p1.Layout.Grow,.l 2 ab.e p1.Types,.l 3 aa.e p1.Names,.l 3 aa.e p1.Hidden,.i p1.Extra,.i p1.Mems,.i p1.Globals]],[]) (λv118=>(.tup [.o 0 1 v118.2.length,.i v118.1],[bl 1 (eI .u8) v118.2])) (aL.f k p1):=by apply oP (aL.s · p1) k
end
def dZ.b2(k:Nat):(Int×LI)->Option ((Int×LI)⊕(Int×LI)):=λ(n9,h10)=>(if n9≥128 then(if aac (h10.length+1) 1 then(some (.inl ((iquo .u64 n9 128),(h10++([(iadd .u8 (icv .u8 (irem .u64 n9 128)) 128)]:LI)))))else none)else(some (.inr (n9,h10))))
def dZ.f:Nat->Int->Option (LI)
 | 0,_=>none
 | k+1,n1=>((loopS (dZ.b2 k) k (n1,([]:LI))).bind λ(n11,h12)=>(if aac (h12.length+1) 1 then(some (h12++([(icv .u8 n11)]:LI)))else none))
section
variable(k:Nat)(n1:Int)
noncomputable def dZ.s:Sc (LI):=(.loop (V:=Int×LI) (O:=Int×LI) 2 (n1,([]:LI)) (λv13=>⟨mk 20 [(0,.c (.v (.int .u64 v13.1))),(3,.o 0 1 v13.2.length)],[bl 1 (eI .u8) v13.2]⟩) (λv13=>(.bq 2 1 5 false (v13.1≥128) (.prf 3 2 [(128:Int)≠0] ⟨by decide,trivial⟩ (.ch 3 6 (aac (v13.2.length+1) 1) (aad 1 v13.2.length ([(iadd .u8 (icv .u8 (irem .u64 v13.1 128)) 128)]:LI) (mX (eI .u8) ([(iadd .u8 (icv .u8 (irem .u64 v13.1 128)) 128)]:LI))) (.rS 3 6 12 (aae 2 1 v13.2 ([(iadd .u8 (icv .u8 (irem .u64 v13.1 128)) 128)]:LI) (mX (eI .u8) ([(iadd .u8 (icv .u8 (irem .u64 v13.1 128)) 128)]:LI))) (.rB 3 6 2 (aaf 1 (eI .u8) v13.2 ([(iadd .u8 (icv .u8 (irem .u64 v13.1 128)) 128)]:LI) (mX (eI .u8) ([(iadd .u8 (icv .u8 (irem .u64 v13.1 128)) 128)]:LI))) (.prf 4 1 [(128:Int)≠0] ⟨by decide,trivial⟩ (.ret (.inl ((iquo .u64 v13.1 128),(v13.2++([(iadd .u8 (icv .u8 (irem .u64 v13.1 128)) 128)]:LI)))))))))) (.ret (.inr (v13.1,v13.2))))) (.exit 0) (λv14=>⟨mk 20 [(0,.c (.v (.int .u64 v14.1))),(3,.o 0 1 v14.2.length)],[bl 1 (eI .u8) v14.2]⟩) λv14=>(.ch 5 4 (aac (v14.2.length+1) 1) (aad 1 v14.2.length ([(icv .u8 v14.1)]:LI) (mX (eI .u8) ([(icv .u8 v14.1)]:LI))) (.rS 5 4 19 (aae 2 1 v14.2 ([(icv .u8 v14.1)]:LI) (mX (eI .u8) ([(icv .u8 v14.1)]:LI))) (.rB 5 4 2 (aaf 1 (eI .u8) v14.2 ([(icv .u8 v14.1)]:LI) (mX (eI .u8) ([(icv .u8 v14.1)]:LI))) (.ret (v14.2++([(icv .u8 v14.1)]:LI)))))))
theorem dZ.ok:op k 170 ([.c (.v (.int .u64 n1))],[]) (λv15=>(.o 0 1 v15.length,[bl 1 (eI .u8) v15])) (dZ.f k n1):=by apply oP (λ_=>dZ.s n1) k
end
def bB.f:Nat->Int->Option (LI)
 | 0,_=>none
 | k+1,n1=>((dZ.f k (icv .u64 n1)).bind λr5=>(some r5))
section
variable(k:Nat)(n1:Int)
noncomputable def bB.s:Sc (LI):=(.cl 1 2 (dZ.ok k (icv .u64 n1)) λv6=>(.ret v6))
theorem bB.ok:op k 122 ([.i n1],[]) (λv7=>(.o 0 1 v7.length,[bl 1 (eI .u8) v7])) (bB.f k n1):=by apply oP (bB.s · n1) k
end
def bw.b3(k:Nat)(l1:LI):(Int×LI)->Option ((Int×LI)⊕(LI)):=λ(x28,h29)=>(if x28<(l1.length:Int)then((at? l1 x28).bind λe36=>((bB.f k (iadd .i64 e36 1)).bind λr38=>(if aac (h29.length+r38.length) 1 then(some (.inl ((iadd .i64 x28 1),(h29++r38))))else none)))else(some (.inr h29)))
def bw.f:Nat->LI->Option (LI)
 | 0,_=>none
 | k+1,l1=>((bB.f k (l1.length:Int)).bind λr22=>((loopS (bw.b3 k l1) k ((0:Int),r22)).bind λh34=>(some h34)))
section
variable(k:Nat)(l1:LI)
noncomputable def bw.s:Sc (LI):=(.rS 1 1 6 (lm (eI .i64) l1) (.cl 1 2 (bB.ok k (l1.length:Int)) λv23=>(.rS 2 1 9 (lm (eI .i64) l1) (.loop (V:=Int×LI) (O:=LI) 3 ((0:Int),v23) (λv35=>⟨mk 23 [(0,.l 1 (eI .i64) l1),(3,.o 0 1 v35.2.length),(9,.i (l1.length:Int)),(10,.i v35.1)],[bl 1 (eI .u8) v35.2]⟩) (λv35=>(.bq 3 0 11 false (v35.1<(l1.length:Int)) (.op 5 3 (Rd.el (eI .i64) l1 v35.1) λv37=>(.cl 5 6 (bB.ok k (iadd .i64 v37 1)) λv39=>(.ch 5 7 (aac (v35.2.length+v39.length) 1) (aad 1 v35.2.length v39 (mX (eI .u8) v39)) (.rS 5 7 20 (aae 2 1 v35.2 v39 (mX (eI .u8) v39)) (.rB 5 7 2 (aaf 1 (eI .u8) v35.2 v39 (mX (eI .u8) v39)) (.ret (.inl ((iadd .i64 v35.1 1),(v35.2++v39))))))))) (.ret (.inr v35.2)))) (.exit 0) (λv40=>⟨mk 23 [(3,.o 0 1 v40.length)],[bl 1 (eI .u8) v40]⟩) λv40=>(.ret v40)))))
theorem bw.ok:op k 121 ([.l 1 (eI .i64) l1],[]) (λv41=>(.o 0 1 v41.length,[bl 1 (eI .u8) v41])) (bw.f k l1):=by apply oP (bw.s · l1) k
end
def bG.b3(k:Nat)(l1:LI):(Int×LI)->Option ((Int×LI)⊕(LI)):=λ(x20,h21)=>(if x20<(l1.length:Int)then((at? l1 x20).bind λe26=>(if aac (h21.length+1) 1 then(some (.inl ((iadd .i64 x20 1),(h21++([(icv .u8 e26)]:LI)))))else none))else(some (.inr h21)))
def bG.f:Nat->LI->Option (LI)
 | 0,_=>none
 | k+1,l1=>((bB.f k (l1.length:Int)).bind λr16=>((loopS (bG.b3 k l1) k ((0:Int),r16)).bind λh24=>(some h24)))
section
variable(k:Nat)(l1:LI)
noncomputable def bG.s:Sc (LI):=(.rS 1 1 6 (lm (eI .i64) l1) (.cl 1 2 (bB.ok k (l1.length:Int)) λv17=>(.rS 2 1 9 (lm (eI .i64) l1) (.loop (V:=Int×LI) (O:=LI) 3 ((0:Int),v17) (λv25=>⟨mk 23 [(0,.l 1 (eI .i64) l1),(3,.o 0 1 v25.2.length),(9,.i (l1.length:Int)),(10,.i v25.1)],[bl 1 (eI .u8) v25.2]⟩) (λv25=>(.bq 3 0 11 false (v25.1<(l1.length:Int)) (.op 5 3 (Rd.el (eI .i64) l1 v25.1) λv27=>(.ch 5 7 (aac (v25.2.length+1) 1) (aad 1 v25.2.length ([(icv .u8 v27)]:LI) (mX (eI .u8) ([(icv .u8 v27)]:LI))) (.rS 5 7 20 (aae 2 1 v25.2 ([(icv .u8 v27)]:LI) (mX (eI .u8) ([(icv .u8 v27)]:LI))) (.rB 5 7 2 (aaf 1 (eI .u8) v25.2 ([(icv .u8 v27)]:LI) (mX (eI .u8) ([(icv .u8 v27)]:LI))) (.ret (.inl ((iadd .i64 v25.1 1),(v25.2++([(icv .u8 v27)]:LI))))))))) (.ret (.inr v25.2)))) (.exit 0) (λv28=>⟨mk 23 [(3,.o 0 1 v28.length)],[bl 1 (eI .u8) v28]⟩) λv28=>(.ret v28)))))
theorem bG.ok:op k 123 ([.l 1 (eI .i64) l1],[]) (λv29=>(.o 0 1 v29.length,[bl 1 (eI .u8) v29])) (bG.f k l1):=by apply oP (bG.s · l1) k
end
def bH.b3(k:Nat)(l1:LEx):(Int×LI)->Option ((Int×LI)⊕(LI)):=λ(x44,h45)=>(if x44<(l1.length:Int)then((at? l1 x44).bind λe56=>((bB.f k (e56.Name.size:Int)).bind λr58=>(if aac (h45.length+r58.length) 1 then(if aac ((h45++r58).length+(strL e56.Name).length) 1 then((bB.f k e56.Kind).bind λr60=>(if aac (((h45++r58)++(strL e56.Name)).length+r60.length) 1 then((bB.f k e56.Index).bind λr62=>(if aac ((((h45++r58)++(strL e56.Name))++r60).length+r62.length) 1 then(some (.inl ((iadd .i64 x44 1),((((h45++r58)++(strL e56.Name))++r60)++r62))))else none))else none))else none)else none)))else(some (.inr h45)))
def bH.f:Nat->LEx->Option (LI)
 | 0,_=>none
 | k+1,l1=>((bB.f k (l1.length:Int)).bind λr34=>((loopS (bH.b3 k l1) k ((0:Int),r34)).bind λh54=>(some h54)))
section
variable(k:Nat)(l1:LEx)
noncomputable def bH.s:Sc (LI):=(.rS 1 1 7 (lm aa.e l1) (.cl 1 2 (bB.ok k (l1.length:Int)) λv35=>(.rS 2 1 10 (lm aa.e l1) (.loop (V:=Int×LI) (O:=LI) 3 ((0:Int),v35) (λv55=>⟨mk 34 [(3,.o 0 1 v55.2.length),(9,.l 3 aa.e l1),(10,.i (l1.length:Int)),(11,.i v55.1)],[bl 1 (eI .u8) v55.2]⟩) (λv55=>(.bq 3 0 12 false (v55.1<(l1.length:Int)) (.op 4 0 (Rd.el aa.e l1 v55.1) λv57=>(.cl 5 4 (bB.ok k (v57.Name.size:Int)) λv59=>(.ch 5 5 (aac (v55.2.length+v59.length) 1) (aad 1 v55.2.length v59 (mX (eI .u8) v59)) (.rS 5 5 20 (aae 3 1 v55.2 v59 (mX (eI .u8) v59)) (.rB 5 5 3 (aaf 1 (eI .u8) v55.2 v59 (mX (eI .u8) v59)) (.ch 5 8 (aac ((v55.2++v59).length+(strL v57.Name).length) 1) (aad 1 (v55.2++v59).length (strL v57.Name) (strX v57.Name)) (.rS 5 8 23 (aae 4 1 (v55.2++v59) (strL v57.Name) (strX v57.Name)) (.rB 5 8 4 (aaf 1 (eI .u8) (v55.2++v59) (strL v57.Name) (strX v57.Name)) (.cl 5 11 (bB.ok k v57.Kind) λv61=>(.ch 5 12 (aac (((v55.2++v59)++(strL v57.Name)).length+v61.length) 1) (aad 1 ((v55.2++v59)++(strL v57.Name)).length v61 (mX (eI .u8) v61)) (.rS 5 12 27 (aae 6 1 ((v55.2++v59)++(strL v57.Name)) v61 (mX (eI .u8) v61)) (.rB 5 12 6 (aaf 1 (eI .u8) ((v55.2++v59)++(strL v57.Name)) v61 (mX (eI .u8) v61)) (.cl 5 15 (bB.ok k v57.Index) λv63=>(.ch 5 16 (aac ((((v55.2++v59)++(strL v57.Name))++v61).length+v63.length) 1) (aad 1 (((v55.2++v59)++(strL v57.Name))++v61).length v63 (mX (eI .u8) v63)) (.rS 5 16 31 (aae 8 1 (((v55.2++v59)++(strL v57.Name))++v61) v63 (mX (eI .u8) v63)) (.rB 5 16 8 (aaf 1 (eI .u8) (((v55.2++v59)++(strL v57.Name))++v61) v63 (mX (eI .u8) v63)) (.ret (.inl ((iadd .i64 v55.1 1),((((v55.2++v59)++(strL v57.Name))++v61)++v63)))))))))))))))))))) (.ret (.inr v55.2)))) (.exit 0) (λv64=>⟨mk 34 [(3,.o 0 1 v64.length)],[bl 1 (eI .u8) v64]⟩) λv64=>(.ret v64)))))
theorem bH.ok:op k 124 ([.l 3 aa.e l1],[]) (λv65=>(.o 0 1 v65.length,[bl 1 (eI .u8) v65])) (bH.f k l1):=by apply oP (bH.s · l1) k
end
def bu.b5(k:Nat)(p1:ah):(Int×LI)->Option ((Int×LI)⊕(LI)):=λ(x68,h69)=>(if x68<(p1.Types.length:Int)then((at? p1.Types x68).bind λe78=>((bG.f k e78.Params).bind λr80=>(if aac (h69.length+r80.length) 1 then((bG.f k e78.Results).bind λr82=>(if aac ((h69++r80).length+r82.length) 1 then(some (.inl ((iadd .i64 x68 1),((h69++r80)++r82))))else none))else none)))else(some (.inr h69)))
def bu.f:Nat->ah->Option (LI)
 | 0,_=>none
 | k+1,p1=>((bw.f k p1.Slots.Globals).bind λr46=>((bw.f k p1.Layout.Base).bind λr48=>(if aac (r46.length+r48.length) 1 then((bw.f k p1.Layout.Size).bind λr50=>(if aac ((r46++r48).length+r50.length) 1 then((bw.f k p1.Layout.Grow).bind λr52=>(if aac (((r46++r48)++r50).length+r52.length) 1 then((bB.f k p1.Extra).bind λr54=>(if aac ((((r46++r48)++r50)++r52).length+r54.length) 1 then((bB.f k p1.Mems).bind λr56=>(if aac (((((r46++r48)++r50)++r52)++r54).length+r56.length) 1 then((bB.f k p1.Globals).bind λr58=>(if aac ((((((r46++r48)++r50)++r52)++r54)++r56).length+r58.length) 1 then((bB.f k (p1.Types.length:Int)).bind λr60=>(if aac (((((((r46++r48)++r50)++r52)++r54)++r56)++r58).length+r60.length) 1 then((loopS (bu.b5 k p1) k ((0:Int),(((((((r46++r48)++r50)++r52)++r54)++r56)++r58)++r60))).bind λh76=>((bH.f k p1.Names).bind λr85=>(if aac (h76.length+r85.length) 1 then((bH.f k p1.Hidden).bind λr87=>(if aac ((h76++r85).length+r87.length) 1 then(some ((h76++r85)++r87))else none))else none)))else none))else none))else none))else none))else none))else none))else none)))
section
variable(k:Nat)(p1:ah)
noncomputable def bu.s:Sc (LI):=(.cl 1 3 (bw.ok k p1.Slots.Globals) λv47=>(.cl 1 7 (bw.ok k p1.Layout.Base) λv49=>(.ch 1 8 (aac (v47.length+v49.length) 1) (aad 1 v47.length v49 (mX (eI .u8) v49)) (.rS 1 8 14 (aae 3 1 v47 v49 (mX (eI .u8) v49)) (.rB 1 8 3 (aaf 1 (eI .u8) v47 v49 (mX (eI .u8) v49)) (.cl 1 12 (bw.ok k p1.Layout.Size) λv51=>(.ch 1 13 (aac ((v47++v49).length+v51.length) 1) (aad 1 (v47++v49).length v51 (mX (eI .u8) v51)) (.rS 1 13 19 (aae 5 1 (v47++v49) v51 (mX (eI .u8) v51)) (.rB 1 13 5 (aaf 1 (eI .u8) (v47++v49) v51 (mX (eI .u8) v51)) (.cl 1 17 (bw.ok k p1.Layout.Grow) λv53=>(.ch 1 18 (aac (((v47++v49)++v51).length+v53.length) 1) (aad 1 ((v47++v49)++v51).length v53 (mX (eI .u8) v53)) (.rS 1 18 24 (aae 7 1 ((v47++v49)++v51) v53 (mX (eI .u8) v53)) (.rB 1 18 7 (aaf 1 (eI .u8) ((v47++v49)++v51) v53 (mX (eI .u8) v53)) (.cl 2 3 (bB.ok k p1.Extra) λv55=>(.ch 2 4 (aac ((((v47++v49)++v51)++v53).length+v55.length) 1) (aad 1 (((v47++v49)++v51)++v53).length v55 (mX (eI .u8) v55)) (.rS 2 4 29 (aae 9 1 (((v47++v49)++v51)++v53) v55 (mX (eI .u8) v55)) (.rB 2 4 9 (aaf 1 (eI .u8) (((v47++v49)++v51)++v53) v55 (mX (eI .u8) v55)) (.cl 2 7 (bB.ok k p1.Mems) λv57=>(.ch 2 8 (aac (((((v47++v49)++v51)++v53)++v55).length+v57.length) 1) (aad 1 ((((v47++v49)++v51)++v53)++v55).length v57 (mX (eI .u8) v57)) (.rS 2 8 33 (aae 11 1 ((((v47++v49)++v51)++v53)++v55) v57 (mX (eI .u8) v57)) (.rB 2 8 11 (aaf 1 (eI .u8) ((((v47++v49)++v51)++v53)++v55) v57 (mX (eI .u8) v57)) (.cl 2 11 (bB.ok k p1.Globals) λv59=>(.ch 2 12 (aac ((((((v47++v49)++v51)++v53)++v55)++v57).length+v59.length) 1) (aad 1 (((((v47++v49)++v51)++v53)++v55)++v57).length v59 (mX (eI .u8) v59)) (.rS 2 12 37 (aae 13 1 (((((v47++v49)++v51)++v53)++v55)++v57) v59 (mX (eI .u8) v59)) (.rB 2 12 13 (aaf 1 (eI .u8) (((((v47++v49)++v51)++v53)++v55)++v57) v59 (mX (eI .u8) v59)) (.rS 3 3 41 (lm ab.e p1.Types) (.cl 3 4 (bB.ok k (p1.Types.length:Int)) λv61=>(.ch 3 5 (aac (((((((v47++v49)++v51)++v53)++v55)++v57)++v59).length+v61.length) 1) (aad 1 ((((((v47++v49)++v51)++v53)++v55)++v57)++v59).length v61 (mX (eI .u8) v61)) (.rS 3 5 43 (aae 15 1 ((((((v47++v49)++v51)++v53)++v55)++v57)++v59) v61 (mX (eI .u8) v61)) (.rB 3 5 15 (aaf 1 (eI .u8) ((((((v47++v49)++v51)++v53)++v55)++v57)++v59) v61 (mX (eI .u8) v61)) (.rS 4 2 46 (lm ab.e p1.Types) (.loop (V:=Int×LI) (O:=LI) 5 ((0:Int),(((((((v47++v49)++v51)++v53)++v55)++v57)++v59)++v61)) (λv77=>⟨mk 70 [(1,.p 0 19 0 0),(3,.o 1 1 v77.2.length),(45,.l 2 ab.e p1.Types),(46,.i (p1.Types.length:Int)),(47,.i v77.1)],[k13 p1.Module.Types p1.Module.Imports p1.Module.Funcs p1.Module.Mems p1.Module.Globals p1.Module.Exports p1.Module.Datas p1.Module.Customs p1.Slots.Globals p1.Layout.Base p1.Layout.Size p1.Layout.Extra p1.Layout.Grow p1.Types p1.Names p1.Hidden p1.Extra p1.Mems p1.Globals,bl 1 (eI .u8) v77.2]⟩) (λv77=>(.bq 5 0 48 false (v77.1<(p1.Types.length:Int)) (.op 6 0 (Rd.el ab.e p1.Types v77.1) λv79=>(.cl 7 3 (bG.ok k v79.Params) λv81=>(.ch 7 4 (aac (v77.2.length+v81.length) 1) (aad 1 v77.2.length v81 (mX (eI .u8) v81)) (.rS 7 4 55 (aae 4 1 v77.2 v81 (mX (eI .u8) v81)) (.rB 7 4 4 (aaf 1 (eI .u8) v77.2 v81 (mX (eI .u8) v81)) (.cl 7 7 (bG.ok k v79.Results) λv83=>(.ch 7 8 (aac ((v77.2++v81).length+v83.length) 1) (aad 1 (v77.2++v81).length v83 (mX (eI .u8) v83)) (.rS 7 8 59 (aae 6 1 (v77.2++v81) v83 (mX (eI .u8) v83)) (.rB 7 8 6 (aaf 1 (eI .u8) (v77.2++v81) v83 (mX (eI .u8) v83)) (.ret (.inl ((iadd .i64 v77.1 1),((v77.2++v81)++v83))))))))))))) (.ret (.inr v77.2)))) (.exit 0) (λv84=>⟨mk 70 [(1,.p 0 19 0 0),(3,.o 1 1 v84.length)],[k13 p1.Module.Types p1.Module.Imports p1.Module.Funcs p1.Module.Mems p1.Module.Globals p1.Module.Exports p1.Module.Datas p1.Module.Customs p1.Slots.Globals p1.Layout.Base p1.Layout.Size p1.Layout.Extra p1.Layout.Grow p1.Types p1.Names p1.Hidden p1.Extra p1.Mems p1.Globals,bl 1 (eI .u8) v84]⟩) λv84=>(.cl 9 3 (bH.ok k p1.Names) λv86=>(.ch 9 4 (aac (v84.length+v86.length) 1) (aad 1 v84.length v86 (mX (eI .u8) v86)) (.rS 9 4 65 (aae 3 1 v84 v86 (mX (eI .u8) v86)) (.rB 9 4 3 (aaf 1 (eI .u8) v84 v86 (mX (eI .u8) v86)) (.cl 9 7 (bH.ok k p1.Hidden) λv88=>(.ch 9 8 (aac ((v84++v86).length+v88.length) 1) (aad 1 (v84++v86).length v88 (mX (eI .u8) v88)) (.rS 9 8 69 (aae 5 1 (v84++v86) v88 (mX (eI .u8) v88)) (.rB 9 8 5 (aaf 1 (eI .u8) (v84++v86) v88 (mX (eI .u8) v88)) (.ret ((v84++v86)++v88))))))))))))))))))))))))))))))))))))))))))
theorem bu.ok:op k 35 ([.agp [.l 2 ab.e p1.Module.Types,.l 3 ag.e p1.Module.Imports,.l 3 ai.e p1.Module.Funcs,.l 2 au.e p1.Module.Mems,.l 3 af.e p1.Module.Globals,.l 3 aa.e p1.Module.Exports,.l 4 aA.e p1.Module.Datas,.l 2 am.e p1.Module.Customs,.l 1 (eI .i64) p1.Slots.Globals,.l 1 (eI .i64) p1.Layout.Base,.l 1 (eI .i64) p1.Layout.Size,.i p1.Layout.Extra,.l 1 (eI .i64) p1.Layout.Grow,.l 2 ab.e p1.Types,.l 3 aa.e p1.Names,.l 3 aa.e p1.Hidden,.i p1.Extra,.i p1.Mems,.i p1.Globals]],[]) (λv89=>(.o 0 1 v89.length,[bl 1 (eI .u8) v89])) (bu.f k p1):=by apply oP (bu.s · p1) k
end
end Go.R4
