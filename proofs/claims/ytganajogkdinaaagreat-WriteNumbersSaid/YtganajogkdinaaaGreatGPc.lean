import Derived.Test.YtganajogkdinaaaGreatGPb
import Derived.KernelRfl
set_option linter.all false
namespace Go.R4
open Go.Proofs Go.Ev
set_option maxRecDepth 100000
def dC.f:Nat->an->Option (Bool)
 | 0,_=>none
 | k+1,m1=>(if(m1.Types.length:Int)>64 then(some true)else(if(iadd .i64 (m1.Imports.length:Int) (m1.Funcs.length:Int))>256 then(some true)else(if(m1.Mems.length:Int)>4 then(some true)else(if(m1.Globals.length:Int)>256 then(some true)else(if(m1.Datas.length:Int)>16 then(some true)else(if(m1.Exports.length:Int)>256 then(some true)else(some (decide ((m1.Customs.length:Int)>16)))))))))
section
variable(k:Nat)(m1:an)
noncomputable def dC.s:Sc (Bool):=(.rS 1 2 5 (lm af.e m1.Types) (.bq 1 4 7 false ((m1.Types.length:Int)>64) (.ret true) (.rS 1 7 10 (lm ak.e m1.Imports) (.rS 1 10 13 (lm aj.e m1.Funcs) (.bq 1 14 17 false ((iadd .i64 (m1.Imports.length:Int) (m1.Funcs.length:Int))>256) (.ret true) (.rS 1 17 20 (lm au.e m1.Mems) (.bq 1 20 23 false ((m1.Mems.length:Int)>4) (.ret true) (.rS 1 23 26 (lm ai.e m1.Globals) (.bq 1 26 29 false ((m1.Globals.length:Int)>256) (.ret true) (.rS 1 29 32 (lm aA.e m1.Datas) (.bq 1 32 35 false ((m1.Datas.length:Int)>16) (.ret true) (.rS 1 35 38 (lm ae.e m1.Exports) (.bq 1 38 41 false ((m1.Exports.length:Int)>256) (.ret true) (.rS 1 41 44 (lm aI.e m1.Customs) (.ret (decide ((m1.Customs.length:Int)>16)))))))))))))))))
theorem dC.ok:op k 96 ([.agp (w6 m1)],[]) (λv3=>(.b v3,[])) (dC.f k m1):=by apply oB (λ_=>dC.s m1) k
end
def cX.f:Nat->Int->Option (Bool)
 | 0,_=>none
 | k+1,t1=>(if t1=127 then(some false)else(if t1=126 then(some false)else(some (!decide (t1=124)))))
section
variable(k:Nat)(t1:Int)
noncomputable def cX.s:Sc (Bool):=(.bq 1 2 5 true (t1=127) (.ret false) (.bq 1 6 9 true (t1=126) (.ret false) (.ret (!decide (t1=124)))))
theorem cX.ok:op k 204 ([.i t1],[]) (λv3=>(.b v3,[])) (cX.f k t1):=by apply oP (λ_=>cX.s t1) k
end
def ci.b2(k:Nat)(s1:LI):Int->Option (Int⊕(Unit⊕Int)):=λx40=>(if x40<(s1.length:Int)then((at? s1 x40).bind λe55=>((cX.f k e55).bind λr57=>(if r57=true then(some (.inr (.inr x40)))else(some (.inl (iadd .i64 x40 1))))))else(some (.inr (.inl ()))))
def ci.f:Nat->LI->Option (Int)
 | 0,_=>none
 | k+1,s1=>(altB (loopS (ci.b2 k s1) k (0:Int)) (λ_=>(some (-1:Int))) (λx49=>(some x49)))
section
variable(k:Nat)(s1:LI)
noncomputable def ci.s:Sc (Int):=(.rS 1 1 7 (lm (eI .i64) s1) (.loop2 (V:=Int) (O:=Unit) (O2:=Int) 2 (0:Int) (λv50=>⟨mk 19 [(0,.l 1 (eI .i64) s1),(1,.c (.v (.fn 204 []))),(7,.i (s1.length:Int)),(8,.i v50)],[]⟩) (λv50=>(.bq 2 0 9 false (v50<(s1.length:Int)) (.op 4 3 (Rd.el (eI .i64) s1 v50) λv56=>(.cl 4 5 (cX.ok k v56) λv58=>(.br 4 5 16 v58 (.ret (.inr (.inr v50))) (.ret (.inl (iadd .i64 v50 1)))))) (.ret (.inr (.inl ()))))) (.exit 0) (λv59=>⟨mk 19 [],[]⟩) (λv59=>(.ret (-1:Int))) .ret (λv60=>⟨mk 19 [(4,.i v60)],[]⟩) λv60=>(.ret v60)))
theorem ci.ok:op k 264 ([.l 1 (eI .i64) s1,.c (.v (.fn 204 []))],[]) (λv61=>(.i v61,[])) (ci.f k s1):=by apply oB (ci.s · s1) k
end
def ce.f:Nat->LI->Option (Bool)
 | 0,_=>none
 | k+1,s1=>((ci.f k s1).bind λr5=>(some (decide (r5≥0))))
section
variable(k:Nat)(s1:LI)
noncomputable def ce.s:Sc (Bool):=(.cl 1 2 (ci.ok k s1) λv6=>(.ret (decide (v6≥0))))
theorem ce.ok:op k 180 ([.l 1 (eI .i64) s1,.c (.v (.fn 204 []))],[]) (λv7=>(.b v7,[])) (ce.f k s1):=by apply oB (ce.s · s1) k
end
def ba.f:Nat->LI->Option (Bool)
 | 0,_=>none
 | k+1,l1=>((ce.f k l1).bind λr5=>(some (!r5)))
section
variable(k:Nat)(l1:LI)
noncomputable def ba.s:Sc (Bool):=(.cl 1 1 (ce.ok k l1) λv6=>(.ret (!v6)))
theorem ba.ok:op k 112 ([.l 1 (eI .i64) l1],[]) (λv7=>(.b v7,[])) (ba.f k l1):=by apply oB (ba.s · l1) k
end
def dx.f:Nat->af->Option (Bool)
 | 0,_=>none
 | k+1,t1=>(if(t1.Params.length:Int)<=8 then(if(t1.Results.length:Int)<=8 then((ba.f k t1.Params).bind λr7=>(if r7=true then((ba.f k t1.Results).bind λr9=>(some r9))else(some false)))else(some false))else(some false))
section
variable(k:Nat)(t1:af)
noncomputable def dx.s:Sc (Bool):=(.rS 1 2 5 (lm (eI .i64) t1.Params) (.bq 1 4 7 false ((t1.Params.length:Int)<=8) (.rS 1 7 10 (lm (eI .i64) t1.Results) (.bq 1 10 13 false ((t1.Results.length:Int)<=8) (.cl 1 13 (ba.ok k t1.Params) λv8=>(.br 1 15 18 v8 (.cl 1 18 (ba.ok k t1.Results) λv10=>(.ret v10)) (.ret false))) (.ret false))) (.ret false)))
theorem dx.ok:op k 98 ([.agp [.l 1 (eI .i64) t1.Params,.l 1 (eI .i64) t1.Results]],[]) (λv11=>(.b v11,[])) (dx.f k t1):=by apply oB (dx.s · t1) k
end
def dg.f:Nat->af->Option (Bool)
 | 0,_=>none
 | k+1,x1=>((dx.f k x1).bind λr5=>(some (!r5)))
section
variable(k:Nat)(x1:af)
noncomputable def dg.s:Sc (Bool):=(.cl 1 2 (dx.ok k x1) λv6=>(.ret (!v6)))
theorem dg.ok:op k 190 ([.agp [.l 1 (eI .i64) x1.Params,.l 1 (eI .i64) x1.Results],.c (.v (.ref [.fn 98 []]))],[]) (λv7=>(.b v7,[])) (dg.f k x1):=by apply oB (dg.s · x1) k
end
def cv.b2(k:Nat)(s1:LTy):Int->Option (Int⊕(Unit⊕Int)):=λx40=>(if x40<(s1.length:Int)then((at? s1 x40).bind λe55=>((dg.f k e55).bind λr57=>(if r57=true then(some (.inr (.inr x40)))else(some (.inl (iadd .i64 x40 1))))))else(some (.inr (.inl ()))))
def cv.f:Nat->LTy->Option (Int)
 | 0,_=>none
 | k+1,s1=>(altB (loopS (cv.b2 k s1) k (0:Int)) (λ_=>(some (-1:Int))) (λx49=>(some x49)))
section
variable(k:Nat)(s1:LTy)
noncomputable def cv.s:Sc (Int):=(.rS 1 1 7 (lm af.e s1) (.loop2 (V:=Int) (O:=Unit) (O2:=Int) 2 (0:Int) (λv50=>⟨mk 19 [(0,.l 2 af.e s1),(1,.c (.fn 190 [.ptr 0 1 0 0])),(7,.i (s1.length:Int)),(8,.i v50)],[bp 1 [.fn 98 []]]⟩) (λv50=>(.bq 2 0 9 false (v50<(s1.length:Int)) (.op 4 3 (Rd.el af.e s1 v50) λv56=>(.op 4 5 (Rd.bcall (args:=[.agp [.l 1 (eI .i64) v56.Params,.l 1 (eI .i64) v56.Results],.p 0 1 0 0]) (h:=[bp 1 [.fn 98 []]]) (dg.ok k v56) rfl rfl (by kernel_rfl) rfl (by kernel_rfl)) λv58=>(.br 4 5 16 v58 (.ret (.inr (.inr v50))) (.ret (.inl (iadd .i64 v50 1)))))) (.ret (.inr (.inl ()))))) (.exit 0) (λv59=>⟨mk 19 [],[bp 1 [.fn 98 []]]⟩) (λv59=>(.ret (-1:Int))) .ret (λv60=>⟨mk 19 [(4,.i v60)],[bp 1 [.fn 98 []]]⟩) λv60=>(.ret v60)))
theorem cv.ok:op k 268 ([.l 2 af.e s1,.c (.fn 190 [.ptr 0 1 0 0])],[bp 1 [.fn 98 []]]) (λv61=>(.i v61,[bp 1 [.fn 98 []]])) (cv.f k s1):=by apply oP (cv.s · s1) k
end
def bX.f:Nat->LTy->Option (Bool)
 | 0,_=>none
 | k+1,s1=>((cv.f k s1).bind λr5=>(some (decide (r5≥0))))
section
variable(k:Nat)(s1:LTy)
noncomputable def bX.s:Sc (Bool):=(.cl 1 2 (cv.ok k s1) λv6=>(.ret (decide (v6≥0))))
theorem bX.ok:op k 189 ([.l 2 af.e s1,.c (.fn 190 [.ptr 0 1 0 0])],[bp 1 [.fn 98 []]]) (λv7=>(.b v7,[bp 1 [.fn 98 []]])) (bX.f k s1):=by apply oP (bX.s · s1) k
end
def cM.f:Nat->LTy->Option (Bool)
 | 0,_=>none
 | k+1,l1=>((bX.f k l1).bind λr5=>(some (!r5)))
section
variable(k:Nat)(l1:LTy)
noncomputable def cM.s:Sc (Bool):=(.cl 1 2 (bX.ok k l1) λv6=>(.ret (!v6)))
theorem cM.ok:op k 97 ([.l 2 af.e l1,.c (.v (.fn 98 []))],[]) (λv7=>(.b v7,[])) (cM.f k l1):=by apply oB (cM.s · l1) k
end
def ez.f:Nat->Option (List aG)
 | 0=>none
 | k+1=>(some ([(aG.mk (128:Int) (0:Int) (0:Int) (0:Int)),(aG.mk (224:Int) (192:Int) (1:Int) (128:Int)),(aG.mk (240:Int) (224:Int) (2:Int) (2048:Int)),(aG.mk (248:Int) (240:Int) (3:Int) (65536:Int))]:List aG))
section
variable(k:Nat)
noncomputable def ez.s:Sc (List aG):=(.ret ([(aG.mk (128:Int) (0:Int) (0:Int) (0:Int)),(aG.mk (224:Int) (192:Int) (1:Int) (128:Int)),(aG.mk (240:Int) (224:Int) (2:Int) (2048:Int)),(aG.mk (248:Int) (240:Int) (3:Int) (65536:Int))]:List aG))
theorem ez.ok:op k 339 ([],[]) (λv2=>(.o 0 4 v2.length,[bl 4 aG.e v2])) (ez.f k):=by apply oP (λ_=>ez.s) k
end
def aE.b7(k:Nat)(b1:LI)(e383:aG)(y391:Int):(Int×Int)->Option ((Int×Int)⊕(Int⊕Int)):=λ(v401,x402)=>(if x402<y391 then((at? (List.drop 1 (List.take (((iadd .i64 1 e383.more)).toNat) b1)) x402).bind λe412=>(if(iand .u8 e412 192)=128 then(some (.inl ((ior .u32 (ishl .u32 v401 6) (icv .u32 (iand .u8 e412 63))),(iadd .i64 x402 1))))else(some (.inr (.inr v401)))))else(some (.inr (.inl v401))))
def aE.b2(k:Nat)(b1:LI)(r211:List aG):Int->Option (Int⊕(Unit⊕Int)):=λx280=>(if x280<(r211.length:Int)then(segB (if(0:Int)<=x280/\x280<(r211.length:Int)then(r211[(x280).toNat]?.bind λe383=>((at? b1 0).bind λe387=>(if(iand .u8 e387 e383.mask)=e383.mark then(if(b1.length:Int)<=e383.more then(some (.inl ()))else((at? b1 0).bind λe389=>(if 0<=(1:Int)/\1<=(iadd .i64 1 e383.more)/\(iadd .i64 1 e383.more)<=(b1.length:Int)then(let y391:Int:=((List.drop 1 (List.take (((iadd .i64 1 e383.more)).toNat) b1)).length:Int);(altB (loopS (aE.b7 k b1 e383 y391) k ((icv .u32 (adf .u8 e389 e383.mask)),(0:Int))) (λv407=>(if v407<e383.least then(some (.inr (.inr (.inr (0:Int)))))else(if v407≥55296 then(if v407<=57343 then(some (.inr (.inr (.inr (0:Int)))))else(if v407>1114111 then(some (.inr (.inr (.inr (0:Int)))))else(some (.inr (.inr (.inr (iadd .i64 1 e383.more)))))))else(if v407>1114111 then(some (.inr (.inr (.inr (0:Int)))))else(some (.inr (.inr (.inr (iadd .i64 1 e383.more))))))))) (λv408=>(some (.inr (.inr (.inr (0:Int))))))))else none)))else(some (.inl ())))))else none) (λ_=>(some (.inl (iadd .i64 x280 1)))))else(some (.inr (.inl ()))))
def aE.f:Nat->LI->Option (Int)
 | 0,_=>none
 | k+1,b1=>((ez.f k).bind λr211=>(altB (loopS (aE.b2 k b1 r211) k (0:Int)) (λ_=>(some (0:Int))) (λx348=>(some x348))))
section
variable(k:Nat)(b1:LI)
noncomputable def aE.s:Sc (Int):=(.cl 1 0 (ez.ok k) λv212=>(.loop2 (V:=Int) (O:=Unit) (O2:=Int) 2 (0:Int) (λv349=>⟨mk 77 [(0,.l 1 (eI .u8) b1),(8,.o 0 4 v212.length),(9,.i (v212.length:Int)),(10,.i v349)],[bl 4 aG.e v212]⟩) (λv349=>(.bq 2 0 11 false (v349<(v212.length:Int)) (.seg (O:=Unit) 16 (.ck 3 0 [(0:Int)<=v349,v349<(v212.length:Int)] (.op 3 1 (Rd.ld 4 aG.e v212 ((v349).toNat)) λv384=>(.op 4 1 (Rd.el (eI .u8) b1 (0:Int)) λv388=>(.bq 4 9 23 true ((iand .u8 v388 v384.mask)=v384.mark) (.rS 4 11 25 (lm (eI .u8) b1) (.bq 4 15 29 false ((b1.length:Int)<=v384.more) (.ret (.inl ())) (.op 5 1 (Rd.el (eI .u8) b1 (0:Int)) λv390=>(.ch 6 4 (0<=(1:Int)/\1<=(iadd .i64 1 v384.more)/\(iadd .i64 1 v384.more)<=(b1.length:Int)) (anX (eI .u8) b1 1 (iadd .i64 1 v384.more)) (.rS 6 4 41 (aoG 1 (eI .u8) b1 1 (iadd .i64 1 v384.more) none) (.rS 6 5 42 (lm (eI .u8) (List.drop 1 (List.take (((iadd .i64 1 v384.more)).toNat) b1))) (.nm 6 5 42 .i64 ((List.drop 1 (List.take (((iadd .i64 1 v384.more)).toNat) b1)).length:Int) λv392=>(.loop2 (V:=Int×Int) (O:=Int) (O2:=Int) 7 ((icv .u32 (adf .u8 v390 v384.mask)),(0:Int)) (λv409=>⟨mk 77 [(4,.p 0 4 0 0),(5,.c (.v (.int .u32 v409.1))),(41,.l 1 (eI .u8) (List.drop 1 (List.take (((iadd .i64 1 v384.more)).toNat) b1))),(42,.i v392),(43,.i v409.2)],[bp 4 [.int .u8 v384.mask,.int .u8 v384.mark,.i v384.more,.int .u32 v384.least]]⟩) (λv409=>(.bq 7 0 44 false (v409.2<v392) (.op 8 0 (Rd.el (eI .u8) (List.drop 1 (List.take (((iadd .i64 1 v384.more)).toNat) b1)) v409.2) λv413=>(.bq 9 2 49 true ((iand .u8 v413 192)=128) (.prf 11 1 [(0:Int)<=6] ⟨by decide,trivial⟩ (.ret (.inl ((ior .u32 (ishl .u32 v409.1 6) (icv .u32 (iand .u8 v413 63))),(iadd .i64 v409.2 1))))) (.ret (.inr (.inr v409.1))))) (.ret (.inr (.inl v409.1))))) (.exit 2) (λv414=>⟨mk 77 [(4,.p 0 4 0 0),(5,.c (.v (.int .u32 v414)))],[bp 4 [.int .u8 v384.mask,.int .u8 v384.mark,.i v384.more,.int .u32 v384.least]]⟩) (λv414=>(.bq 13 4 61 false (v414<v384.least) (.ret (.inr (.inr (.inr (0:Int))))) (.bq 13 7 64 false (v414≥55296) (.bq 13 12 69 false (v414<=57343) (.ret (.inr (.inr (.inr (0:Int))))) (.bq 13 15 72 false (v414>1114111) (.ret (.inr (.inr (.inr (0:Int))))) (.ret (.inr (.inr (.inr (iadd .i64 1 v384.more))))))) (.bq 13 15 72 false (v414>1114111) (.ret (.inr (.inr (.inr (0:Int))))) (.ret (.inr (.inr (.inr (iadd .i64 1 v384.more))))))))) .ret (λv415=>⟨mk 77 [(2,.i 0),(4,.p 0 4 0 0),(5,.c (.v (.int .u32 v415)))],[bp 4 [.int .u8 v384.mask,.int .u8 v384.mark,.i v384.more,.int .u32 v384.least]]⟩) λv415=>(.ret (.inr (.inr (.inr (0:Int))))))))))))) (.ret (.inl ())))))) (λv416=>⟨mk 77 [(0,.l 1 (eI .u8) b1),(8,.o 0 4 v212.length),(9,.i (v212.length:Int)),(10,.i v349)],[bl 4 aG.e v212]⟩) λv416=>(.ret (.inl (iadd .i64 v349 1)))) (.ret (.inr (.inl ()))))) (.exit 0) (λv417=>⟨mk 77 [],[]⟩) (λv417=>(.ret (0:Int))) .ret (λv418=>⟨mk 77 [(2,.i v418)],[]⟩) λv418=>(.ret v418)))
theorem aE.ok:op k 316 ([.l 1 (eI .u8) b1],[]) (λv419=>(.i v419,[])) (aE.f k b1):=by apply oB (aE.s · b1) k
end
def bG.b2(k:Nat):(LI×Int)->Option ((LI×Int)⊕(Int⊕Int)):=λ(b18,n19)=>(if(b18.length:Int)>0 then((aE.f k b18).bind λr25=>(if r25=0 then(some (.inr (.inr n19)))else(if 0<=r25/\r25<=(b18.length:Int)then(some (.inl ((List.drop ((r25).toNat) b18),(iadd .i64 n19 1))))else none)))else(some (.inr (.inl n19))))
def bG.f:Nat->LI->Option (Int)
 | 0,_=>none
 | k+1,b1=>(altB (loopS (bG.b2 k) k (b1,(0:Int))) (λn22=>(some n22)) (λn23=>(some (-1:Int))))
section
variable(k:Nat)(b1:LI)
noncomputable def bG.s:Sc (Int):=(.loop2 (V:=LI×Int) (O:=Int) (O2:=Int) 2 (b1,(0:Int)) (λv24=>⟨mk 18 [(0,.l 1 (eI .u8) v24.1),(3,.i v24.2)],[]⟩) (λv24=>(.rS 2 1 6 (lm (eI .u8) v24.1) (.bq 2 2 7 false ((v24.1.length:Int)>0) (.cl 3 1 (aE.ok k v24.1) λv26=>(.bq 4 1 11 false (v26=0) (.ret (.inr (.inr v24.2))) (.ch 6 2 (0<=v26/\v26<=(v24.1.length:Int)) (an8 (eI .u8) v24.1 v26) (.rS 6 2 14 (aoo 1 (eI .u8) v24.1 v26 none) (.ret (.inl ((List.drop ((v26).toNat) v24.1),(iadd .i64 v24.2 1)))))))) (.ret (.inr (.inl v24.2)))))) (.exit 0) (λv27=>⟨mk 18 [(3,.i v27)],[]⟩) (λv27=>(.ret v27)) .ret (λv28=>⟨mk 18 [(2,.i (-1)),(3,.i v28)],[]⟩) λv28=>(.ret (-1:Int)))
theorem bG.ok:op k 270 ([.l 1 (eI .u8) b1],[]) (λv29=>(.i v29,[])) (bG.f k b1):=by apply oB (bG.s · b1) k
end
def dX.f:Nat->LI->Option (Bool)
 | 0,_=>none
 | k+1,b1=>((bG.f k b1).bind λr5=>(some (decide (r5≥0))))
section
variable(k:Nat)(b1:LI)
noncomputable def dX.s:Sc (Bool):=(.cl 1 1 (bG.ok k b1) λv6=>(.ret (decide (v6≥0))))
theorem dX.ok:op k 193 ([.l 1 (eI .u8) b1],[]) (λv7=>(.b v7,[])) (dX.f k b1):=by apply oB (dX.s · b1) k
end
def aL.f:Nat->ByteArray->Option (Bool)
 | 0,_=>none
 | k+1,s1=>(if(s1.size:Int)<=64 then(if s1.size<=140737488355328 then((dX.f k (strL s1)).bind λr5=>(some r5))else none)else(some false))
section
variable(k:Nat)(s1:ByteArray)
noncomputable def aL.s:Sc (Bool):=(.bq 1 3 6 false ((s1.size:Int)<=64) (.ck 1 5 [s1.size<=140737488355328] (.rS 1 5 8 (agz 0 s1) (.rB 1 5 0 (agt s1) (.op 1 6 (Rd.bcall (args:=[.o 0 1 ((strL s1)).length]) (h:=[bl 1 (eI .u8) (strL s1)]) (dX.ok k (strL s1)) rfl rfl (by kernel_rfl) rfl (by kernel_rfl)) λv6=>(.ret v6))))) (.ret false))
theorem aL.ok:op k 101 ([.t s1],[]) (λv7=>(.b v7,[])) (aL.f k s1):=by apply oP (aL.s · s1) k
end
def aC.f:Nat->Int->Option (Bool)
 | 0,_=>none
 | k+1,n1=>(if n1≥0 then(some (decide (n1<=2147483647)))else(some false))
section
variable(k:Nat)(n1:Int)
noncomputable def aC.s:Sc (Bool):=(.bq 1 2 5 false (n1≥0) (.ret (decide (n1<=2147483647))) (.ret false))
theorem aC.ok:op k 102 ([.i n1],[]) (λv3=>(.b v3,[])) (aC.f k n1):=by apply oP (λ_=>aC.s n1) k
end
def de.f:Nat->ak->Option (Bool)
 | 0,_=>none
 | k+1,x1=>((aL.f k x1.Module).bind λr9=>(if r9=true then((aL.f k x1.Name).bind λr11=>(if r11=true then((aC.f k x1.fType).bind λr13=>(some r13))else(some false)))else(some false)))
section
variable(k:Nat)(x1:ak)
noncomputable def de.s:Sc (Bool):=(.cl 1 2 (aL.ok k x1.Module) λv10=>(.br 1 3 6 v10 (.cl 1 6 (aL.ok k x1.Name) λv12=>(.br 1 8 11 v12 (.cl 1 11 (aC.ok k x1.fType) λv14=>(.ret v14)) (.ret false))) (.ret false)))
theorem de.ok:op k 100 ([.agp [.str x1.Module,.str x1.Name,.i x1.fType]],[]) (λv15=>(.b v15,[])) (de.f k x1):=by apply oP (de.s · x1) k
end
def dh.f:Nat->ak->Option (Bool)
 | 0,_=>none
 | k+1,x1=>((de.f k x1).bind λr5=>(some (!r5)))
section
variable(k:Nat)(x1:ak)
noncomputable def dh.s:Sc (Bool):=(.cl 1 2 (de.ok k x1) λv6=>(.ret (!v6)))
theorem dh.ok:op k 192 ([.agp [.str x1.Module,.str x1.Name,.i x1.fType],.p 0 1 0 0],[bp 1 [.fn 100 []]]) (λv7=>(.b v7,[bp 1 [.fn 100 []]])) (dh.f k x1):=by apply oP (dh.s · x1) k
end
def cu.b2(k:Nat)(s1:LIm):Int->Option (Int⊕(Unit⊕Int)):=λx40=>(if x40<(s1.length:Int)then((at? s1 x40).bind λe55=>((dh.f k e55).bind λr57=>(if r57=true then(some (.inr (.inr x40)))else(some (.inl (iadd .i64 x40 1))))))else(some (.inr (.inl ()))))
def cu.f:Nat->LIm->Option (Int)
 | 0,_=>none
 | k+1,s1=>(altB (loopS (cu.b2 k s1) k (0:Int)) (λ_=>(some (-1:Int))) (λx49=>(some x49)))
section
variable(k:Nat)(s1:LIm)
noncomputable def cu.s:Sc (Int):=(.rS 1 1 7 (lm ak.e s1) (.loop2 (V:=Int) (O:=Unit) (O2:=Int) 2 (0:Int) (λv50=>⟨mk 19 [(0,.l 3 ak.e s1),(1,.c (.fn 192 [.ptr 0 1 0 0])),(7,.i (s1.length:Int)),(8,.i v50)],[bp 1 [.fn 100 []]]⟩) (λv50=>(.bq 2 0 9 false (v50<(s1.length:Int)) (.op 4 3 (Rd.el ak.e s1 v50) λv56=>(.cl 4 5 (dh.ok k v56) λv58=>(.br 4 5 16 v58 (.ret (.inr (.inr v50))) (.ret (.inl (iadd .i64 v50 1)))))) (.ret (.inr (.inl ()))))) (.exit 0) (λv59=>⟨mk 19 [],[bp 1 [.fn 100 []]]⟩) (λv59=>(.ret (-1:Int))) .ret (λv60=>⟨mk 19 [(4,.i v60)],[bp 1 [.fn 100 []]]⟩) λv60=>(.ret v60)))
theorem cu.ok:op k 269 ([.l 3 ak.e s1,.c (.fn 192 [.ptr 0 1 0 0])],[bp 1 [.fn 100 []]]) (λv61=>(.i v61,[bp 1 [.fn 100 []]])) (cu.f k s1):=by apply oP (cu.s · s1) k
end
def cd.f:Nat->LIm->Option (Bool)
 | 0,_=>none
 | k+1,s1=>((cu.f k s1).bind λr5=>(some (decide (r5≥0))))
section
variable(k:Nat)(s1:LIm)
noncomputable def cd.s:Sc (Bool):=(.cl 1 2 (cu.ok k s1) λv6=>(.ret (decide (v6≥0))))
theorem cd.ok:op k 191 ([.l 3 ak.e s1,.c (.fn 192 [.ptr 0 1 0 0])],[bp 1 [.fn 100 []]]) (λv7=>(.b v7,[bp 1 [.fn 100 []]])) (cd.f k s1):=by apply oP (cd.s · s1) k
end
def cO.f:Nat->LIm->Option (Bool)
 | 0,_=>none
 | k+1,l1=>((cd.f k l1).bind λr5=>(some (!r5)))
section
variable(k:Nat)(l1:LIm)
noncomputable def cO.s:Sc (Bool):=(.cl 1 2 (cd.ok k l1) λv6=>(.ret (!v6)))
theorem cO.ok:op k 99 ([.l 3 ak.e l1,.c (.v (.fn 100 []))],[]) (λv7=>(.b v7,[])) (cO.f k l1):=by apply oB (cO.s · l1) k
end
def aW.b3(k:Nat)(l1:LEx):(Int×(List (ByteArray×Int)))->Option ((Int×(List (ByteArray×Int)))⊕(Unit⊕Unit)):=λ(x184,h185)=>(if x184<(l1.length:Int)then(segB ((at? l1 x184).bind λe250=>(if e250.Kind=0 then(let y252:Int:=((mget sEq (mput sEq h185 e250.Name (iadd .i64 ((mget sEq h185 e250.Name).getD 0) 1)) e250.Name).getD 0);(if y252>1 then(some (.inr (.inr (.inr ()))))else((aL.f k e250.Name).bind λr254=>(if(!r254)=true then(some (.inr (.inr (.inr ()))))else((aC.f k e250.Index).bind λr256=>(if(!r256)=true then(some (.inr (.inr (.inr ()))))else(some (.inl (mput sEq h185 e250.Name (iadd .i64 ((mget sEq h185 e250.Name).getD 0) 1))))))))))else(if e250.Kind=2 then(let y258:Int:=((mget sEq (mput sEq h185 e250.Name (iadd .i64 ((mget sEq h185 e250.Name).getD 0) 1)) e250.Name).getD 0);(if y258>1 then(some (.inr (.inr (.inr ()))))else((aL.f k e250.Name).bind λr260=>(if(!r260)=true then(some (.inr (.inr (.inr ()))))else((aC.f k e250.Index).bind λr262=>(if(!r262)=true then(some (.inr (.inr (.inr ()))))else(some (.inl (mput sEq h185 e250.Name (iadd .i64 ((mget sEq h185 e250.Name).getD 0) 1))))))))))else(let y264:Int:=((mget sEq (mput sEq h185 e250.Name (iadd .i64 ((mget sEq h185 e250.Name).getD 0) 1)) e250.Name).getD 0);(if y264>1 then(some (.inr (.inr (.inr ()))))else((aL.f k e250.Name).bind λr266=>(if(!r266)=true then(some (.inr (.inr (.inr ()))))else(if e250.Kind=3 then((aC.f k e250.Index).bind λr268=>(if(!r268)=true then(some (.inr (.inr (.inr ()))))else(some (.inl (mput sEq h185 e250.Name (iadd .i64 ((mget sEq h185 e250.Name).getD 0) 1))))))else(some (.inr (.inr (.inr ())))))))))))) (λh249=>(some (.inl ((iadd .i64 x184 1),h249)))))else(some (.inr (.inl ()))))
def aW.f:Nat->LEx->Option (Bool)
 | 0,_=>none
 | k+1,l1=>(altB (loopS (aW.b3 k l1) k ((0:Int),([]:List (ByteArray×Int)))) (λ_=>(some true)) (λ_=>(some false)))
section
variable(k:Nat)(l1:LEx)
noncomputable def aW.s:Sc (Bool):=(.rS 2 1 9 (lm ae.e l1) (.loop2 (V:=Int×(List (ByteArray×Int))) (O:=Unit) (O2:=Unit) 3 ((0:Int),([]:List (ByteArray×Int))) (λv228=>⟨mk 54 [(3,.c (.mp 0)),(8,.l 3 ae.e l1),(9,.i (l1.length:Int)),(10,.i v228.1)],[some (.mp none (mE .str (.int .i64) v228.2))]⟩) (λv228=>(.bq 3 0 11 false (v228.1<(l1.length:Int)) (.seg (O:=List (ByteArray×Int)) 9 (.op 4 0 (Rd.el ae.e l1 v228.1) λv251=>(.rS 5 3 17 (ahw (.int .i64) v228.2 v251.Name 0) (.rB 5 5 0 (aoP (.int .i64) v228.2 v251.Name (iadd .i64 ((mget sEq v228.2 v251.Name).getD 0) 1)) (.bq 6 3 22 false (v251.Kind=0) (.rS 7 3 35 (ahw (.int .i64) (mput sEq v228.2 v251.Name (iadd .i64 ((mget sEq v228.2 v251.Name).getD 0) 1)) v251.Name 0) (.nm 7 3 35 .i64 ((mget sEq (mput sEq v228.2 v251.Name (iadd .i64 ((mget sEq v228.2 v251.Name).getD 0) 1)) v251.Name).getD 0) λv253=>(.bq 7 5 37 false (v253>1) (.ret (.inr (.inr (.inr ())))) (.cl 7 8 (aL.ok k v251.Name) λv255=>(.br 7 11 43 (!v255) (.ret (.inr (.inr (.inr ())))) (.cl 7 18 (aC.ok k v251.Index) λv257=>(.br 7 20 52 (!v257) (.ret (.inr (.inr (.inr ())))) (.ret (.inl (mput sEq v228.2 v251.Name (iadd .i64 ((mget sEq v228.2 v251.Name).getD 0) 1))))))))))) (.bq 6 8 27 false (v251.Kind=2) (.rS 7 3 35 (ahw (.int .i64) (mput sEq v228.2 v251.Name (iadd .i64 ((mget sEq v228.2 v251.Name).getD 0) 1)) v251.Name 0) (.nm 7 3 35 .i64 ((mget sEq (mput sEq v228.2 v251.Name (iadd .i64 ((mget sEq v228.2 v251.Name).getD 0) 1)) v251.Name).getD 0) λv259=>(.bq 7 5 37 false (v259>1) (.ret (.inr (.inr (.inr ())))) (.cl 7 8 (aL.ok k v251.Name) λv261=>(.br 7 11 43 (!v261) (.ret (.inr (.inr (.inr ())))) (.cl 7 18 (aC.ok k v251.Index) λv263=>(.br 7 20 52 (!v263) (.ret (.inr (.inr (.inr ())))) (.ret (.inl (mput sEq v228.2 v251.Name (iadd .i64 ((mget sEq v228.2 v251.Name).getD 0) 1))))))))))) (.rS 7 3 35 (ahw (.int .i64) (mput sEq v228.2 v251.Name (iadd .i64 ((mget sEq v228.2 v251.Name).getD 0) 1)) v251.Name 0) (.nm 7 3 35 .i64 ((mget sEq (mput sEq v228.2 v251.Name (iadd .i64 ((mget sEq v228.2 v251.Name).getD 0) 1)) v251.Name).getD 0) λv265=>(.bq 7 5 37 false (v265>1) (.ret (.inr (.inr (.inr ())))) (.cl 7 8 (aL.ok k v251.Name) λv267=>(.br 7 11 43 (!v267) (.ret (.inr (.inr (.inr ())))) (.bq 7 15 47 true (v251.Kind=3) (.cl 7 18 (aC.ok k v251.Index) λv269=>(.br 7 20 52 (!v269) (.ret (.inr (.inr (.inr ())))) (.ret (.inl (mput sEq v228.2 v251.Name (iadd .i64 ((mget sEq v228.2 v251.Name).getD 0) 1)))))) (.ret (.inr (.inr (.inr ()))))))))))))))) (λv270=>⟨mk 54 [(3,.c (.mp 0)),(8,.l 3 ae.e l1),(9,.i (l1.length:Int)),(10,.i v228.1)],[some (.mp none (mE .str (.int .i64) v270))]⟩) λv270=>(.ret (.inl ((iadd .i64 v228.1 1),v270)))) (.ret (.inr (.inl ()))))) (.exit 0) (λv271=>⟨mk 54 [],[]⟩) (λv271=>(.ret true)) .ret (λv272=>⟨mk 54 [(2,.b false)],[]⟩) λv272=>(.ret false)))
theorem aW.ok:op k 103 ([.l 3 ae.e l1],[]) (λv273=>(.b v273,[])) (aW.f k l1):=by apply oB (aW.s · l1) k
end
def db.f:Nat->aI->Option (Bool)
 | 0,_=>none
 | k+1,x1=>((aL.f k x1.Name).bind λr5=>(if r5=true then(some (decide ((x1.Bytes.length:Int)<=1048576)))else(some false)))
section
variable(k:Nat)(x1:aI)
noncomputable def db.s:Sc (Bool):=(.cl 1 2 (aL.ok k x1.Name) λv6=>(.br 1 3 6 v6 (.rS 1 6 9 (lm (eI .u8) x1.Bytes) (.ret (decide ((x1.Bytes.length:Int)<=1048576)))) (.ret false)))
theorem db.ok:op k 105 ([.agp [.str x1.Name,.l 1 (eI .u8) x1.Bytes]],[]) (λv7=>(.b v7,[])) (db.f k x1):=by apply oB (db.s · x1) k
end
def dd.f:Nat->aI->Option (Bool)
 | 0,_=>none
 | k+1,x1=>((db.f k x1).bind λr5=>(some (!r5)))
section
variable(k:Nat)(x1:aI)
noncomputable def dd.s:Sc (Bool):=(.cl 1 2 (db.ok k x1) λv6=>(.ret (!v6)))
theorem dd.ok:op k 195 ([.agp [.str x1.Name,.l 1 (eI .u8) x1.Bytes],.c (.v (.ref [.fn 105 []]))],[]) (λv7=>(.b v7,[])) (dd.f k x1):=by apply oB (dd.s · x1) k
end
def cq.b2(k:Nat)(s1:LCu):Int->Option (Int⊕(Unit⊕Int)):=λx40=>(if x40<(s1.length:Int)then((at? s1 x40).bind λe55=>((dd.f k e55).bind λr57=>(if r57=true then(some (.inr (.inr x40)))else(some (.inl (iadd .i64 x40 1))))))else(some (.inr (.inl ()))))
def cq.f:Nat->LCu->Option (Int)
 | 0,_=>none
 | k+1,s1=>(altB (loopS (cq.b2 k s1) k (0:Int)) (λ_=>(some (-1:Int))) (λx49=>(some x49)))
section
variable(k:Nat)(s1:LCu)
noncomputable def cq.s:Sc (Int):=(.rS 1 1 7 (lm aI.e s1) (.loop2 (V:=Int) (O:=Unit) (O2:=Int) 2 (0:Int) (λv50=>⟨mk 19 [(0,.l 2 aI.e s1),(1,.c (.fn 195 [.ptr 0 1 0 0])),(7,.i (s1.length:Int)),(8,.i v50)],[bp 1 [.fn 105 []]]⟩) (λv50=>(.bq 2 0 9 false (v50<(s1.length:Int)) (.op 4 3 (Rd.el aI.e s1 v50) λv56=>(.op 4 5 (Rd.bcall (args:=[.agp [.str v56.Name,.l 1 (eI .u8) v56.Bytes],.p 0 1 0 0]) (h:=[bp 1 [.fn 105 []]]) (dd.ok k v56) rfl rfl (by kernel_rfl) rfl (by kernel_rfl)) λv58=>(.br 4 5 16 v58 (.ret (.inr (.inr v50))) (.ret (.inl (iadd .i64 v50 1)))))) (.ret (.inr (.inl ()))))) (.exit 0) (λv59=>⟨mk 19 [],[bp 1 [.fn 105 []]]⟩) (λv59=>(.ret (-1:Int))) .ret (λv60=>⟨mk 19 [(4,.i v60)],[bp 1 [.fn 105 []]]⟩) λv60=>(.ret v60)))
theorem cq.ok:op k 271 ([.l 2 aI.e s1,.c (.fn 195 [.ptr 0 1 0 0])],[bp 1 [.fn 105 []]]) (λv61=>(.i v61,[bp 1 [.fn 105 []]])) (cq.f k s1):=by apply oP (cq.s · s1) k
end
def cb.f:Nat->LCu->Option (Bool)
 | 0,_=>none
 | k+1,s1=>((cq.f k s1).bind λr5=>(some (decide (r5≥0))))
section
variable(k:Nat)(s1:LCu)
noncomputable def cb.s:Sc (Bool):=(.cl 1 2 (cq.ok k s1) λv6=>(.ret (decide (v6≥0))))
theorem cb.ok:op k 194 ([.l 2 aI.e s1,.c (.fn 195 [.ptr 0 1 0 0])],[bp 1 [.fn 105 []]]) (λv7=>(.b v7,[bp 1 [.fn 105 []]])) (cb.f k s1):=by apply oP (cb.s · s1) k
end
def cy.f:Nat->LCu->Option (Bool)
 | 0,_=>none
 | k+1,l1=>((cb.f k l1).bind λr5=>(some (!r5)))
section
variable(k:Nat)(l1:LCu)
noncomputable def cy.s:Sc (Bool):=(.cl 1 2 (cb.ok k l1) λv6=>(.ret (!v6)))
theorem cy.ok:op k 104 ([.l 2 aI.e l1,.c (.v (.fn 105 []))],[]) (λv7=>(.b v7,[])) (cy.f k l1):=by apply oB (cy.s · l1) k
end
def aD.f:Nat->Int->Option (Int×Int×Bool×Bool)
 | 0,_=>none
 | k+1,op1=>(segB (if op1=40 then(some (.inl true))else(if op1=54 then(some (.inl true))else(some (.inl false)))) (λx54=>(if x54=true then(some ((4:Int),(127:Int),false,true))else(segB (if op1=41 then(some (.inl true))else(if op1=55 then(some (.inl true))else(some (.inl false)))) (λx56=>(if x56=true then(some ((8:Int),(126:Int),false,true))else(segB (if op1=43 then(some (.inl true))else(if op1=57 then(some (.inl true))else(some (.inl false)))) (λx58=>(if x58=true then(some ((8:Int),(124:Int),false,true))else(if op1=44 then(some ((1:Int),(127:Int),true,true))else(segB (if op1=45 then(some (.inl true))else(if op1=58 then(some (.inl true))else(some (.inl false)))) (λx60=>(if x60=true then(some ((1:Int),(127:Int),false,true))else(if op1=46 then(some ((2:Int),(127:Int),true,true))else(segB (if op1=47 then(some (.inl true))else(if op1=59 then(some (.inl true))else(some (.inl false)))) (λx62=>(if x62=true then(some ((2:Int),(127:Int),false,true))else(if op1=48 then(some ((1:Int),(126:Int),true,true))else(segB (if op1=49 then(some (.inl true))else(if op1=60 then(some (.inl true))else(some (.inl false)))) (λx64=>(if x64=true then(some ((1:Int),(126:Int),false,true))else(if op1=50 then(some ((2:Int),(126:Int),true,true))else(segB (if op1=51 then(some (.inl true))else(if op1=61 then(some (.inl true))else(some (.inl false)))) (λx66=>(if x66=true then(some ((2:Int),(126:Int),false,true))else(if op1=52 then(some ((4:Int),(126:Int),true,true))else(segB (if op1=53 then(some (.inl true))else(if op1=62 then(some (.inl true))else(some (.inl false)))) (λx68=>(if x68=true then(some ((4:Int),(126:Int),false,true))else(some ((0:Int),(0:Int),false,false)))))))))))))))))))))))))))))))
section
variable(k:Nat)(op1:Int)
noncomputable def aD.s:Sc (Int×Int×Bool×Bool):=(.seg (O:=Bool) 20000070000002 (.bq 2 1 7 false (op1=40) (.ret (.inl true)) (.bq 3 1 7 false (op1=54) (.ret (.inl true)) (.ret (.inl false)))) (λv55=>⟨mk 41 [(6,.i op1),(7,.b v55)],[]⟩) λv55=>(.br 2000007 900 7 v55 (.ret ((4:Int),(127:Int),false,true)) (.seg (O:=Bool) 20000100000005 (.bq 5 1 10 false (op1=41) (.ret (.inl true)) (.bq 6 1 10 false (op1=55) (.ret (.inl true)) (.ret (.inl false)))) (λv57=>⟨mk 41 [(6,.i op1),(10,.b v57)],[]⟩) λv57=>(.br 2000010 900 10 v57 (.ret ((8:Int),(126:Int),false,true)) (.seg (O:=Bool) 20000130000008 (.bq 8 1 13 false (op1=43) (.ret (.inl true)) (.bq 9 1 13 false (op1=57) (.ret (.inl true)) (.ret (.inl false)))) (λv59=>⟨mk 41 [(6,.i op1),(13,.b v59)],[]⟩) λv59=>(.br 2000013 900 13 v59 (.ret ((8:Int),(124:Int),false,true)) (.bq 11 1 16 false (op1=44) (.ret ((1:Int),(127:Int),true,true)) (.seg (O:=Bool) 20000180000013 (.bq 13 1 18 false (op1=45) (.ret (.inl true)) (.bq 14 1 18 false (op1=58) (.ret (.inl true)) (.ret (.inl false)))) (λv61=>⟨mk 41 [(6,.i op1),(18,.b v61)],[]⟩) λv61=>(.br 2000018 900 18 v61 (.ret ((1:Int),(127:Int),false,true)) (.bq 16 1 21 false (op1=46) (.ret ((2:Int),(127:Int),true,true)) (.seg (O:=Bool) 20000230000018 (.bq 18 1 23 false (op1=47) (.ret (.inl true)) (.bq 19 1 23 false (op1=59) (.ret (.inl true)) (.ret (.inl false)))) (λv63=>⟨mk 41 [(6,.i op1),(23,.b v63)],[]⟩) λv63=>(.br 2000023 900 23 v63 (.ret ((2:Int),(127:Int),false,true)) (.bq 21 1 26 false (op1=48) (.ret ((1:Int),(126:Int),true,true)) (.seg (O:=Bool) 20000280000023 (.bq 23 1 28 false (op1=49) (.ret (.inl true)) (.bq 24 1 28 false (op1=60) (.ret (.inl true)) (.ret (.inl false)))) (λv65=>⟨mk 41 [(6,.i op1),(28,.b v65)],[]⟩) λv65=>(.br 2000028 900 28 v65 (.ret ((1:Int),(126:Int),false,true)) (.bq 26 1 31 false (op1=50) (.ret ((2:Int),(126:Int),true,true)) (.seg (O:=Bool) 20000330000028 (.bq 28 1 33 false (op1=51) (.ret (.inl true)) (.bq 29 1 33 false (op1=61) (.ret (.inl true)) (.ret (.inl false)))) (λv67=>⟨mk 41 [(6,.i op1),(33,.b v67)],[]⟩) λv67=>(.br 2000033 900 33 v67 (.ret ((2:Int),(126:Int),false,true)) (.bq 31 1 36 false (op1=52) (.ret ((4:Int),(126:Int),true,true)) (.seg (O:=Bool) 20000380000033 (.bq 33 1 38 false (op1=53) (.ret (.inl true)) (.bq 34 1 38 false (op1=62) (.ret (.inl true)) (.ret (.inl false)))) (λv69=>⟨mk 41 [(6,.i op1),(38,.b v69)],[]⟩) λv69=>(.br 2000038 900 38 v69 (.ret ((4:Int),(126:Int),false,true)) (.ret ((0:Int),(0:Int),false,false)))))))))))))))))))))))
theorem aD.ok:op k 177 ([.i op1],[]) (λv70=>(.tup [.i v70.1,.i v70.q1,.b v70.q2,.b v70.l3],[])) (aD.f k op1):=by apply oP (λ_=>aD.s op1) k
end
def cH.f:Nat->Int->Option (Int×Bool)
 | 0,_=>none
 | k+1,op1=>(if op1=65 then(some ((127:Int),true))else(if op1=66 then(some ((126:Int),true))else(if op1=68 then(some ((124:Int),true))else(some ((0:Int),false)))))
section
variable(k:Nat)(op1:Int)
noncomputable def cH.s:Sc (Int×Bool):=(.bq 2 1 5 false (op1=65) (.ret ((127:Int),true)) (.bq 4 1 7 false (op1=66) (.ret ((126:Int),true)) (.bq 6 1 9 false (op1=68) (.ret ((124:Int),true)) (.ret ((0:Int),false)))))
theorem cH.ok:op k 178 ([.i op1],[]) (λv4=>(.tup [.i v4.1,.b v4.2],[])) (cH.f k op1):=by apply oP (λ_=>cH.s op1) k
end
def bj.f:Nat->Int->Option (Bool)
 | 0,_=>none
 | k+1,op1=>(if op1≥2 then(some (decide (op1<=4)))else(some false))
section
variable(k:Nat)(op1:Int)
noncomputable def bj.s:Sc (Bool):=(.bq 1 2 5 false (op1≥2) (.ret (decide (op1<=4))) (.ret false))
theorem bj.ok:op k 179 ([.i op1],[]) (λv3=>(.b v3,[])) (bj.f k op1):=by apply oP (λ_=>bj.s op1) k
end
def ao.f:Nat->Int->Int->Option (Bool)
 | 0,_,_=>none
 | k+1,n1,most2=>(if n1≥0 then(some (decide (n1<most2)))else(some false))
section
variable(k:Nat)(n1 most2:Int)
noncomputable def ao.s:Sc (Bool):=(.bq 1 2 7 false (n1≥0) (.ret (decide (n1<most2))) (.ret false))
theorem ao.ok:op k 85 ([.i n1,.i most2],[]) (λv4=>(.b v4,[])) (ao.f k n1 most2):=by apply oP (λ_=>ao.s n1 most2) k
end
def cc.f:Nat->Int->Option (Bool)
 | 0,_=>none
 | k+1,n1=>((ao.f k n1 (65:Int)).bind λr5=>(some (!r5)))
section
variable(k:Nat)(n1:Int)
noncomputable def cc.s:Sc (Bool):=(.cl 1 1 (ao.ok k n1 (65:Int)) λv6=>(.ret (!v6)))
theorem cc.ok:op k 181 ([.i n1],[]) (λv7=>(.b v7,[])) (cc.f k n1):=by apply oP (cc.s · n1) k
end
def bz.b2(k:Nat)(s1:LI):Int->Option (Int⊕(Unit⊕Int)):=λx40=>(if x40<(s1.length:Int)then((at? s1 x40).bind λe55=>((cc.f k e55).bind λr57=>(if r57=true then(some (.inr (.inr x40)))else(some (.inl (iadd .i64 x40 1))))))else(some (.inr (.inl ()))))
def bz.f:Nat->LI->Option (Int)
 | 0,_=>none
 | k+1,s1=>(altB (loopS (bz.b2 k s1) k (0:Int)) (λ_=>(some (-1:Int))) (λx49=>(some x49)))
section
variable(k:Nat)(s1:LI)
noncomputable def bz.s:Sc (Int):=(.rS 1 1 7 (lm (eI .i64) s1) (.loop2 (V:=Int) (O:=Unit) (O2:=Int) 2 (0:Int) (λv50=>⟨mk 19 [(0,.l 1 (eI .i64) s1),(1,.c (.v (.fn 181 []))),(7,.i (s1.length:Int)),(8,.i v50)],[]⟩) (λv50=>(.bq 2 0 9 false (v50<(s1.length:Int)) (.op 4 3 (Rd.el (eI .i64) s1 v50) λv56=>(.cl 4 5 (cc.ok k v56) λv58=>(.br 4 5 16 v58 (.ret (.inr (.inr v50))) (.ret (.inl (iadd .i64 v50 1)))))) (.ret (.inr (.inl ()))))) (.exit 0) (λv59=>⟨mk 19 [],[]⟩) (λv59=>(.ret (-1:Int))) .ret (λv60=>⟨mk 19 [(4,.i v60)],[]⟩) λv60=>(.ret v60)))
theorem bz.ok:op k 264 ([.l 1 (eI .i64) s1,.c (.v (.fn 181 []))],[]) (λv61=>(.i v61,[])) (bz.f k s1):=by apply oB (bz.s · s1) k
end
def bb.f:Nat->LI->Option (Bool)
 | 0,_=>none
 | k+1,s1=>((bz.f k s1).bind λr5=>(some (decide (r5≥0))))
section
variable(k:Nat)(s1:LI)
noncomputable def bb.s:Sc (Bool):=(.cl 1 2 (bz.ok k s1) λv6=>(.ret (decide (v6≥0))))
theorem bb.ok:op k 180 ([.l 1 (eI .i64) s1,.c (.v (.fn 181 []))],[]) (λv7=>(.b v7,[])) (bb.f k s1):=by apply oB (bb.s · s1) k
end
def cz.f:Nat->ag->Option (am×Bool)
 | 0,_=>none
 | k+1,i1=>((aD.f k i1.Op).bind λ(r84,r85,r86,r87)=>((cH.f k i1.Op).bind λ(r89,r90)=>((bj.f k i1.Op).bind λr96=>(if r96=true then(if i1.A≥(-4)then(some ((am.mk true false false false),(decide (i1.A<64))))else(some ((am.mk true false false false),false)))else(if r87=true then((ao.f k i1.A (4:Int)).bind λr98=>(if r98=true then(some ((am.mk true false true false),(decide (i1.N<=4294967295))))else(some ((am.mk true false true false),false))))else(if r90=true then(if i1.Op=65 then(some ((am.mk false false true false),(decide (i1.N<=4294967295))))else(some ((am.mk false false true false),true)))else(segB (if i1.Op=12 then(some (.inl true))else(if i1.Op=13 then(some (.inl true))else(some (.inl false)))) (λx132=>(if x132=true then((ao.f k i1.A (65:Int)).bind λr134=>(some ((am.mk true false false false),r134)))else(if i1.Op=14 then(if(i1.L.length:Int)≥1 then(if(i1.L.length:Int)<=17 then((bb.f k i1.L).bind λr136=>(some ((am.mk false false false true),(!r136))))else(some ((am.mk false false false true),false)))else(some ((am.mk false false false true),false)))else(segB (if i1.Op=16 then(some (.inl true))else(if i1.Op=18 then(some (.inl true))else(some (.inl false)))) (λx138=>(if x138=true then((ao.f k i1.A (256:Int)).bind λr140=>(some ((am.mk true false false false),r140)))else(segB (if i1.Op=32 then(some (.inl true))else(if i1.Op=33 then(some (.inl true))else(if i1.Op=34 then(some (.inl true))else(some (.inl false))))) (λx142=>(if x142=true then((ao.f k i1.A (256:Int)).bind λr144=>(some ((am.mk true false false false),r144)))else(segB (if i1.Op=35 then(some (.inl true))else(if i1.Op=36 then(some (.inl true))else(some (.inl false)))) (λx146=>(if x146=true then((ao.f k i1.A (256:Int)).bind λr148=>(some ((am.mk true false false false),r148)))else(segB (if i1.Op=63 then(some (.inl true))else(if i1.Op=64 then(some (.inl true))else(if i1.Op=64523 then(some (.inl true))else(some (.inl false))))) (λx150=>(if x150=true then((ao.f k i1.A (4:Int)).bind λr152=>(some ((am.mk true false false false),r152)))else(if i1.Op=64520 then((ao.f k i1.A (4:Int)).bind λr154=>(if r154=true then((ao.f k i1.B (16:Int)).bind λr156=>(some ((am.mk true true false false),r156)))else(some ((am.mk true true false false),false))))else(if i1.Op=64521 then((ao.f k i1.A (16:Int)).bind λr158=>(some ((am.mk true false false false),r158)))else(if i1.Op=64522 then((ao.f k i1.A (4:Int)).bind λr160=>(if r160=true then((ao.f k i1.B (4:Int)).bind λr162=>(some ((am.mk true true false false),r162)))else(some ((am.mk true true false false),false))))else(some ((am.mk false false false false),true)))))))))))))))))))))))))))
section
variable(k:Nat)(i1:ag)
noncomputable def cz.s:Sc (am×Bool):=(.cl 1 2 (aD.ok k i1.Op) λv88=>(.cl 2 2 (cH.ok k i1.Op) λv91=>(.cl 3 2 (bj.ok k i1.Op) λv97=>(.br 3 3 24 v97 (.bq 4 4 32 false (i1.A≥(-4)) (.ret ((am.mk true false false false),(decide (i1.A<64)))) (.ret ((am.mk true false false false),false))) (.br 5 1 37 v88.l3 (.cl 6 3 (ao.ok k i1.A (4:Int)) λv99=>(.br 6 4 43 v99 (.ret ((am.mk true false true false),(decide (i1.N<=4294967295)))) (.ret ((am.mk true false true false),false)))) (.br 7 1 48 v91.2 (.bq 8 4 54 true (i1.Op=65) (.ret ((am.mk false false true false),(decide (i1.N<=4294967295)))) (.ret ((am.mk false false true false),true))) (.seg (O:=Bool) 20000610000010 (.bq 10 1 61 false (i1.Op=12) (.ret (.inl true)) (.bq 11 1 61 false (i1.Op=13) (.ret (.inl true)) (.ret (.inl false)))) (λv133=>⟨mk 146 [(1,.p 0 5 0 0),(2,.p 1 4 0 0),(60,.i i1.Op),(61,.b v133)],[bp 5 [.i i1.Op,.i i1.A,.i i1.B,.int .u64 i1.N,.l 1 (eI .i64) i1.L],bp 4 [.bool false,.bool false,.bool false,.bool false]]⟩) λv133=>(.br 2000061 900 61 v133 (.cl 12 3 (ao.ok k i1.A (65:Int)) λv135=>(.ret ((am.mk true false false false),v135))) (.bq 13 1 68 false (i1.Op=14) (.rS 14 3 73 (lm (eI .i64) i1.L) (.bq 14 5 75 false ((i1.L.length:Int)≥1) (.rS 14 8 78 (lm (eI .i64) i1.L) (.bq 14 11 81 false ((i1.L.length:Int)<=17) (.cl 14 14 (bb.ok k i1.L) λv137=>(.ret ((am.mk false false false true),(!v137)))) (.ret ((am.mk false false false true),false)))) (.ret ((am.mk false false false true),false)))) (.seg (O:=Bool) 20000870000015 (.bq 15 1 87 false (i1.Op=16) (.ret (.inl true)) (.bq 16 1 87 false (i1.Op=18) (.ret (.inl true)) (.ret (.inl false)))) (λv139=>⟨mk 146 [(1,.p 0 5 0 0),(2,.p 1 4 0 0),(60,.i i1.Op),(87,.b v139)],[bp 5 [.i i1.Op,.i i1.A,.i i1.B,.int .u64 i1.N,.l 1 (eI .i64) i1.L],bp 4 [.bool false,.bool false,.bool false,.bool false]]⟩) λv139=>(.br 2000087 900 87 v139 (.cl 17 3 (ao.ok k i1.A (256:Int)) λv141=>(.ret ((am.mk true false false false),v141))) (.seg (O:=Bool) 20000940000018 (.bq 18 1 94 false (i1.Op=32) (.ret (.inl true)) (.bq 19 1 94 false (i1.Op=33) (.ret (.inl true)) (.bq 20 1 94 false (i1.Op=34) (.ret (.inl true)) (.ret (.inl false))))) (λv143=>⟨mk 146 [(1,.p 0 5 0 0),(2,.p 1 4 0 0),(60,.i i1.Op),(94,.b v143)],[bp 5 [.i i1.Op,.i i1.A,.i i1.B,.int .u64 i1.N,.l 1 (eI .i64) i1.L],bp 4 [.bool false,.bool false,.bool false,.bool false]]⟩) λv143=>(.br 2000094 900 94 v143 (.cl 21 3 (ao.ok k i1.A (256:Int)) λv145=>(.ret ((am.mk true false false false),v145))) (.seg (O:=Bool) 20001020000022 (.bq 22 1 102 false (i1.Op=35) (.ret (.inl true)) (.bq 23 1 102 false (i1.Op=36) (.ret (.inl true)) (.ret (.inl false)))) (λv147=>⟨mk 146 [(1,.p 0 5 0 0),(2,.p 1 4 0 0),(60,.i i1.Op),(102,.b v147)],[bp 5 [.i i1.Op,.i i1.A,.i i1.B,.int .u64 i1.N,.l 1 (eI .i64) i1.L],bp 4 [.bool false,.bool false,.bool false,.bool false]]⟩) λv147=>(.br 2000102 900 102 v147 (.cl 24 3 (ao.ok k i1.A (256:Int)) λv149=>(.ret ((am.mk true false false false),v149))) (.seg (O:=Bool) 20001090000025 (.bq 25 1 109 false (i1.Op=63) (.ret (.inl true)) (.bq 26 1 109 false (i1.Op=64) (.ret (.inl true)) (.bq 27 1 109 false (i1.Op=64523) (.ret (.inl true)) (.ret (.inl false))))) (λv151=>⟨mk 146 [(1,.p 0 5 0 0),(2,.p 1 4 0 0),(60,.i i1.Op),(109,.b v151)],[bp 5 [.i i1.Op,.i i1.A,.i i1.B,.int .u64 i1.N,.l 1 (eI .i64) i1.L],bp 4 [.bool false,.bool false,.bool false,.bool false]]⟩) λv151=>(.br 2000109 900 109 v151 (.cl 28 3 (ao.ok k i1.A (4:Int)) λv153=>(.ret ((am.mk true false false false),v153))) (.bq 29 1 117 false (i1.Op=64520) (.cl 30 3 (ao.ok k i1.A (4:Int)) λv155=>(.br 30 4 123 v155 (.cl 30 7 (ao.ok k i1.B (16:Int)) λv157=>(.ret ((am.mk true true false false),v157))) (.ret ((am.mk true true false false),false)))) (.bq 31 1 128 false (i1.Op=64521) (.cl 32 3 (ao.ok k i1.A (16:Int)) λv159=>(.ret ((am.mk true false false false),v159))) (.bq 33 1 134 false (i1.Op=64522) (.cl 34 3 (ao.ok k i1.A (4:Int)) λv161=>(.br 34 4 140 v161 (.cl 34 7 (ao.ok k i1.B (4:Int)) λv163=>(.ret ((am.mk true true false false),v163))) (.ret ((am.mk true true false false),false)))) (.ret ((am.mk false false false false),true))))))))))))))))))))))
theorem cz.ok:op k 88 ([.agp [.i i1.Op,.i i1.A,.i i1.B,.int .u64 i1.N,.l 1 (eI .i64) i1.L]],[]) (λv164=>(.tup [.agp [.bool v164.1.a,.bool v164.1.b,.bool v164.1.n,.bool v164.1.l],.b v164.2],[])) (cz.f k i1):=by apply oP (cz.s · i1) k
end
def bU.f:Nat->Int->Int->Int->Option (Bool)
 | 0,_,_,_=>none
 | k+1,op1,from2,to3=>(if op1≥from2 then(some (decide (op1<=to3)))else(some false))
section
variable(k:Nat)(op1 from2 to3:Int)
noncomputable def bU.s:Sc (Bool):=(.bq 1 3 10 false (op1≥from2) (.ret (decide (op1<=to3))) (.ret false))
theorem bU.ok:op k 265 ([.i op1,.i from2,.i to3],[]) (λv5=>(.b v5,[])) (bU.f k op1 from2 to3):=by apply oP (λ_=>bU.s op1 from2 to3) k
end
def eG.f:Nat->Int->Option (Bool)
 | 0,_=>none
 | k+1,op1=>((bU.f k op1 (69:Int) (90:Int)).bind λr9=>(if r9=true then(some true)else((bU.f k op1 (103:Int) (138:Int)).bind λr11=>(if r11=true then(some true)else(if op1=167 then(some true)else(if op1=172 then(some true)else(if op1=173 then(some true)else((bU.f k op1 (192:Int) (196:Int)).bind λr13=>(some r13)))))))))
section
variable(k:Nat)(op1:Int)
noncomputable def eG.s:Sc (Bool):=(.cl 1 1 (bU.ok k op1 (69:Int) (90:Int)) λv10=>(.br 1 2 5 v10 (.ret true) (.cl 1 4 (bU.ok k op1 (103:Int) (138:Int)) λv12=>(.br 1 6 9 v12 (.ret true) (.bq 1 10 13 false (op1=167) (.ret true) (.bq 1 14 17 false (op1=172) (.ret true) (.bq 1 18 21 false (op1=173) (.ret true) (.cl 1 20 (bU.ok k op1 (192:Int) (196:Int)) λv14=>(.ret v14)))))))))
theorem eG.ok:op k 182 ([.i op1],[]) (λv15=>(.b v15,[])) (eG.f k op1):=by apply oP (eG.s · op1) k
end
def ep.f:Nat->Int->Option (Bool)
 | 0,_=>none
 | k+1,op1=>(segB (if op1=170 then(some (.inl true))else(if op1=171 then(some (.inl true))else(if op1=176 then(some (.inl true))else(if op1=177 then(some (.inl true))else(if op1=183 then(some (.inl true))else(if op1=184 then(some (.inl true))else(if op1=185 then(some (.inl true))else(if op1=186 then(some (.inl true))else(if op1=189 then(some (.inl true))else(if op1=191 then(some (.inl true))else(if op1=64514 then(some (.inl true))else(if op1=64515 then(some (.inl true))else(if op1=64518 then(some (.inl true))else(if op1=64519 then(some (.inl true))else(some (.inl false)))))))))))))))) (λx9=>(if x9=true then(some true)else(if op1≥97 then(if op1<=102 then(some true)else(if op1≥153 then(some (decide (op1<=166)))else(some false)))else(if op1≥153 then(some (decide (op1<=166)))else(some false))))))
section
variable(k:Nat)(op1:Int)
noncomputable def ep.s:Sc (Bool):=(.seg (O:=Bool) 20000040000002 (.bq 2 1 4 false (op1=170) (.ret (.inl true)) (.bq 3 1 4 false (op1=171) (.ret (.inl true)) (.bq 4 1 4 false (op1=176) (.ret (.inl true)) (.bq 5 1 4 false (op1=177) (.ret (.inl true)) (.bq 6 1 4 false (op1=183) (.ret (.inl true)) (.bq 7 1 4 false (op1=184) (.ret (.inl true)) (.bq 8 1 4 false (op1=185) (.ret (.inl true)) (.bq 9 1 4 false (op1=186) (.ret (.inl true)) (.bq 10 1 4 false (op1=189) (.ret (.inl true)) (.bq 11 1 4 false (op1=191) (.ret (.inl true)) (.bq 12 1 4 false (op1=64514) (.ret (.inl true)) (.bq 13 1 4 false (op1=64515) (.ret (.inl true)) (.bq 14 1 4 false (op1=64518) (.ret (.inl true)) (.bq 15 1 4 false (op1=64519) (.ret (.inl true)) (.ret (.inl false)))))))))))))))) (λv10=>⟨mk 33 [(0,.i op1),(3,.i op1),(4,.b v10)],[]⟩) λv10=>(.br 2000004 900 4 v10 (.ret true) (.bq 17 2 21 false (op1≥97) (.bq 17 6 25 false (op1<=102) (.ret true) (.bq 17 9 28 false (op1≥153) (.ret (decide (op1<=166))) (.ret false))) (.bq 17 9 28 false (op1≥153) (.ret (decide (op1<=166))) (.ret false)))))
theorem ep.ok:op k 183 ([.i op1],[]) (λv11=>(.b v11,[])) (ep.f k op1):=by apply oP (λ_=>ep.s op1) k
end
def cS.f:Nat->Int->Option (Bool)
 | 0,_=>none
 | k+1,op1=>(segB (if op1=0 then(some (.inl true))else(if op1=1 then(some (.inl true))else(if op1=5 then(some (.inl true))else(if op1=11 then(some (.inl true))else(if op1=12 then(some (.inl true))else(if op1=13 then(some (.inl true))else(if op1=14 then(some (.inl true))else(if op1=15 then(some (.inl true))else(if op1=16 then(some (.inl true))else(if op1=18 then(some (.inl true))else(if op1=26 then(some (.inl true))else(if op1=27 then(some (.inl true))else(if op1=32 then(some (.inl true))else(if op1=33 then(some (.inl true))else(if op1=34 then(some (.inl true))else(if op1=35 then(some (.inl true))else(if op1=36 then(some (.inl true))else(if op1=63 then(some (.inl true))else(if op1=64 then(some (.inl true))else(if op1=64520 then(some (.inl true))else(if op1=64521 then(some (.inl true))else(if op1=64522 then(some (.inl true))else(if op1=64523 then(some (.inl true))else(some (.inl false))))))))))))))))))))))))) (λx23=>(if x23=true then(some true)else((aD.f k op1).bind λ(r25,r26,r27,r28)=>((cH.f k op1).bind λ(r30,r31)=>((eG.f k op1).bind λr33=>(if r33=true then(some true)else((ep.f k op1).bind λr35=>(if r35=true then(some true)else(if r28=true then(some true)else(if r31=true then(some true)else((bj.f k op1).bind λr37=>(some r37)))))))))))))
section
variable(k:Nat)(op1:Int)
noncomputable def cS.s:Sc (Bool):=(.seg (O:=Bool) 20000100000002 (.bq 2 1 10 false (op1=0) (.ret (.inl true)) (.bq 3 1 10 false (op1=1) (.ret (.inl true)) (.bq 4 1 10 false (op1=5) (.ret (.inl true)) (.bq 5 1 10 false (op1=11) (.ret (.inl true)) (.bq 6 1 10 false (op1=12) (.ret (.inl true)) (.bq 7 1 10 false (op1=13) (.ret (.inl true)) (.bq 8 1 10 false (op1=14) (.ret (.inl true)) (.bq 9 1 10 false (op1=15) (.ret (.inl true)) (.bq 10 1 10 false (op1=16) (.ret (.inl true)) (.bq 11 1 10 false (op1=18) (.ret (.inl true)) (.bq 12 1 10 false (op1=26) (.ret (.inl true)) (.bq 13 1 10 false (op1=27) (.ret (.inl true)) (.bq 14 1 10 false (op1=32) (.ret (.inl true)) (.bq 15 1 10 false (op1=33) (.ret (.inl true)) (.bq 16 1 10 false (op1=34) (.ret (.inl true)) (.bq 17 1 10 false (op1=35) (.ret (.inl true)) (.bq 18 1 10 false (op1=36) (.ret (.inl true)) (.bq 19 1 10 false (op1=63) (.ret (.inl true)) (.bq 20 1 10 false (op1=64) (.ret (.inl true)) (.bq 21 1 10 false (op1=64520) (.ret (.inl true)) (.bq 22 1 10 false (op1=64521) (.ret (.inl true)) (.bq 23 1 10 false (op1=64522) (.ret (.inl true)) (.bq 24 1 10 false (op1=64523) (.ret (.inl true)) (.ret (.inl false))))))))))))))))))))))))) (λv24=>⟨mk 62 [(0,.i op1),(9,.i op1),(10,.b v24)],[]⟩) λv24=>(.br 2000010 900 10 v24 (.ret true) (.cl 26 1 (aD.ok k op1) λv29=>(.cl 27 1 (cH.ok k op1) λv32=>(.cl 28 1 (eG.ok k op1) λv34=>(.br 28 2 48 v34 (.ret true) (.cl 28 4 (ep.ok k op1) λv36=>(.br 28 6 52 v36 (.ret true) (.br 28 9 55 v29.l3 (.ret true) (.br 28 12 58 v32.2 (.ret true) (.cl 28 14 (bj.ok k op1) λv38=>(.ret v38))))))))))))
theorem cS.ok:op k 89 ([.i op1],[]) (λv39=>(.b v39,[])) (cS.f k op1):=by apply oP (cS.s · op1) k
end
def dG.f:Nat->ag->Option (Bool)
 | 0,_=>none
 | k+1,i1=>((cz.f k i1).bind λ(r8,r9)=>((cS.f k i1.Op).bind λr11=>(if r11=true then(if r9=true then(if r8.a=true then(if r8.b=true then(if r8.n=true then(if r8.l=true then(some true)else(some (decide ((i1.L.length:Int)=0))))else(if i1.N=0 then(if r8.l=true then(some true)else(some (decide ((i1.L.length:Int)=0))))else(some false)))else(if i1.B=0 then(if r8.n=true then(if r8.l=true then(some true)else(some (decide ((i1.L.length:Int)=0))))else(if i1.N=0 then(if r8.l=true then(some true)else(some (decide ((i1.L.length:Int)=0))))else(some false)))else(some false)))else(if i1.A=0 then(if r8.b=true then(if r8.n=true then(if r8.l=true then(some true)else(some (decide ((i1.L.length:Int)=0))))else(if i1.N=0 then(if r8.l=true then(some true)else(some (decide ((i1.L.length:Int)=0))))else(some false)))else(if i1.B=0 then(if r8.n=true then(if r8.l=true then(some true)else(some (decide ((i1.L.length:Int)=0))))else(if i1.N=0 then(if r8.l=true then(some true)else(some (decide ((i1.L.length:Int)=0))))else(some false)))else(some false)))else(some false)))else(some false))else(some false))))
section
variable(k:Nat)(i1:ag)
noncomputable def dG.s:Sc (Bool):=(.cl 1 1 (cz.ok k i1) λv10=>(.cl 2 2 (cS.ok k i1.Op) λv12=>(.br 2 3 13 v12 (.br 2 6 16 v10.2 (.br 2 9 19 v10.1.a (.br 2 18 28 v10.1.b (.br 2 27 37 v10.1.n (.br 2 36 46 v10.1.l (.ret true) (.rS 2 39 49 (lm (eI .i64) i1.L) (.ret (decide ((i1.L.length:Int)=0))))) (.bq 2 33 43 false (i1.N=0) (.br 2 36 46 v10.1.l (.ret true) (.rS 2 39 49 (lm (eI .i64) i1.L) (.ret (decide ((i1.L.length:Int)=0))))) (.ret false))) (.bq 2 24 34 false (i1.B=0) (.br 2 27 37 v10.1.n (.br 2 36 46 v10.1.l (.ret true) (.rS 2 39 49 (lm (eI .i64) i1.L) (.ret (decide ((i1.L.length:Int)=0))))) (.bq 2 33 43 false (i1.N=0) (.br 2 36 46 v10.1.l (.ret true) (.rS 2 39 49 (lm (eI .i64) i1.L) (.ret (decide ((i1.L.length:Int)=0))))) (.ret false))) (.ret false))) (.bq 2 15 25 false (i1.A=0) (.br 2 18 28 v10.1.b (.br 2 27 37 v10.1.n (.br 2 36 46 v10.1.l (.ret true) (.rS 2 39 49 (lm (eI .i64) i1.L) (.ret (decide ((i1.L.length:Int)=0))))) (.bq 2 33 43 false (i1.N=0) (.br 2 36 46 v10.1.l (.ret true) (.rS 2 39 49 (lm (eI .i64) i1.L) (.ret (decide ((i1.L.length:Int)=0))))) (.ret false))) (.bq 2 24 34 false (i1.B=0) (.br 2 27 37 v10.1.n (.br 2 36 46 v10.1.l (.ret true) (.rS 2 39 49 (lm (eI .i64) i1.L) (.ret (decide ((i1.L.length:Int)=0))))) (.bq 2 33 43 false (i1.N=0) (.br 2 36 46 v10.1.l (.ret true) (.rS 2 39 49 (lm (eI .i64) i1.L) (.ret (decide ((i1.L.length:Int)=0))))) (.ret false))) (.ret false))) (.ret false))) (.ret false)) (.ret false))))
theorem dG.ok:op k 27 ([.agp [.i i1.Op,.i i1.A,.i i1.B,.int .u64 i1.N,.l 1 (eI .i64) i1.L]],[]) (λv13=>(.b v13,[])) (dG.f k i1):=by apply oB (dG.s · i1) k
end
def dc.f:Nat->ag->Option (Bool)
 | 0,_=>none
 | k+1,i1=>((dG.f k i1).bind λr5=>(some (!r5)))
section
variable(k:Nat)(i1:ag)
noncomputable def dc.s:Sc (Bool):=(.cl 1 1 (dG.ok k i1) λv6=>(.ret (!v6)))
theorem dc.ok:op k 199 ([.agp [.i i1.Op,.i i1.A,.i i1.B,.int .u64 i1.N,.l 1 (eI .i64) i1.L]],[]) (λv7=>(.b v7,[])) (dc.f k i1):=by apply oB (dc.s · i1) k
end
def cm.b2(k:Nat)(s1:LIn):Int->Option (Int⊕(Unit⊕Int)):=λx40=>(if x40<(s1.length:Int)then((at? s1 x40).bind λe55=>((dc.f k e55).bind λr57=>(if r57=true then(some (.inr (.inr x40)))else(some (.inl (iadd .i64 x40 1))))))else(some (.inr (.inl ()))))
def cm.f:Nat->LIn->Option (Int)
 | 0,_=>none
 | k+1,s1=>(altB (loopS (cm.b2 k s1) k (0:Int)) (λ_=>(some (-1:Int))) (λx49=>(some x49)))
section
variable(k:Nat)(s1:LIn)
noncomputable def cm.s:Sc (Int):=(.rS 1 1 7 (lm ag.e s1) (.loop2 (V:=Int) (O:=Unit) (O2:=Int) 2 (0:Int) (λv50=>⟨mk 19 [(0,.l 5 ag.e s1),(1,.c (.v (.fn 199 []))),(7,.i (s1.length:Int)),(8,.i v50)],[]⟩) (λv50=>(.bq 2 0 9 false (v50<(s1.length:Int)) (.op 4 3 (Rd.el ag.e s1 v50) λv56=>(.cl 4 5 (dc.ok k v56) λv58=>(.br 4 5 16 v58 (.ret (.inr (.inr v50))) (.ret (.inl (iadd .i64 v50 1)))))) (.ret (.inr (.inl ()))))) (.exit 0) (λv59=>⟨mk 19 [],[]⟩) (λv59=>(.ret (-1:Int))) .ret (λv60=>⟨mk 19 [(4,.i v60)],[]⟩) λv60=>(.ret v60)))
theorem cm.ok:op k 273 ([.l 5 ag.e s1,.c (.v (.fn 199 []))],[]) (λv61=>(.i v61,[])) (cm.f k s1):=by apply oB (cm.s · s1) k
end
def cg.f:Nat->LIn->Option (Bool)
 | 0,_=>none
 | k+1,s1=>((cm.f k s1).bind λr5=>(some (decide (r5≥0))))
section
variable(k:Nat)(s1:LIn)
noncomputable def cg.s:Sc (Bool):=(.cl 1 2 (cm.ok k s1) λv6=>(.ret (decide (v6≥0))))
theorem cg.ok:op k 198 ([.l 5 ag.e s1,.c (.v (.fn 199 []))],[]) (λv7=>(.b v7,[])) (cg.f k s1):=by apply oB (cg.s · s1) k
end
def dI.f:Nat->aj->Option (Bool)
 | 0,_=>none
 | k+1,f1=>((aC.f k f1.fType).bind λr9=>(if r9=true then(if(f1.Locals.length:Int)<=256 then((ba.f k f1.Locals).bind λr11=>(if r11=true then(if(f1.Code.length:Int)<=65536 then((cg.f k f1.Code).bind λr13=>(some (!r13)))else(some false))else(some false)))else(some false))else(some false)))
section
variable(k:Nat)(f1:aj)
noncomputable def dI.s:Sc (Bool):=(.cl 1 2 (aC.ok k f1.fType) λv10=>(.br 1 3 6 v10 (.rS 1 6 9 (lm (eI .i64) f1.Locals) (.bq 1 9 12 false ((f1.Locals.length:Int)<=256) (.cl 1 12 (ba.ok k f1.Locals) λv12=>(.br 1 14 17 v12 (.rS 1 17 20 (lm ag.e f1.Code) (.bq 1 20 23 false ((f1.Code.length:Int)<=65536) (.cl 1 23 (cg.ok k f1.Code) λv14=>(.ret (!v14))) (.ret false))) (.ret false))) (.ret false))) (.ret false)))
theorem dI.ok:op k 107 ([.agp [.i f1.fType,.l 1 (eI .i64) f1.Locals,.l 5 ag.e f1.Code]],[]) (λv15=>(.b v15,[])) (dI.f k f1):=by apply oB (dI.s · f1) k
end
def di.f:Nat->aj->Option (Bool)
 | 0,_=>none
 | k+1,x1=>((dI.f k x1).bind λr5=>(some (!r5)))
section
variable(k:Nat)(x1:aj)
noncomputable def di.s:Sc (Bool):=(.cl 1 2 (dI.ok k x1) λv6=>(.ret (!v6)))
theorem di.ok:op k 197 ([.agp [.i x1.fType,.l 1 (eI .i64) x1.Locals,.l 5 ag.e x1.Code],.c (.v (.ref [.fn 107 []]))],[]) (λv7=>(.b v7,[])) (di.f k x1):=by apply oB (di.s · x1) k
end
def cn.b2(k:Nat)(s1:LFu):Int->Option (Int⊕(Unit⊕Int)):=λx40=>(if x40<(s1.length:Int)then((at? s1 x40).bind λe55=>((di.f k e55).bind λr57=>(if r57=true then(some (.inr (.inr x40)))else(some (.inl (iadd .i64 x40 1))))))else(some (.inr (.inl ()))))
def cn.f:Nat->LFu->Option (Int)
 | 0,_=>none
 | k+1,s1=>(altB (loopS (cn.b2 k s1) k (0:Int)) (λ_=>(some (-1:Int))) (λx49=>(some x49)))
section
variable(k:Nat)(s1:LFu)
noncomputable def cn.s:Sc (Int):=(.rS 1 1 7 (lm aj.e s1) (.loop2 (V:=Int) (O:=Unit) (O2:=Int) 2 (0:Int) (λv50=>⟨mk 19 [(0,.l 3 aj.e s1),(1,.c (.fn 197 [.ptr 0 1 0 0])),(7,.i (s1.length:Int)),(8,.i v50)],[bp 1 [.fn 107 []]]⟩) (λv50=>(.bq 2 0 9 false (v50<(s1.length:Int)) (.op 4 3 (Rd.el aj.e s1 v50) λv56=>(.op 4 5 (Rd.bcall (args:=[.agp [.i v56.fType,.l 1 (eI .i64) v56.Locals,.l 5 ag.e v56.Code],.p 0 1 0 0]) (h:=[bp 1 [.fn 107 []]]) (di.ok k v56) rfl rfl (by kernel_rfl) rfl (by kernel_rfl)) λv58=>(.br 4 5 16 v58 (.ret (.inr (.inr v50))) (.ret (.inl (iadd .i64 v50 1)))))) (.ret (.inr (.inl ()))))) (.exit 0) (λv59=>⟨mk 19 [],[bp 1 [.fn 107 []]]⟩) (λv59=>(.ret (-1:Int))) .ret (λv60=>⟨mk 19 [(4,.i v60)],[bp 1 [.fn 107 []]]⟩) λv60=>(.ret v60)))
theorem cn.ok:op k 272 ([.l 3 aj.e s1,.c (.fn 197 [.ptr 0 1 0 0])],[bp 1 [.fn 107 []]]) (λv61=>(.i v61,[bp 1 [.fn 107 []]])) (cn.f k s1):=by apply oP (cn.s · s1) k
end
def ca.f:Nat->LFu->Option (Bool)
 | 0,_=>none
 | k+1,s1=>((cn.f k s1).bind λr5=>(some (decide (r5≥0))))
section
variable(k:Nat)(s1:LFu)
noncomputable def ca.s:Sc (Bool):=(.cl 1 2 (cn.ok k s1) λv6=>(.ret (decide (v6≥0))))
theorem ca.ok:op k 196 ([.l 3 aj.e s1,.c (.fn 197 [.ptr 0 1 0 0])],[bp 1 [.fn 107 []]]) (λv7=>(.b v7,[bp 1 [.fn 107 []]])) (ca.f k s1):=by apply oP (ca.s · s1) k
end
def cC.f:Nat->LFu->Option (Bool)
 | 0,_=>none
 | k+1,l1=>((ca.f k l1).bind λr5=>(some (!r5)))
section
variable(k:Nat)(l1:LFu)
noncomputable def cC.s:Sc (Bool):=(.cl 1 2 (ca.ok k l1) λv6=>(.ret (!v6)))
theorem cC.ok:op k 106 ([.l 3 aj.e l1,.c (.v (.fn 107 []))],[]) (λv7=>(.b v7,[])) (cC.f k l1):=by apply oB (cC.s · l1) k
end
def cW.f:Nat->au->Option (Bool)
 | 0,_=>none
 | k+1,x1=>(if x1.Min≥0 then(if x1.Min<=x1.Max then(some (decide (x1.Max<=512)))else(some false))else(some false))
section
variable(k:Nat)(x1:au)
noncomputable def cW.s:Sc (Bool):=(.bq 1 3 6 false (x1.Min≥0) (.bq 1 10 13 false (x1.Min<=x1.Max) (.ret (decide (x1.Max<=512))) (.ret false)) (.ret false))
theorem cW.ok:op k 109 ([.agp [.i x1.Min,.i x1.Max]],[]) (λv3=>(.b v3,[])) (cW.f k x1):=by apply oP (λ_=>cW.s x1) k
end
def da.f:Nat->au->Option (Bool)
 | 0,_=>none
 | k+1,x1=>((cW.f k x1).bind λr5=>(some (!r5)))
section
variable(k:Nat)(x1:au)
noncomputable def da.s:Sc (Bool):=(.cl 1 2 (cW.ok k x1) λv6=>(.ret (!v6)))
theorem da.ok:op k 201 ([.agp [.i x1.Min,.i x1.Max],.p 0 1 0 0],[bp 1 [.fn 109 []]]) (λv7=>(.b v7,[bp 1 [.fn 109 []]])) (da.f k x1):=by apply oP (da.s · x1) k
end
def cj.b2(k:Nat)(s1:LMe):Int->Option (Int⊕(Unit⊕Int)):=λx40=>(if x40<(s1.length:Int)then((at? s1 x40).bind λe55=>((da.f k e55).bind λr57=>(if r57=true then(some (.inr (.inr x40)))else(some (.inl (iadd .i64 x40 1))))))else(some (.inr (.inl ()))))
def cj.f:Nat->LMe->Option (Int)
 | 0,_=>none
 | k+1,s1=>(altB (loopS (cj.b2 k s1) k (0:Int)) (λ_=>(some (-1:Int))) (λx49=>(some x49)))
section
variable(k:Nat)(s1:LMe)
noncomputable def cj.s:Sc (Int):=(.rS 1 1 7 (lm au.e s1) (.loop2 (V:=Int) (O:=Unit) (O2:=Int) 2 (0:Int) (λv50=>⟨mk 19 [(0,.l 2 au.e s1),(1,.c (.fn 201 [.ptr 0 1 0 0])),(7,.i (s1.length:Int)),(8,.i v50)],[bp 1 [.fn 109 []]]⟩) (λv50=>(.bq 2 0 9 false (v50<(s1.length:Int)) (.op 4 3 (Rd.el au.e s1 v50) λv56=>(.cl 4 5 (da.ok k v56) λv58=>(.br 4 5 16 v58 (.ret (.inr (.inr v50))) (.ret (.inl (iadd .i64 v50 1)))))) (.ret (.inr (.inl ()))))) (.exit 0) (λv59=>⟨mk 19 [],[bp 1 [.fn 109 []]]⟩) (λv59=>(.ret (-1:Int))) .ret (λv60=>⟨mk 19 [(4,.i v60)],[bp 1 [.fn 109 []]]⟩) λv60=>(.ret v60)))
theorem cj.ok:op k 274 ([.l 2 au.e s1,.c (.fn 201 [.ptr 0 1 0 0])],[bp 1 [.fn 109 []]]) (λv61=>(.i v61,[bp 1 [.fn 109 []]])) (cj.f k s1):=by apply oP (cj.s · s1) k
end
def bW.f:Nat->LMe->Option (Bool)
 | 0,_=>none
 | k+1,s1=>((cj.f k s1).bind λr5=>(some (decide (r5≥0))))
section
variable(k:Nat)(s1:LMe)
noncomputable def bW.s:Sc (Bool):=(.cl 1 2 (cj.ok k s1) λv6=>(.ret (decide (v6≥0))))
theorem bW.ok:op k 200 ([.l 2 au.e s1,.c (.fn 201 [.ptr 0 1 0 0])],[bp 1 [.fn 109 []]]) (λv7=>(.b v7,[bp 1 [.fn 109 []]])) (bW.f k s1):=by apply oP (bW.s · s1) k
end
def cD.f:Nat->LMe->Option (Bool)
 | 0,_=>none
 | k+1,l1=>((bW.f k l1).bind λr5=>(some (!r5)))
section
variable(k:Nat)(l1:LMe)
noncomputable def cD.s:Sc (Bool):=(.cl 1 2 (bW.ok k l1) λv6=>(.ret (!v6)))
theorem cD.ok:op k 108 ([.l 2 au.e l1,.c (.v (.fn 109 []))],[]) (λv7=>(.b v7,[])) (cD.f k l1):=by apply oB (cD.s · l1) k
end
def cU.f:Nat->ai->Option (Bool)
 | 0,_=>none
 | k+1,x1=>((ba.f k ([x1.fType]:LI)).bind λr5=>(if r5=true then(if x1.fType=127 then(some (decide (x1.Init<=4294967295)))else(some true))else(some false)))
section
variable(k:Nat)(x1:ai)
noncomputable def cU.s:Sc (Bool):=(.op 1 3 (Rd.bcall (args:=[.o 0 1 1]) (h:=[bl 1 (eI .i64) ([x1.fType]:LI)]) (ba.ok k ([x1.fType]:LI)) rfl rfl (by kernel_rfl) rfl (by kernel_rfl)) λv6=>(.br 1 4 7 v6 (.bq 1 8 11 true (x1.fType=127) (.ret (decide (x1.Init<=4294967295))) (.ret true)) (.ret false)))
theorem cU.ok:op k 111 ([.agp [.i x1.fType,.bool x1.Var,.int .u64 x1.Init]],[]) (λv7=>(.b v7,[])) (cU.f k x1):=by apply oP (cU.s · x1) k
end
def cY.f:Nat->ai->Option (Bool)
 | 0,_=>none
 | k+1,x1=>((cU.f k x1).bind λr5=>(some (!r5)))
section
variable(k:Nat)(x1:ai)
noncomputable def cY.s:Sc (Bool):=(.cl 1 2 (cU.ok k x1) λv6=>(.ret (!v6)))
theorem cY.ok:op k 203 ([.agp [.i x1.fType,.bool x1.Var,.int .u64 x1.Init],.p 0 1 0 0],[bp 1 [.fn 111 []]]) (λv7=>(.b v7,[bp 1 [.fn 111 []]])) (cY.f k x1):=by apply oP (cY.s · x1) k
end
def ct.b2(k:Nat)(s1:LGl):Int->Option (Int⊕(Unit⊕Int)):=λx40=>(if x40<(s1.length:Int)then((at? s1 x40).bind λe55=>((cY.f k e55).bind λr57=>(if r57=true then(some (.inr (.inr x40)))else(some (.inl (iadd .i64 x40 1))))))else(some (.inr (.inl ()))))
def ct.f:Nat->LGl->Option (Int)
 | 0,_=>none
 | k+1,s1=>(altB (loopS (ct.b2 k s1) k (0:Int)) (λ_=>(some (-1:Int))) (λx49=>(some x49)))
section
variable(k:Nat)(s1:LGl)
noncomputable def ct.s:Sc (Int):=(.rS 1 1 7 (lm ai.e s1) (.loop2 (V:=Int) (O:=Unit) (O2:=Int) 2 (0:Int) (λv50=>⟨mk 19 [(0,.l 3 ai.e s1),(1,.c (.fn 203 [.ptr 0 1 0 0])),(7,.i (s1.length:Int)),(8,.i v50)],[bp 1 [.fn 111 []]]⟩) (λv50=>(.bq 2 0 9 false (v50<(s1.length:Int)) (.op 4 3 (Rd.el ai.e s1 v50) λv56=>(.cl 4 5 (cY.ok k v56) λv58=>(.br 4 5 16 v58 (.ret (.inr (.inr v50))) (.ret (.inl (iadd .i64 v50 1)))))) (.ret (.inr (.inl ()))))) (.exit 0) (λv59=>⟨mk 19 [],[bp 1 [.fn 111 []]]⟩) (λv59=>(.ret (-1:Int))) .ret (λv60=>⟨mk 19 [(4,.i v60)],[bp 1 [.fn 111 []]]⟩) λv60=>(.ret v60)))
theorem ct.ok:op k 275 ([.l 3 ai.e s1,.c (.fn 203 [.ptr 0 1 0 0])],[bp 1 [.fn 111 []]]) (λv61=>(.i v61,[bp 1 [.fn 111 []]])) (ct.f k s1):=by apply oP (ct.s · s1) k
end
def bY.f:Nat->LGl->Option (Bool)
 | 0,_=>none
 | k+1,s1=>((ct.f k s1).bind λr5=>(some (decide (r5≥0))))
section
variable(k:Nat)(s1:LGl)
noncomputable def bY.s:Sc (Bool):=(.cl 1 2 (ct.ok k s1) λv6=>(.ret (decide (v6≥0))))
theorem bY.ok:op k 202 ([.l 3 ai.e s1,.c (.fn 203 [.ptr 0 1 0 0])],[bp 1 [.fn 111 []]]) (λv7=>(.b v7,[bp 1 [.fn 111 []]])) (bY.f k s1):=by apply oP (bY.s · s1) k
end
def cB.f:Nat->LGl->Option (Bool)
 | 0,_=>none
 | k+1,l1=>((bY.f k l1).bind λr5=>(some (!r5)))
section
variable(k:Nat)(l1:LGl)
noncomputable def cB.s:Sc (Bool):=(.cl 1 2 (bY.ok k l1) λv6=>(.ret (!v6)))
theorem cB.ok:op k 110 ([.l 3 ai.e l1,.c (.v (.fn 111 []))],[]) (λv7=>(.b v7,[])) (cB.f k l1):=by apply oB (cB.s · l1) k
end
def dN.f:Nat->aA->Option (Bool)
 | 0,_=>none
 | k+1,d1=>(if d1.Mem=0 then(segB (if d1.Active=true then((ao.f k d1.Mem (4:Int)).bind λr28=>(if r28=true then((aC.f k d1.At).bind λr30=>(some (.inl r30)))else(some (.inl false))))else(some (.inl (decide (d1.At=0))))) (λwhere27=>(if where27=true then(some (decide ((d1.Bytes.length:Int)<=1048576)))else(some false))))else(segB (if d1.Active=true then((ao.f k d1.Mem (4:Int)).bind λr38=>(if r38=true then((aC.f k d1.At).bind λr40=>(some (.inl r40)))else(some (.inl false))))else(some (.inl false))) (λwhere37=>(if where37=true then(some (decide ((d1.Bytes.length:Int)<=1048576)))else(some false)))))
section
variable(k:Nat)(d1:aA)
noncomputable def dN.s:Sc (Bool):=(.bq 1 3 7 false (d1.Mem=0) (.seg (O:=Bool) 4 (.br 2 1 13 d1.Active (.cl 3 2 (ao.ok k d1.Mem (4:Int)) λv29=>(.br 3 3 17 v29 (.cl 3 6 (aC.ok k d1.At) λv31=>(.ret (.inl v31))) (.ret (.inl false)))) (.ret (.inl (decide (d1.At=0))))) (λv32=>⟨mk 29 [(1,.p 0 4 0 0),(3,.b v32)],[bp 4 [.bool d1.Active,.i d1.Mem,.i d1.At,.l 1 (eI .u8) d1.Bytes]]⟩) λv32=>(.br 4 1 23 v32 (.rS 4 4 26 (lm (eI .u8) d1.Bytes) (.ret (decide ((d1.Bytes.length:Int)<=1048576)))) (.ret false))) (.seg (O:=Bool) 4 (.br 2 1 13 d1.Active (.cl 3 2 (ao.ok k d1.Mem (4:Int)) λv39=>(.br 3 3 17 v39 (.cl 3 6 (aC.ok k d1.At) λv41=>(.ret (.inl v41))) (.ret (.inl false)))) (.ret (.inl false))) (λv42=>⟨mk 29 [(1,.p 0 4 0 0),(3,.b v42)],[bp 4 [.bool d1.Active,.i d1.Mem,.i d1.At,.l 1 (eI .u8) d1.Bytes]]⟩) λv42=>(.br 4 1 23 v42 (.rS 4 4 26 (lm (eI .u8) d1.Bytes) (.ret (decide ((d1.Bytes.length:Int)<=1048576)))) (.ret false))))
theorem dN.ok:op k 114 ([.agp [.bool d1.Active,.i d1.Mem,.i d1.At,.l 1 (eI .u8) d1.Bytes]],[]) (λv43=>(.b v43,[])) (dN.f k d1):=by apply oB (dN.s · d1) k
end
def cV.f:Nat->aA->Option (Bool)
 | 0,_=>none
 | k+1,x1=>((dN.f k x1).bind λr5=>(some (!r5)))
section
variable(k:Nat)(x1:aA)
noncomputable def cV.s:Sc (Bool):=(.cl 1 2 (dN.ok k x1) λv6=>(.ret (!v6)))
theorem cV.ok:op k 206 ([.agp [.bool x1.Active,.i x1.Mem,.i x1.At,.l 1 (eI .u8) x1.Bytes],.c (.v (.ref [.fn 114 []]))],[]) (λv7=>(.b v7,[])) (cV.f k x1):=by apply oB (cV.s · x1) k
end
def co.b2(k:Nat)(s1:LDa):Int->Option (Int⊕(Unit⊕Int)):=λx40=>(if x40<(s1.length:Int)then((at? s1 x40).bind λe55=>((cV.f k e55).bind λr57=>(if r57=true then(some (.inr (.inr x40)))else(some (.inl (iadd .i64 x40 1))))))else(some (.inr (.inl ()))))
def co.f:Nat->LDa->Option (Int)
 | 0,_=>none
 | k+1,s1=>(altB (loopS (co.b2 k s1) k (0:Int)) (λ_=>(some (-1:Int))) (λx49=>(some x49)))
section
variable(k:Nat)(s1:LDa)
noncomputable def co.s:Sc (Int):=(.rS 1 1 7 (lm aA.e s1) (.loop2 (V:=Int) (O:=Unit) (O2:=Int) 2 (0:Int) (λv50=>⟨mk 19 [(0,.l 4 aA.e s1),(1,.c (.fn 206 [.ptr 0 1 0 0])),(7,.i (s1.length:Int)),(8,.i v50)],[bp 1 [.fn 114 []]]⟩) (λv50=>(.bq 2 0 9 false (v50<(s1.length:Int)) (.op 4 3 (Rd.el aA.e s1 v50) λv56=>(.op 4 5 (Rd.bcall (args:=[.agp [.bool v56.Active,.i v56.Mem,.i v56.At,.l 1 (eI .u8) v56.Bytes],.p 0 1 0 0]) (h:=[bp 1 [.fn 114 []]]) (cV.ok k v56) rfl rfl (by kernel_rfl) rfl (by kernel_rfl)) λv58=>(.br 4 5 16 v58 (.ret (.inr (.inr v50))) (.ret (.inl (iadd .i64 v50 1)))))) (.ret (.inr (.inl ()))))) (.exit 0) (λv59=>⟨mk 19 [],[bp 1 [.fn 114 []]]⟩) (λv59=>(.ret (-1:Int))) .ret (λv60=>⟨mk 19 [(4,.i v60)],[bp 1 [.fn 114 []]]⟩) λv60=>(.ret v60)))
theorem co.ok:op k 276 ([.l 4 aA.e s1,.c (.fn 206 [.ptr 0 1 0 0])],[bp 1 [.fn 114 []]]) (λv61=>(.i v61,[bp 1 [.fn 114 []]])) (co.f k s1):=by apply oP (co.s · s1) k
end
def bZ.f:Nat->LDa->Option (Bool)
 | 0,_=>none
 | k+1,s1=>((co.f k s1).bind λr5=>(some (decide (r5≥0))))
section
variable(k:Nat)(s1:LDa)
noncomputable def bZ.s:Sc (Bool):=(.cl 1 2 (co.ok k s1) λv6=>(.ret (decide (v6≥0))))
theorem bZ.ok:op k 205 ([.l 4 aA.e s1,.c (.fn 206 [.ptr 0 1 0 0])],[bp 1 [.fn 114 []]]) (λv7=>(.b v7,[bp 1 [.fn 114 []]])) (bZ.f k s1):=by apply oP (bZ.s · s1) k
end
def cw.f:Nat->LDa->Option (Bool)
 | 0,_=>none
 | k+1,l1=>((bZ.f k l1).bind λr5=>(some (!r5)))
section
variable(k:Nat)(l1:LDa)
noncomputable def cw.s:Sc (Bool):=(.cl 1 2 (bZ.ok k l1) λv6=>(.ret (!v6)))
theorem cw.ok:op k 113 ([.l 4 aA.e l1,.c (.v (.fn 114 []))],[]) (λv7=>(.b v7,[])) (cw.f k l1):=by apply oB (cw.s · l1) k
end
def dr.f:Nat->an->Option (Int)
 | 0,_=>none
 | k+1,m1=>((dC.f k m1).bind λr111=>(if r111=true then(some (13:Int))else(segB ((cM.f k m1.Types).bind λr130=>(if(!r130)=true then(some (.inl true))else((cO.f k m1.Imports).bind λr132=>(if(!r132)=true then(some (.inl true))else((aW.f k m1.Exports).bind λr134=>(if(!r134)=true then(some (.inl true))else((cy.f k m1.Customs).bind λr136=>(if(!r136)=true then(some (.inl true))else((cC.f k m1.Funcs).bind λr138=>(if(!r138)=true then(some (.inl true))else((cD.f k m1.Mems).bind λr140=>(if(!r140)=true then(some (.inl true))else((cB.f k m1.Globals).bind λr142=>(if(!r142)=true then(some (.inl true))else((cw.f k m1.Datas).bind λr144=>(if(!r144)=true then(some (.inl true))else(some (.inl false)))))))))))))))))) (λx129=>(if x129=true then(some (12:Int))else(some (0:Int)))))))
section
variable(k:Nat)(m1:an)
noncomputable def dr.s:Sc (Int):=(.cl 1 1 (dC.ok k m1) λv112=>(.br 1 2 3 v112 (.ret (13:Int)) (.seg (O:=Bool) 20000060000003 (.cl 3 2 (cM.ok k m1.Types) λv131=>(.br 3 4 6 (!v131) (.ret (.inl true)) (.cl 4 2 (cO.ok k m1.Imports) λv133=>(.br 4 4 6 (!v133) (.ret (.inl true)) (.cl 5 2 (aW.ok k m1.Exports) λv135=>(.br 5 4 6 (!v135) (.ret (.inl true)) (.cl 6 2 (cy.ok k m1.Customs) λv137=>(.br 6 4 6 (!v137) (.ret (.inl true)) (.cl 7 2 (cC.ok k m1.Funcs) λv139=>(.br 7 4 6 (!v139) (.ret (.inl true)) (.cl 8 2 (cD.ok k m1.Mems) λv141=>(.br 8 4 6 (!v141) (.ret (.inl true)) (.cl 9 2 (cB.ok k m1.Globals) λv143=>(.br 9 4 6 (!v143) (.ret (.inl true)) (.cl 10 2 (cw.ok k m1.Datas) λv145=>(.br 10 4 6 (!v145) (.ret (.inl true)) (.ret (.inl false)))))))))))))))))) (λv146=>⟨mk 39 [(1,.p 0 8 0 0),(6,.b v146)],[u6 m1]⟩) λv146=>(.br 2000006 900 6 v146 (.ret (12:Int)) (.ret (0:Int))))))
theorem dr.ok:op k 30 ([.agp (w6 m1)],[]) (λv147=>(.i v147,[])) (dr.f k m1):=by apply oB (dr.s · m1) k
end
end Go.R4
